/-
  What the functions compute is what the plain ones say, for all inputs at which those answer.
-/
import Derived.Test.YtbmkccjfldmgiaaEDGA21
import Derived.Test.YtbmkccjfldmgiaaProg
set_option linter.unusedSimpArgs false
set_option linter.unusedVariables false
namespace Go.Vm.GA21
open Go Go.Proofs
theorem ti3 : tinfo Try.prog 3 (.int .i64 0) 1 8 := by unfold tinfo; kernel_rfl
theorem ti4 : tinfo Try.prog 4 (.bool false) 1 1 := by unfold tinfo; kernel_rfl
theorem ti27 : tinfo Try.prog 27 (.slice none 0 0) 1 24 := by unfold tinfo; kernel_rfl
theorem ti29 : tinfo Try.prog 29 (.agg #[.int .i64 0, .int .i64 0, .int .i64 0, .int .i64 0, .bool false, .bool false]) 6 40 := by unfold tinfo; kernel_rfl
theorem ti31 : tinfo Try.prog 31 (.agg #[.int .i64 0, .int .i64 0, .int .i64 0, .int .i64 0, .int .i64 0, .bool false, .bool false, .int .i64 0, .int .i64 0]) 9 64 := by unfold tinfo; kernel_rfl
theorem ti45 : tinfo Try.prog 45 (.agg #[.int .i64 0, .int .i64 0, .int .i64 0, .int .i64 0, .int .i64 0, .bool false, .bool false, .int .i64 0, .int .i64 0, .int .i64 0]) 10 72 := by unfold tinfo; kernel_rfl
theorem ti46 : tinfo Try.prog 46 (.nilFunc) 1 8 := by unfold tinfo; kernel_rfl
theorem ti52 : tinfo Try.prog 52 (.agg #[.int .i64 0, .int .i64 0, .int .i64 0, .int .i64 0, .int .i64 0, .bool false, .bool false, .int .i64 0, .int .i64 0, .int .i64 0]) 10 72 := by unfold tinfo; kernel_rfl
theorem ti53 : tinfo Try.prog 53 (.slice none 0 0) 1 24 := by unfold tinfo; kernel_rfl
theorem ti88 : tinfo Try.prog 88 (.int .u64 0) 1 8 := by unfold tinfo; kernel_rfl
theorem pl29 : placesAre Try.prog 29 #[(0, 1), (1, 1), (2, 1), (3, 1), (4, 1), (5, 1)] := ⟨_, Try.underlying29, by kernel_rfl⟩
theorem pl31 : placesAre Try.prog 31 #[(0, 1), (1, 6), (7, 1), (8, 1)] := ⟨_, Try.underlying31, by kernel_rfl⟩
theorem pl45 : placesAre Try.prog 45 #[(0, 9), (9, 1)] := ⟨_, Try.underlying45, by kernel_rfl⟩
theorem pl52 : placesAre Try.prog 52 #[(0, 9), (9, 1)] := ⟨_, Try.underlying52, by kernel_rfl⟩
theorem en8 : enterable Try.prog 8 := ⟨Try.f8, Try.func8, by kernel_rfl, rfl⟩
theorem en9 : enterable Try.prog 9 := ⟨Try.f9, Try.func9, by kernel_rfl, rfl⟩
theorem en10 : enterable Try.prog 10 := ⟨Try.f10, Try.func10, by kernel_rfl, rfl⟩
theorem en11 : enterable Try.prog 11 := ⟨Try.f11, Try.func11, by kernel_rfl, rfl⟩
theorem en14 : enterable Try.prog 14 := ⟨Try.f14, Try.func14, by kernel_rfl, rfl⟩
theorem en17 : enterable Try.prog 17 := ⟨Try.f17, Try.func17, by kernel_rfl, rfl⟩
theorem en19 : enterable Try.prog 19 := ⟨Try.f19, Try.func19, by kernel_rfl, rfl⟩
theorem en20 : enterable Try.prog 20 := ⟨Try.f20, Try.func20, by kernel_rfl, rfl⟩
theorem en21 : enterable Try.prog 21 := ⟨Try.f21, Try.func21, by kernel_rfl, rfl⟩
theorem en22 : enterable Try.prog 22 := ⟨Try.f22, Try.func22, by kernel_rfl, rfl⟩
theorem en23 : enterable Try.prog 23 := ⟨Try.f23, Try.func23, by kernel_rfl, rfl⟩
theorem en24 : enterable Try.prog 24 := ⟨Try.f24, Try.func24, by kernel_rfl, rfl⟩
theorem en25 : enterable Try.prog 25 := ⟨Try.f25, Try.func25, by kernel_rfl, rfl⟩
theorem en26 : enterable Try.prog 26 := ⟨Try.f26, Try.func26, by kernel_rfl, rfl⟩
theorem en27 : enterable Try.prog 27 := ⟨Try.f27, Try.func27, by kernel_rfl, rfl⟩
theorem en28 : enterable Try.prog 28 := ⟨Try.f28, Try.func28, by kernel_rfl, rfl⟩
theorem en29 : enterable Try.prog 29 := ⟨Try.f29, Try.func29, by kernel_rfl, rfl⟩
theorem en30 : enterable Try.prog 30 := ⟨Try.f30, Try.func30, by kernel_rfl, rfl⟩
theorem en31 : enterable Try.prog 31 := ⟨Try.f31, Try.func31, by kernel_rfl, rfl⟩
theorem en32 : enterable Try.prog 32 := ⟨Try.f32, Try.func32, by kernel_rfl, rfl⟩
theorem en36 : enterable Try.prog 36 := ⟨Try.f36, Try.func36, by kernel_rfl, rfl⟩
theorem en37 : enterable Try.prog 37 := ⟨Try.f37, Try.func37, by kernel_rfl, rfl⟩
theorem en38 : enterable Try.prog 38 := ⟨Try.f38, Try.func38, by kernel_rfl, rfl⟩
theorem en39 : enterable Try.prog 39 := ⟨Try.f39, Try.func39, by kernel_rfl, rfl⟩
theorem en44 : enterable Try.prog 44 := ⟨Try.f44, Try.func44, by kernel_rfl, rfl⟩
theorem en45 : enterable Try.prog 45 := ⟨Try.f45, Try.func45, by kernel_rfl, rfl⟩
theorem en47 : enterable Try.prog 47 := ⟨Try.f47, Try.func47, by kernel_rfl, rfl⟩
theorem en48 : enterable Try.prog 48 := ⟨Try.f48, Try.func48, by kernel_rfl, rfl⟩
theorem en49 : enterable Try.prog 49 := ⟨Try.f49, Try.func49, by kernel_rfl, rfl⟩
theorem en50 : enterable Try.prog 50 := ⟨Try.f50, Try.func50, by kernel_rfl, rfl⟩
theorem en51 : enterable Try.prog 51 := ⟨Try.f51, Try.func51, by kernel_rfl, rfl⟩
theorem en52 : enterable Try.prog 52 := ⟨Try.f52, Try.func52, by kernel_rfl, rfl⟩
theorem en53 : enterable Try.prog 53 := ⟨Try.f53, Try.func53, by kernel_rfl, rfl⟩
theorem en54 : enterable Try.prog 54 := ⟨Try.f54, Try.func54, by kernel_rfl, rfl⟩
theorem en55 : enterable Try.prog 55 := ⟨Try.f55, Try.func55, by kernel_rfl, rfl⟩
theorem en58 : enterable Try.prog 58 := ⟨Try.f58, Try.func58, by kernel_rfl, rfl⟩
theorem en59 : enterable Try.prog 59 := ⟨Try.f59, Try.func59, by kernel_rfl, rfl⟩
theorem en60 : enterable Try.prog 60 := ⟨Try.f60, Try.func60, by kernel_rfl, rfl⟩
theorem en61 : enterable Try.prog 61 := ⟨Try.f61, Try.func61, by kernel_rfl, rfl⟩
theorem en62 : enterable Try.prog 62 := ⟨Try.f62, Try.func62, by kernel_rfl, rfl⟩
theorem en63 : enterable Try.prog 63 := ⟨Try.f63, Try.func63, by kernel_rfl, rfl⟩
theorem en64 : enterable Try.prog 64 := ⟨Try.f64, Try.func64, by kernel_rfl, rfl⟩
theorem en65 : enterable Try.prog 65 := ⟨Try.f65, Try.func65, by kernel_rfl, rfl⟩
theorem en66 : enterable Try.prog 66 := ⟨Try.f66, Try.func66, by kernel_rfl, rfl⟩
theorem en67 : enterable Try.prog 67 := ⟨Try.f67, Try.func67, by kernel_rfl, rfl⟩
theorem en68 : enterable Try.prog 68 := ⟨Try.f68, Try.func68, by kernel_rfl, rfl⟩
theorem en70 : enterable Try.prog 70 := ⟨Try.f70, Try.func70, by kernel_rfl, rfl⟩
theorem en71 : enterable Try.prog 71 := ⟨Try.f71, Try.func71, by kernel_rfl, rfl⟩
theorem en72 : enterable Try.prog 72 := ⟨Try.f72, Try.func72, by kernel_rfl, rfl⟩
theorem en73 : enterable Try.prog 73 := ⟨Try.f73, Try.func73, by kernel_rfl, rfl⟩
theorem en74 : enterable Try.prog 74 := ⟨Try.f74, Try.func74, by kernel_rfl, rfl⟩
theorem en75 : enterable Try.prog 75 := ⟨Try.f75, Try.func75, by kernel_rfl, rfl⟩
theorem en76 : enterable Try.prog 76 := ⟨Try.f76, Try.func76, by kernel_rfl, rfl⟩
set_option maxHeartbeats 4000000 in
set_option maxRecDepth 10000 in
theorem wk_law21_w (V : Vw) (Rs : List At) (p0 : Int) (p1 : Int) (p2 : Int) (ow : Ow V (Rs)) (r : TEvent) (h : law21_w p0 p1 p2 = some r) : ∃ v V', Cl Try.prog 0 21 #[.int .i64 p0, .int .i64 p1, .int .i64 p2] V.H v V'.H ∧ V.le V' ∧ (v = .agg #[.int .i64 r.t, .int .i64 r.act.kind, .int .i64 r.act.at_, .int .i64 r.act.val, .int .i64 r.act.what, .bool r.act.volatile, .bool r.act.final, .int .i64 r.rf, .int .i64 r.id] ∧ Ow V' (Rs)) := by
 refine Ct.of (Nat.zero_le _) Try.func21 rfl (nr rfl) ?_
 unfold law21_w at h
 refine WP.usreg rfl ?_
 refine O.alloc ow rfl rfl (.inl rfl) rfl ti31 rfl rfl nd (fun b1 V2 le3 ow4 => ?_)
 refine U.done (nr rfl) ?_
 refine WP.usreg rfl ?_
 refine U.p rfl rfl (.inl rfl) (S.move rfl (L 1 rfl rfl)) ?_
 refine U.p rfl rfl (.inl rfl) (S.move rfl (L 3 rfl rfl)) ?_
 refine U.p (v := .agg #[.int .i64 2, .int .i64 p1, .int .i64 1, .int .i64 0, .bool false, .bool false]) rfl rfl (.inl rfl) (S.build (vs := [.int .i64 2, .int .i64 p1, .int .i64 1]) rfl ti29 rfl pl29 (aC K (aC (L 0 rfl rfl) (aC K aN))) (allC (by simp [topV]) (allC (by simp [topV]) (allC (by simp [topV]) allN))) rfl) ?_
 refine U.p rfl rfl (.inl rfl) (S.move rfl (L 6 rfl rfl)) ?_
 refine U.p (v := .agg #[.int .i64 p0, .int .i64 2, .int .i64 p1, .int .i64 1, .int .i64 0, .bool false, .bool false, .int .i64 0, .int .i64 p2]) rfl rfl (.inl rfl) (S.build (vs := [.int .i64 p0, .agg #[.int .i64 2, .int .i64 p1, .int .i64 1, .int .i64 0, .bool false, .bool false], .int .i64 p2]) rfl ti31 rfl pl31 (aC (L 3 rfl rfl) (aC (L 1 rfl rfl) (aC (L 0 rfl rfl) aN))) (allC (by simp [topV]) (allC (by simp [topV]) (allC (by simp [topV]) allN))) (fill1 rfl rfl (nr rfl) (fillA (ws := [.int .i64 2, .int .i64 p1, .int .i64 1, .int .i64 0, .bool false, .bool false]) rfl rfl rfl (nr rfl) (fill1 rfl rfl (nr rfl) rfl)))) ?_
 refine O.store (k := 0) (cs := [.int .i64 p0, .int .i64 2, .int .i64 p1, .int .i64 1, .int .i64 0, .bool false, .bool false, .int .i64 0, .int .i64 p2]) (c' := [.int .i64 p0, .int .i64 2, .int .i64 p1, .int .i64 1, .int .i64 0, .bool false, .bool false, .int .i64 0, .int .i64 p2]) ow4 rfl rfl rfl (.inl rfl) rfl (L 5 rfl rfl) (L 0 rfl rfl) ti31 (by simp [topV]) rfl rfl (nr rfl) rfl rfl nd (fun V6 le7 ow8 => ?_)
 refine U.done (nr rfl) ?_
 refine WP.ret ?_
 refine fin.cellN (.inr rfl) rfl (L 5 rfl rfl) Try.underlying31 rfl ti31 (ow8.own (k := 0) rfl).get rfl ⟨V6, rfl, (le3.trans le7), ?_⟩
 have ow9 := ow8.drop 0 rfl
 have e10 := Option.some.inj h
 subst e10
 exact ⟨rfl, ow9⟩
set_option maxHeartbeats 4000000 in
set_option maxRecDepth 10000 in
theorem wk_law21_r (V : Vw) (Rs : List At) (p0 : Int) (p1 : Int) (p2 : Int) (ow : Ow V (Rs)) (r : TEvent) (h : law21_r p0 p1 p2 = some r) : ∃ v V', Cl Try.prog 0 22 #[.int .i64 p0, .int .i64 p1, .int .i64 p2] V.H v V'.H ∧ V.le V' ∧ (v = .agg #[.int .i64 r.t, .int .i64 r.act.kind, .int .i64 r.act.at_, .int .i64 r.act.val, .int .i64 r.act.what, .bool r.act.volatile, .bool r.act.final, .int .i64 r.rf, .int .i64 r.id] ∧ Ow V' (Rs)) := by
 refine Ct.of (Nat.zero_le _) Try.func22 rfl (nr rfl) ?_
 unfold law21_r at h
 refine WP.usreg rfl ?_
 refine O.alloc ow rfl rfl (.inl rfl) rfl ti31 rfl rfl nd (fun b1 V2 le3 ow4 => ?_)
 refine U.done (nr rfl) ?_
 refine WP.usreg rfl ?_
 refine U.p rfl rfl (.inl rfl) (S.move rfl (L 1 rfl rfl)) ?_
 refine U.p rfl rfl (.inl rfl) (S.move rfl (L 3 rfl rfl)) ?_
 refine U.p (v := .agg #[.int .i64 1, .int .i64 p1, .int .i64 0, .int .i64 0, .bool false, .bool false]) rfl rfl (.inl rfl) (S.build (vs := [.int .i64 1, .int .i64 p1]) rfl ti29 rfl pl29 (aC K (aC (L 0 rfl rfl) aN)) (allC (by simp [topV]) (allC (by simp [topV]) allN)) rfl) ?_
 refine U.p rfl rfl (.inl rfl) (S.move rfl (L 6 rfl rfl)) ?_
 refine U.p (v := .agg #[.int .i64 p0, .int .i64 1, .int .i64 p1, .int .i64 0, .int .i64 0, .bool false, .bool false, .int .i64 p2, .int .i64 0]) rfl rfl (.inl rfl) (S.build (vs := [.int .i64 p0, .agg #[.int .i64 1, .int .i64 p1, .int .i64 0, .int .i64 0, .bool false, .bool false], .int .i64 p2]) rfl ti31 rfl pl31 (aC (L 3 rfl rfl) (aC (L 1 rfl rfl) (aC (L 0 rfl rfl) aN))) (allC (by simp [topV]) (allC (by simp [topV]) (allC (by simp [topV]) allN))) (fill1 rfl rfl (nr rfl) (fillA (ws := [.int .i64 1, .int .i64 p1, .int .i64 0, .int .i64 0, .bool false, .bool false]) rfl rfl rfl (nr rfl) (fill1 rfl rfl (nr rfl) rfl)))) ?_
 refine O.store (k := 0) (cs := [.int .i64 p0, .int .i64 1, .int .i64 p1, .int .i64 0, .int .i64 0, .bool false, .bool false, .int .i64 p2, .int .i64 0]) (c' := [.int .i64 p0, .int .i64 1, .int .i64 p1, .int .i64 0, .int .i64 0, .bool false, .bool false, .int .i64 p2, .int .i64 0]) ow4 rfl rfl rfl (.inl rfl) rfl (L 5 rfl rfl) (L 0 rfl rfl) ti31 (by simp [topV]) rfl rfl (nr rfl) rfl rfl nd (fun V6 le7 ow8 => ?_)
 refine U.done (nr rfl) ?_
 refine WP.ret ?_
 refine fin.cellN (.inr rfl) rfl (L 5 rfl rfl) Try.underlying31 rfl ti31 (ow8.own (k := 0) rfl).get rfl ⟨V6, rfl, (le3.trans le7), ?_⟩
 have ow9 := ow8.drop 0 rfl
 have e10 := Option.some.inj h
 subst e10
 exact ⟨rfl, ow9⟩
set_option maxHeartbeats 4000000 in
set_option maxRecDepth 10000 in
theorem wk_order_writes (V : Vw) (Rs : List At) (p0 : TAct) (ow : Ow V (Rs)) (r : Bool) (h : order_writes p0 = some r) : ∃ v V', Cl Try.prog 0 39 #[.agg #[.int .i64 p0.kind, .int .i64 p0.at_, .int .i64 p0.val, .int .i64 p0.what, .bool p0.volatile, .bool p0.final]] V.H v V'.H ∧ V.le V' ∧ (v = .bool r ∧ Ow V' (Rs)) := by
 refine Ct.of (Nat.zero_le _) Try.func39 rfl (nr rfl) ?_
 unfold order_writes at h
 refine WP.usreg rfl ?_
 refine O.box ow rfl rfl (.inl rfl) rfl (L 0 rfl rfl) (by simp [topV]) rfl nd (fun b1 V2 le3 ow4 => ?_)
 refine U.p rfl rfl (.inl rfl) (S.assign rfl K) ?_
 refine U.done (nr rfl) ?_
 refine WP.usreg rfl ?_
 refine U.p (v := .pointer (some ⟨b1, 0, none⟩)) rfl rfl (.inl rfl) (S.fieldAddr rfl (L 1 rfl rfl) Try.underlying29 rfl ti3 rfl rfl) ?_
 refine U.k rfl rfl (.inl rfl) (S.load rfl (L 0 rfl rfl) Try.underlying3 rfl ((ow4.own (k := 0) rfl).cell rfl)) nd ?_
 refine U.p rfl rfl (.inl rfl) (S.eqlI rfl (L 0 rfl rfl) K) ?_
 refine U.p rfl rfl (.inl rfl) (S.move rfl (L 0 rfl rfl)) ?_
 refine U.joinX 8 (fun e H => ∃ (u6 u7 u8 : Value), H = V2.H ∧ e = [(10, .bool ((decide (p0.kind = 2)) || (decide (p0.kind = 5)))), (9, u6), (8, u7), (7, u8)]) ?_ ?_
 ·rintro _ _ ⟨u6, u7, u8, rfl, rfl⟩
  refine U.p rfl rfl (.inl rfl) (S.move rfl (L 0 rfl rfl)) ?_
  refine U.joinX 13 (fun e H => ∃ (u12 u13 u14 : Value), H = V2.H ∧ e = [(15, .bool (((decide (p0.kind = 2)) || (decide (p0.kind = 5))) || (decide (p0.kind = 6)))), (14, u12), (13, u13), (12, u14)]) ?_ ?_
  ·rintro _ _ ⟨u12, u13, u14, rfl, rfl⟩
   refine U.p rfl rfl (.inl rfl) (S.assign rfl (L 0 rfl rfl)) ?_
   refine U.done (nr rfl) ?_
   refine WP.ret ?_
   refine fin.slot (.inr rfl) rfl (L 0 rfl rfl) ⟨V2, rfl, le3, ?_⟩
   have ow18 := ow4.drop 0 rfl
   have e19 := Option.some.inj h
   subst e19
   exact ⟨rfl, ow18⟩
  ·intro kk
   refine bcase (b := (decide (p0.kind = 2)) || (decide (p0.kind = 5))) (fun g20 => ?_) (fun g20 => ?_)
   ·skip
    refine U.x rfl rfl rfl rfl ((L 0 rfl rfl).trans (congrArg Value.bool g20)) (by decide) ?_
    refine U.x rfl rfl rfl rfl ((L 1 rfl rfl).trans (congrArg Value.bool g20)) (by decide) ?_
    refine U.x rfl rfl rfl rfl ((L 2 rfl rfl).trans (congrArg Value.bool g20)) (by decide) ?_
    refine U.p rfl rfl (.inl rfl) (S.pickT rfl ((L 3 rfl rfl).trans (congrArg Value.bool g20)) K) ?_
    exact kk [(15, .bool true), (14, .tuple #[]), (13, .tuple #[]), (12, .tuple #[])] _ ⟨.tuple #[], .tuple #[], .tuple #[], rfl, (by rw [g20, Bool.true_or])⟩
   ·skip
    refine U.p (v := .pointer (some ⟨b1, 0, none⟩)) rfl rfl (.inr ⟨_, _, _, rfl, rfl, ((L 0 rfl rfl).trans (congrArg Value.bool g20))⟩) (S.fieldAddr rfl (L 10 rfl rfl) Try.underlying29 rfl ti3 rfl rfl) ?_
    refine U.k rfl rfl (.inr ⟨_, _, _, rfl, rfl, ((L 1 rfl rfl).trans (congrArg Value.bool g20))⟩) (S.load rfl (L 0 rfl rfl) Try.underlying3 rfl ((ow4.own (k := 0) rfl).cell rfl)) nd ?_
    refine U.p rfl rfl (.inr ⟨_, _, _, rfl, rfl, ((L 2 rfl rfl).trans (congrArg Value.bool g20))⟩) (S.eqlI rfl (L 0 rfl rfl) K) ?_
    refine U.p rfl rfl (.inl rfl) (S.pickF rfl ((L 3 rfl rfl).trans (congrArg Value.bool g20)) (L 0 rfl rfl)) ?_
    exact kk [(15, .bool (decide (p0.kind = 6))), (14, .bool (decide (p0.kind = 6))), (13, .int .i64 p0.kind), (12, .pointer (some ⟨b1, 0, none⟩))] _ ⟨.bool (decide (p0.kind = 6)), .int .i64 p0.kind, .pointer (some ⟨b1, 0, none⟩), rfl, (by rw [g20, Bool.false_or])⟩
 ·intro kk
  refine bcase (b := decide (p0.kind = 2)) (fun g21 => ?_) (fun g21 => ?_)
  ·skip
   refine U.x rfl rfl rfl rfl ((L 0 rfl rfl).trans (congrArg Value.bool g21)) (by decide) ?_
   refine U.x rfl rfl rfl rfl ((L 1 rfl rfl).trans (congrArg Value.bool g21)) (by decide) ?_
   refine U.x rfl rfl rfl rfl ((L 2 rfl rfl).trans (congrArg Value.bool g21)) (by decide) ?_
   refine U.p rfl rfl (.inl rfl) (S.pickT rfl ((L 3 rfl rfl).trans (congrArg Value.bool g21)) K) ?_
   exact kk [(10, .bool true), (9, .tuple #[]), (8, .tuple #[]), (7, .tuple #[])] _ ⟨.tuple #[], .tuple #[], .tuple #[], rfl, (by rw [g21, Bool.true_or])⟩
  ·skip
   refine U.p (v := .pointer (some ⟨b1, 0, none⟩)) rfl rfl (.inr ⟨_, _, _, rfl, rfl, ((L 0 rfl rfl).trans (congrArg Value.bool g21))⟩) (S.fieldAddr rfl (L 5 rfl rfl) Try.underlying29 rfl ti3 rfl rfl) ?_
   refine U.k rfl rfl (.inr ⟨_, _, _, rfl, rfl, ((L 1 rfl rfl).trans (congrArg Value.bool g21))⟩) (S.load rfl (L 0 rfl rfl) Try.underlying3 rfl ((ow4.own (k := 0) rfl).cell rfl)) nd ?_
   refine U.p rfl rfl (.inr ⟨_, _, _, rfl, rfl, ((L 2 rfl rfl).trans (congrArg Value.bool g21))⟩) (S.eqlI rfl (L 0 rfl rfl) K) ?_
   refine U.p rfl rfl (.inl rfl) (S.pickF rfl ((L 3 rfl rfl).trans (congrArg Value.bool g21)) (L 0 rfl rfl)) ?_
   exact kk [(10, .bool (decide (p0.kind = 5))), (9, .bool (decide (p0.kind = 5))), (8, .int .i64 p0.kind), (7, .pointer (some ⟨b1, 0, none⟩))] _ ⟨.bool (decide (p0.kind = 5)), .int .i64 p0.kind, .pointer (some ⟨b1, 0, none⟩), rfl, (by rw [g21, Bool.false_or])⟩
set_option maxHeartbeats 4000000 in
set_option maxRecDepth 10000 in
theorem wk_order_reads (V : Vw) (Rs : List At) (p0 : TAct) (ow : Ow V (Rs)) (r : Bool) (h : order_reads p0 = some r) : ∃ v V', Cl Try.prog 0 38 #[.agg #[.int .i64 p0.kind, .int .i64 p0.at_, .int .i64 p0.val, .int .i64 p0.what, .bool p0.volatile, .bool p0.final]] V.H v V'.H ∧ V.le V' ∧ (v = .bool r ∧ Ow V' (Rs)) := by
 refine Ct.of (Nat.zero_le _) Try.func38 rfl (nr rfl) ?_
 unfold order_reads at h
 refine WP.usreg rfl ?_
 refine O.box ow rfl rfl (.inl rfl) rfl (L 0 rfl rfl) (by simp [topV]) rfl nd (fun b1 V2 le3 ow4 => ?_)
 refine U.p rfl rfl (.inl rfl) (S.assign rfl K) ?_
 refine U.done (nr rfl) ?_
 refine WP.usreg rfl ?_
 refine U.p (v := .pointer (some ⟨b1, 0, none⟩)) rfl rfl (.inl rfl) (S.fieldAddr rfl (L 1 rfl rfl) Try.underlying29 rfl ti3 rfl rfl) ?_
 refine U.k rfl rfl (.inl rfl) (S.load rfl (L 0 rfl rfl) Try.underlying3 rfl ((ow4.own (k := 0) rfl).cell rfl)) nd ?_
 refine U.p rfl rfl (.inl rfl) (S.eqlI rfl (L 0 rfl rfl) K) ?_
 refine U.p rfl rfl (.inl rfl) (S.move rfl (L 0 rfl rfl)) ?_
 refine U.joinX 8 (fun e H => ∃ (u6 u7 u8 : Value), H = V2.H ∧ e = [(10, .bool ((decide (p0.kind = 1)) || (decide (p0.kind = 5)))), (9, u6), (8, u7), (7, u8)]) ?_ ?_
 ·rintro _ _ ⟨u6, u7, u8, rfl, rfl⟩
  refine U.p rfl rfl (.inl rfl) (S.assign rfl (L 0 rfl rfl)) ?_
  refine U.done (nr rfl) ?_
  refine WP.ret ?_
  refine fin.slot (.inr rfl) rfl (L 0 rfl rfl) ⟨V2, rfl, le3, ?_⟩
  have ow12 := ow4.drop 0 rfl
  have e13 := Option.some.inj h
  subst e13
  exact ⟨rfl, ow12⟩
 ·intro kk
  refine bcase (b := decide (p0.kind = 1)) (fun g14 => ?_) (fun g14 => ?_)
  ·skip
   refine U.x rfl rfl rfl rfl ((L 0 rfl rfl).trans (congrArg Value.bool g14)) (by decide) ?_
   refine U.x rfl rfl rfl rfl ((L 1 rfl rfl).trans (congrArg Value.bool g14)) (by decide) ?_
   refine U.x rfl rfl rfl rfl ((L 2 rfl rfl).trans (congrArg Value.bool g14)) (by decide) ?_
   refine U.p rfl rfl (.inl rfl) (S.pickT rfl ((L 3 rfl rfl).trans (congrArg Value.bool g14)) K) ?_
   exact kk [(10, .bool true), (9, .tuple #[]), (8, .tuple #[]), (7, .tuple #[])] _ ⟨.tuple #[], .tuple #[], .tuple #[], rfl, (by rw [g14, Bool.true_or])⟩
  ·skip
   refine U.p (v := .pointer (some ⟨b1, 0, none⟩)) rfl rfl (.inr ⟨_, _, _, rfl, rfl, ((L 0 rfl rfl).trans (congrArg Value.bool g14))⟩) (S.fieldAddr rfl (L 5 rfl rfl) Try.underlying29 rfl ti3 rfl rfl) ?_
   refine U.k rfl rfl (.inr ⟨_, _, _, rfl, rfl, ((L 1 rfl rfl).trans (congrArg Value.bool g14))⟩) (S.load rfl (L 0 rfl rfl) Try.underlying3 rfl ((ow4.own (k := 0) rfl).cell rfl)) nd ?_
   refine U.p rfl rfl (.inr ⟨_, _, _, rfl, rfl, ((L 2 rfl rfl).trans (congrArg Value.bool g14))⟩) (S.eqlI rfl (L 0 rfl rfl) K) ?_
   refine U.p rfl rfl (.inl rfl) (S.pickF rfl ((L 3 rfl rfl).trans (congrArg Value.bool g14)) (L 0 rfl rfl)) ?_
   exact kk [(10, .bool (decide (p0.kind = 5))), (9, .bool (decide (p0.kind = 5))), (8, .int .i64 p0.kind), (7, .pointer (some ⟨b1, 0, none⟩))] _ ⟨.bool (decide (p0.kind = 5)), .int .i64 p0.kind, .pointer (some ⟨b1, 0, none⟩), rfl, (by rw [g14, Bool.false_or])⟩
set_option maxHeartbeats 4000000 in
set_option maxRecDepth 10000 in
theorem wk_order_every (V : Vw) (Rs : List At) (p0 : TAct) (ow : Ow V (Rs)) (r : Bool) (h : order_every p0 = some r) : ∃ v V', Cl Try.prog 0 24 #[.agg #[.int .i64 p0.kind, .int .i64 p0.at_, .int .i64 p0.val, .int .i64 p0.what, .bool p0.volatile, .bool p0.final]] V.H v V'.H ∧ V.le V' ∧ (v = .bool r ∧ Ow V' (Rs)) := by
 refine Ct.of (Nat.zero_le _) Try.func24 rfl (nr rfl) ?_
 unfold order_every at h
 refine WP.usreg rfl ?_
 refine O.box ow rfl rfl (.inl rfl) rfl (L 0 rfl rfl) (by simp [topV]) rfl nd (fun b1 V2 le3 ow4 => ?_)
 refine U.p rfl rfl (.inl rfl) (S.assign rfl K) ?_
 refine U.done (nr rfl) ?_
 refine WP.usreg rfl ?_
 refine U.p rfl rfl (.inl rfl) (S.assign rfl K) ?_
 refine U.done (nr rfl) ?_
 refine WP.ret ?_
 refine fin.slot (.inr rfl) rfl (L 0 rfl rfl) ⟨V2, rfl, le3, ?_⟩
 have ow6 := ow4.drop 0 rfl
 have e7 := Option.some.inj h
 subst e7
 exact ⟨rfl, ow6⟩
set_option maxHeartbeats 4000000 in
set_option maxRecDepth 10000 in
theorem wk_order_Run_nodes (V : Vw) (Rs : List At) (p0 : List (List TEvent)) (v1 : Value) (hs2 : List Value) (ow : Ow V (.oss (RO.os RT_TEvent) v1 hs2 p0 :: Rs)) (r : List Tnd) (h : order_Run_nodes p0 = some r) : ∃ v V', Cl Try.prog 0 23 #[v1, .func (.func 24) #[] #[]] V.H v V'.H ∧ V.le V' ∧ (∃ (v4 : Value), v = v4 ∧ Ow V' (.os RT_Tnd v4 r :: .oss (RO.os RT_TEvent) v1 hs2 p0 :: Rs)) := by
 refine Ct.of (Nat.zero_le _) Try.func23 rfl (nr rfl) ?_
 unfold order_Run_nodes at h
 refine WP.usreg rfl ?_
 refine U.p rfl rfl (.inl rfl) (S.assign rfl K) ?_
 refine U.done (nr rfl) ?_
 refine WP.usreg rfl ?_
 refine U.p rfl rfl (.inl rfl) (S.assign rfl K) ?_
 refine U.done (nr rfl) ?_
 refine WP.seq ?_
 refine WP.usreg rfl ?_
 refine U.p rfl rfl (.inl rfl) (S.move rfl (L 2 rfl rfl)) ?_
 refine U.p rfl rfl (.inl rfl) (ow.sslen (k := 0) rfl rfl (L 0 rfl rfl) Try.underlying25) ?_
 refine U.p rfl rfl (.inl rfl) (S.move rfl K) ?_
 refine U.done (nr rfl) ?_
 refine WP.blk ?_
 have ow10 := ow.nil RT_Tnd
 have ow12 := ow10.pick 0 rfl
 have ow13 := ow12.pick 1 rfl
 unfold order_Run_nodes_l1 at h
 obtain ⟨n15, hn14⟩ := loopO_some.1 h
 refine WP.loopI2 (fun n l V' => ∃ (v7 : Value) (xs8 : List Tnd) (x9 : Int), l = [(1, .func (.func 24) #[] #[]), (5, v7), (10, v1), (11, .int .i64 (p0.length : Int)), (12, .int .i64 x9)] ∧ V.le V' ∧ Ow V' (.oss (RO.os RT_TEvent) v1 hs2 p0 :: .os RT_Tnd v7 xs8 :: Rs) ∧ itO (fun s => order_Run_nodes_l1b p0 s.1 s.2) n (xs8, x9) = some r) n15 _ ⟨(.slice none 0 0), [], 0, rfl, .refl _, ow13, hn14⟩ (allCons (L 6 rfl rfl) (allCons (L 3 rfl rfl) (allCons (L 2 rfl rfl) (allCons (L 1 rfl rfl) (allCons (L 0 rfl rfl) allNil))))) ?_
 rintro _ _ V16 ⟨v7, xs8, x9, rfl, le17, ow18, h22⟩
 obtain ⟨m19, q20, rfl, h23, e21⟩ := itS h22
 replace h23 : order_Run_nodes_l1b p0 xs8 x9 = some q20 := h23
 unfold order_Run_nodes_l1b at h23
 refine WP.usreg rfl ?_
 refine U.p rfl rfl (.inl rfl) (S.lss rfl (L 4 rfl rfl) (L 3 rfl rfl)) ?_
 refine U.done (nr rfl) ?_
 refine WP.seq ?_
 refine WP.cond _ (L 0 rfl rfl) rfl (fun c24 => ?_) (fun c24 => ?_)
 ·have h25 := ifT c24 h23
  refine WP.skip ?_
  refine sqN ?_
  refine WP.seq ?_
  refine WP.blk ?_
  refine WP.usreg rfl ?_
  obtain ⟨x26, hx27, h28⟩ := bindS h25
  obtain ⟨b29, o30, n31, c32, hv33⟩ := ow18.sspt (k := 0) rfl hx27
  refine U.p rfl rfl (.inl rfl) (S.index rfl ((L 3 rfl rfl).trans (ow18.sslen' (k := 0) rfl hv33)) (L 5 rfl rfl) Try.underlying25 ti27 (ix_ge hx27) (ix_lt hx27)) ?_
  obtain ⟨h34, hh35, ow36⟩ := ow18.ssopen (k := 0) rfl hx27
  have hcl38 := ow36.shcell (k := 1) rfl hv33 hh35
  refine U.k rfl rfl (.inl rfl) (S.load rfl (L 0 rfl rfl) Try.underlying27 rfl hcl38.2) nd ?_
  refine U.p rfl rfl (.inl rfl) (S.assign rfl (L 0 rfl rfl)) ?_
  refine U.done (nr rfl) ?_
  refine WP.usreg rfl ?_
  refine U.p rfl rfl (.inl rfl) (S.move rfl (L 0 rfl rfl)) ?_
  refine U.p rfl rfl (.inl rfl) (ow36.oslen (k := 0) rfl rfl (L 0 rfl rfl) Try.underlying27) ?_
  refine U.p rfl rfl (.inl rfl) (S.move rfl K) ?_
  refine U.done (nr rfl) ?_
  refine WP.blk ?_
  have ow39 := ow36.ssclose' (k := 1) (j := 0) rfl rfl (by decide) hh35 hx27
  unfold order_Run_nodes_l2 at h28
  obtain ⟨n45, hn44⟩ := loopO_some.1 h28
  refine WP.loopI2 (fun n l V' => ∃ (v41 : Value) (xs42 : List Tnd) (x43 : Int), l = [(1, .func (.func 24) #[] #[]), (5, v41), (10, v1), (11, .int .i64 (p0.length : Int)), (12, .int .i64 x9), (16, h34), (17, .int .i64 (x26.length : Int)), (18, .int .i64 x43)] ∧ V16.le V' ∧ Ow V' (.oss (RO.os RT_TEvent) v1 hs2 p0 :: .os RT_Tnd v41 xs42 :: Rs) ∧ itO (fun s => order_Run_nodes_l2b p0 x9 x26 s.1 s.2) n (xs42, x43) = some q20) n45 _ ⟨v7, xs8, 0, rfl, .refl _, ow39, hn44⟩ (allCons (L 7 rfl rfl) (allCons (L 8 rfl rfl) (allCons (L 9 rfl rfl) (allCons (L 10 rfl rfl) (allCons (L 11 rfl rfl) (allCons (L 2 rfl rfl) (allCons (L 1 rfl rfl) (allCons (L 0 rfl rfl) allNil)))))))) ?_
  rintro _ _ V46 ⟨v41, xs42, x43, rfl, le47, ow48, h52⟩
  obtain ⟨m49, q50, rfl, h53, e51⟩ := itS h52
  replace h53 : order_Run_nodes_l2b p0 x9 x26 xs42 x43 = some q50 := h53
  unfold order_Run_nodes_l2b at h53
  refine WP.usreg rfl ?_
  refine U.p rfl rfl (.inl rfl) (S.lss rfl (L 7 rfl rfl) (L 6 rfl rfl)) ?_
  refine U.done (nr rfl) ?_
  refine WP.seq ?_
  refine WP.cond _ (L 0 rfl rfl) rfl (fun c54 => ?_) (fun c54 => ?_)
  ·have h55 := ifT c54 h53
   refine WP.skip ?_
   refine sqN ?_
   refine WP.seqI (fun l V' => ∃ (v57 : Value) (xs58 : List Tnd), l = [(1, .func (.func 24) #[] #[]), (5, v57), (10, v1), (11, .int .i64 (p0.length : Int)), (12, .int .i64 x9), (16, h34), (17, .int .i64 (x26.length : Int)), (18, .int .i64 x43)] ∧ V46.le V' ∧ Ow V' (.oss (RO.os RT_TEvent) v1 hs2 p0 :: .os RT_Tnd v57 xs58 :: Rs) ∧ order_Run_nodes_k1 x43 xs58 = some q50) ?_ ?_
   ·rintro _ V59 ⟨v57, xs58, rfl, le60, ow61, h62⟩
    unfold order_Run_nodes_k1 at h62
    refine WP.ureg rfl ?_
    refine U.p rfl rfl (.inl rfl) (S.add rfl (L 7 rfl rfl) K) ?_
    refine U.p rfl rfl (.inl rfl) (S.move rfl (L 0 rfl rfl)) ?_
    refine U.done (nr rfl) ?_
    refine sqN ?_
    exact ⟨_, V59, rfl, ⟨m49, Nat.lt_succ_self _, v57, xs58, w64 (x43 + 1), rfl, (le47.trans le60), ow61, backS h62 e51⟩, (allCons (L 2 rfl rfl) (allCons (L 3 rfl rfl) (allCons (L 4 rfl rfl) (allCons (L 5 rfl rfl) (allCons (L 6 rfl rfl) (allCons (L 7 rfl rfl) (allCons (L 8 rfl rfl) (allCons (L 0 rfl rfl) allNil))))))))⟩
   ·skip
    refine WP.blk ?_
    refine WP.usreg rfl ?_
    refine U.p rfl rfl (.inl rfl) (S.move rfl (L 8 rfl rfl)) ?_
    obtain ⟨x63, hx64, h65⟩ := bindS h55
    obtain ⟨h66, hh67, ow68⟩ := ow48.ssopen (k := 0) rfl hx64
    obtain rfl : h66 = h34 := Option.some.inj (hh67.symm.trans hh35)
    obtain ⟨x70, hx71, h72⟩ := bindS h65
    obtain ⟨b73, o74, n75, c76, hv77⟩ := ow68.ospt (k := 0) rfl hx71
    obtain ⟨_, hv78, _⟩ := ow68.osel (k := 0) rfl hv77 hx71
    refine U.p rfl rfl (.inl rfl) (S.index rfl ((L 7 rfl rfl).trans hv78) (L 9 rfl rfl) Try.underlying27 ti31 (ix_ge hx71) (ix_lt hx71)) ?_
    obtain ⟨cs79, hv80, hlt81, hr82, hc83⟩ := ow68.osel (k := 0) rfl hv77 hx71
    obtain rfl : cs79 = [.int .i64 x70.t, .int .i64 x70.act.kind, .int .i64 x70.act.at_, .int .i64 x70.act.val, .int .i64 x70.act.what, .bool x70.act.volatile, .bool x70.act.final, .int .i64 x70.rf, .int .i64 x70.id] := hr82
    refine U.k rfl rfl (.inl rfl) (S.loadN (cs := [.int .i64 x70.t, .int .i64 x70.act.kind, .int .i64 x70.act.at_, .int .i64 x70.act.val, .int .i64 x70.act.what, .bool x70.act.volatile, .bool x70.act.final, .int .i64 x70.rf, .int .i64 x70.id]) rfl (L 0 rfl rfl) Try.underlying31 rfl ti31 rfl hc83) nd ?_
    refine O.alloc ow68 rfl rfl (.inl rfl) rfl ti31 rfl rfl nd (fun b84 V85 le86 ow87 => ?_)
    refine U.p rfl rfl (.inl rfl) (S.assign rfl (L 3 rfl rfl)) ?_
    refine O.store (k := 0) (cs := [.int .i64 x70.t, .int .i64 x70.act.kind, .int .i64 x70.act.at_, .int .i64 x70.act.val, .int .i64 x70.act.what, .bool x70.act.volatile, .bool x70.act.final, .int .i64 x70.rf, .int .i64 x70.id]) (c' := [.int .i64 x70.t, .int .i64 x70.act.kind, .int .i64 x70.act.at_, .int .i64 x70.act.val, .int .i64 x70.act.what, .bool x70.act.volatile, .bool x70.act.final, .int .i64 x70.rf, .int .i64 x70.id]) ow87 rfl rfl rfl (.inl rfl) rfl (L 1 rfl rfl) (L 2 rfl rfl) ti31 (by simp [topV]) rfl rfl (nr rfl) rfl rfl nd (fun V89 le90 ow91 => ?_)
    refine U.done (nr rfl) ?_
    refine WP.usreg rfl ?_
    refine U.p (v := .pointer (some ⟨b84, 1, none⟩)) rfl rfl (.inl rfl) (S.fieldAddr rfl (L 1 rfl rfl) Try.underlying31 rfl ti29 rfl rfl) ?_
    refine U.k rfl rfl (.inl rfl) (S.loadN (cs := [.int .i64 x70.act.kind, .int .i64 x70.act.at_, .int .i64 x70.act.val, .int .i64 x70.act.what, .bool x70.act.volatile, .bool x70.act.final]) rfl (L 0 rfl rfl) Try.underlying29 rfl ti29 rfl (cellsOfOwn (ow91.own (k := 0) rfl) 1 rfl)) nd ?_
    obtain ⟨x92, hx93, h94⟩ := bindS h72
    refine O.call (V := V89) rfl rfl (.inl rfl) rfl en39 (aC (L 0 rfl rfl) aN) (wk_order_writes V89 _ x70.act ow91 _ hx93) (fun _ _ _ _ => nd) (fun v95 V96 le97 hp98 => ?_)
    obtain ⟨rfl, ow99⟩ := hp98
    refine U.p rfl rfl (.inl rfl) (S.move rfl (L 0 rfl rfl)) ?_
    have ow100 := ow99.ssclose' (k := 2) (j := 1) rfl rfl (by decide) hh35 hx64
    obtain ⟨y101, hy102, h103⟩ := bindS h94
    refine U.joinX 8 (fun e H => ∃ (u104 u105 u106 : Value), ∃ V' : Vw, H = V'.H ∧ V96.le V' ∧ e = [(30, .bool y101), (29, u104), (28, u105), (27, u106)] ∧ Ow V' (.pt b84 (.cells 9 [.int .i64 x70.t, .int .i64 x70.act.kind, .int .i64 x70.act.at_, .int .i64 x70.act.val, .int .i64 x70.act.what, .bool x70.act.volatile, .bool x70.act.final, .int .i64 x70.rf, .int .i64 x70.id]) :: .oss (RO.os RT_TEvent) v1 hs2 p0 :: .os RT_Tnd v41 xs42 :: Rs)) ?_ ?_
    ·rintro _ _ ⟨u104, u105, u106, V107, rfl, le108, rfl, ow109⟩
     refine U.p rfl rfl (.inl rfl) (S.move rfl (L 0 rfl rfl)) ?_
     obtain ⟨y110, hy111, h112⟩ := bindS h103
     refine U.joinX 14 (fun e H => ∃ (u113 u114 u115 u116 : Value), ∃ V' : Vw, H = V'.H ∧ V107.le V' ∧ e = [(36, .bool y110), (35, u113), (34, u114), (33, u115), (32, u116)] ∧ Ow V' (.pt b84 (.cells 9 [.int .i64 x70.t, .int .i64 x70.act.kind, .int .i64 x70.act.at_, .int .i64 x70.act.val, .int .i64 x70.act.what, .bool x70.act.volatile, .bool x70.act.final, .int .i64 x70.rf, .int .i64 x70.id]) :: .oss (RO.os RT_TEvent) v1 hs2 p0 :: .os RT_Tnd v41 xs42 :: Rs)) ?_ ?_
     ·rintro _ _ ⟨u113, u114, u115, u116, V117, rfl, le118, rfl, ow119⟩
      refine U.done (nr rfl) ?_
      refine WP.cond _ (L 0 rfl rfl) rfl (fun c120 => ?_) (fun c120 => ?_)
      ·have h121 := ifT c120 h112
       refine WP.ureg rfl ?_
       refine U.p rfl rfl (.inl rfl) (S.move rfl (L 21 rfl rfl)) ?_
       refine U.k rfl rfl (.inl rfl) (S.loadB rfl (L 16 rfl rfl) Try.underlying31 rfl ti31 (ow119.own (k := 0) rfl).get rfl) nd ?_
       refine U.p rfl rfl (.inl rfl) (S.move rfl (L 16 rfl rfl)) ?_
       refine U.p (v := .agg #[.int .i64 x70.t, .int .i64 x70.act.kind, .int .i64 x70.act.at_, .int .i64 x70.act.val, .int .i64 x70.act.what, .bool x70.act.volatile, .bool x70.act.final, .int .i64 x70.rf, .int .i64 x70.id, .int .i64 x43]) rfl rfl (.inl rfl) (S.build (vs := [.agg #[.int .i64 x70.t, .int .i64 x70.act.kind, .int .i64 x70.act.at_, .int .i64 x70.act.val, .int .i64 x70.act.what, .bool x70.act.volatile, .bool x70.act.final, .int .i64 x70.rf, .int .i64 x70.id], .int .i64 x43]) rfl ti45 rfl pl45 (aC (L 1 rfl rfl) (aC (L 0 rfl rfl) aN)) (allC (by simp [topV]) (allC (by simp [topV]) allN)) (fillA (ws := [.int .i64 x70.t, .int .i64 x70.act.kind, .int .i64 x70.act.at_, .int .i64 x70.act.val, .int .i64 x70.act.what, .bool x70.act.volatile, .bool x70.act.final, .int .i64 x70.rf, .int .i64 x70.id]) rfl rfl rfl (nr rfl) (fill1 rfl rfl (nr rfl) rfl))) ?_
       refine O.lit (R := RT_Tnd) ow119 rfl rfl (.inl rfl) rfl Try.underlying38 ti45 rfl rfl rfl (nr rfl) rfl (aC (L 0 rfl rfl) aN) (.cons _ _ (⟨x70, x43⟩ : Tnd) _ (by simp [topV]) rfl .nil) (fun _ => nd) (fun v122 V123 le124 ow125 => ?_)
       obtain ⟨xs127, hx128, h129⟩ := bindS h121
       refine O.append (k := 3) ow125 rfl rfl rfl (.inl rfl) rfl (L 4 rfl rfl) (L 0 rfl rfl) Try.underlying38 ti45 rfl rfl (nr rfl) (ow125.src (k := 0) rfl Try.underlying38) hx128 (fun _ _ => nd) (fun v130 V131 le132 ow133 => ?_)
       refine U.p rfl rfl (.inl rfl) (S.assign rfl (L 0 rfl rfl)) ?_
       refine U.done (nr rfl) ?_
       refine blkN (sqN ?_)
       have ow135 := ow133.drop 0 rfl
       have ow136 := ow135.drop 0 rfl
       exact ⟨_, V131, rfl, ⟨v130, xs127, rfl, ((((((le86.trans le90).trans le97).trans le108).trans le118).trans le124).trans le132), ow136, h129⟩, (allCons (L 27 rfl rfl) (allCons (L 0 rfl rfl) (allCons (L 29 rfl rfl) (allCons (L 30 rfl rfl) (allCons (L 31 rfl rfl) (allCons (L 32 rfl rfl) (allCons (L 33 rfl rfl) (allCons (L 34 rfl rfl) allNil))))))))⟩
      ·have h137 := ifF c120 h112
       refine WP.skip ?_
       refine blkN (sqN ?_)
       have ow138 := ow119.drop 0 rfl
       exact ⟨_, V117, rfl, ⟨v41, xs42, rfl, ((((le86.trans le90).trans le97).trans le108).trans le118), ow138, h137⟩, (allCons (L 20 rfl rfl) (allCons (L 21 rfl rfl) (allCons (L 22 rfl rfl) (allCons (L 23 rfl rfl) (allCons (L 24 rfl rfl) (allCons (L 25 rfl rfl) (allCons (L 26 rfl rfl) (allCons (L 27 rfl rfl) allNil))))))))⟩
     ·intro kk
      refine bcase (b := y101) (fun g139 => ?_) (fun g139 => ?_)
      ·have h140 := ifT g139 hy111
       refine U.p rfl rfl (.inr ⟨_, _, _, rfl, rfl, ((L 0 rfl rfl).trans (congrArg Value.bool g139))⟩) (S.move rfl (L 15 rfl rfl)) ?_
       refine U.p (v := .pointer (some ⟨b84, 1, none⟩)) rfl rfl (.inr ⟨_, _, _, rfl, rfl, ((L 1 rfl rfl).trans (congrArg Value.bool g139))⟩) (S.fieldAddr rfl (L 11 rfl rfl) Try.underlying31 rfl ti29 rfl rfl) ?_
       refine U.k rfl rfl (.inr ⟨_, _, _, rfl, rfl, ((L 2 rfl rfl).trans (congrArg Value.bool g139))⟩) (S.loadN (cs := [.int .i64 x70.act.kind, .int .i64 x70.act.at_, .int .i64 x70.act.val, .int .i64 x70.act.what, .bool x70.act.volatile, .bool x70.act.final]) rfl (L 0 rfl rfl) Try.underlying29 rfl ti29 rfl (cellsOfOwn (ow109.own (k := 0) rfl) 1 rfl)) nd ?_
       obtain ⟨x141, hx142, h143⟩ := bindS h140
       refine O.callv (V := V107) rfl rfl (.inr ⟨_, _, _, rfl, rfl, ((L 3 rfl rfl).trans (congrArg Value.bool g139))⟩) rfl (L 2 rfl rfl) en24 (aC (L 0 rfl rfl) aN) (wk_order_every V107 _ x70.act ow109 _ hx142) (fun _ _ _ _ => nd) (fun v144 V145 le146 hp147 => ?_)
       obtain ⟨rfl, ow148⟩ := hp147
       refine U.p rfl rfl (.inl rfl) (S.pickT rfl ((L 4 rfl rfl).trans (congrArg Value.bool g139)) (L 0 rfl rfl)) ?_
       have e149 := Option.some.inj h143
       subst e149
       exact kk [(36, .bool x141), (35, .bool x141), (34, .agg #[.int .i64 x70.act.kind, .int .i64 x70.act.at_, .int .i64 x70.act.val, .int .i64 x70.act.what, .bool x70.act.volatile, .bool x70.act.final]), (33, .pointer (some ⟨b84, 1, none⟩)), (32, .func (.func 24) #[] #[])] _ ⟨.bool x141, .agg #[.int .i64 x70.act.kind, .int .i64 x70.act.at_, .int .i64 x70.act.val, .int .i64 x70.act.what, .bool x70.act.volatile, .bool x70.act.final], .pointer (some ⟨b84, 1, none⟩), .func (.func 24) #[] #[], V145, rfl, le146, rfl, ow148⟩
      ·have h150 := ifF g139 hy111
       refine U.x rfl rfl rfl rfl ((L 0 rfl rfl).trans (congrArg Value.bool g139)) (by decide) ?_
       refine U.x rfl rfl rfl rfl ((L 1 rfl rfl).trans (congrArg Value.bool g139)) (by decide) ?_
       refine U.x rfl rfl rfl rfl ((L 2 rfl rfl).trans (congrArg Value.bool g139)) (by decide) ?_
       refine U.x rfl rfl rfl rfl ((L 3 rfl rfl).trans (congrArg Value.bool g139)) (by decide) ?_
       refine U.p rfl rfl (.inl rfl) (S.pickF rfl ((L 4 rfl rfl).trans (congrArg Value.bool g139)) K) ?_
       have e151 := Option.some.inj h150
       subst e151
       exact kk [(36, .bool false), (35, .tuple #[]), (34, .tuple #[]), (33, .tuple #[]), (32, .tuple #[])] _ ⟨.tuple #[], .tuple #[], .tuple #[], .tuple #[], V107, rfl, (.refl _), rfl, ow109⟩
    ·intro kk
     refine bcase (b := x92) (fun g152 => ?_) (fun g152 => ?_)
     ·have h153 := ifT g152 hy102
      refine U.x rfl rfl rfl rfl ((L 0 rfl rfl).trans (congrArg Value.bool g152)) (by decide) ?_
      refine U.x rfl rfl rfl rfl ((L 1 rfl rfl).trans (congrArg Value.bool g152)) (by decide) ?_
      refine U.x rfl rfl rfl rfl ((L 2 rfl rfl).trans (congrArg Value.bool g152)) (by decide) ?_
      refine U.p rfl rfl (.inl rfl) (S.pickT rfl ((L 3 rfl rfl).trans (congrArg Value.bool g152)) K) ?_
      have e154 := Option.some.inj h153
      subst e154
      exact kk [(30, .bool true), (29, .tuple #[]), (28, .tuple #[]), (27, .tuple #[])] _ ⟨.tuple #[], .tuple #[], .tuple #[], V96, rfl, (.refl _), rfl, ow100⟩
     ·have h155 := ifF g152 hy102
      refine U.p (v := .pointer (some ⟨b84, 1, none⟩)) rfl rfl (.inr ⟨_, _, _, rfl, rfl, ((L 0 rfl rfl).trans (congrArg Value.bool g152))⟩) (S.fieldAddr rfl (L 5 rfl rfl) Try.underlying31 rfl ti29 rfl rfl) ?_
      refine U.k rfl rfl (.inr ⟨_, _, _, rfl, rfl, ((L 1 rfl rfl).trans (congrArg Value.bool g152))⟩) (S.loadN (cs := [.int .i64 x70.act.kind, .int .i64 x70.act.at_, .int .i64 x70.act.val, .int .i64 x70.act.what, .bool x70.act.volatile, .bool x70.act.final]) rfl (L 0 rfl rfl) Try.underlying29 rfl ti29 rfl (cellsOfOwn (ow100.own (k := 0) rfl) 1 rfl)) nd ?_
      obtain ⟨x156, hx157, h158⟩ := bindS h155
      refine O.call (V := V96) rfl rfl (.inr ⟨_, _, _, rfl, rfl, ((L 2 rfl rfl).trans (congrArg Value.bool g152))⟩) rfl en38 (aC (L 0 rfl rfl) aN) (wk_order_reads V96 _ x70.act ow100 _ hx157) (fun _ _ _ _ => nd) (fun v159 V160 le161 hp162 => ?_)
      obtain ⟨rfl, ow163⟩ := hp162
      refine U.p rfl rfl (.inl rfl) (S.pickF rfl ((L 3 rfl rfl).trans (congrArg Value.bool g152)) (L 0 rfl rfl)) ?_
      have e164 := Option.some.inj h158
      subst e164
      exact kk [(30, .bool x156), (29, .bool x156), (28, .agg #[.int .i64 x70.act.kind, .int .i64 x70.act.at_, .int .i64 x70.act.val, .int .i64 x70.act.what, .bool x70.act.volatile, .bool x70.act.final]), (27, .pointer (some ⟨b84, 1, none⟩))] _ ⟨.bool x156, .agg #[.int .i64 x70.act.kind, .int .i64 x70.act.at_, .int .i64 x70.act.val, .int .i64 x70.act.what, .bool x70.act.volatile, .bool x70.act.final], .pointer (some ⟨b84, 1, none⟩), V160, rfl, le161, rfl, ow163⟩
  ·have h165 := ifF c54 h53
   refine WP.exit ?_
   refine sqE (sqE (blkE (blkN (sqN ?_))))
   have h166 := exitS h165 e51
   refine WP.ureg rfl ?_
   refine U.p rfl rfl (.inl rfl) (S.add rfl (L 5 rfl rfl) K) ?_
   refine U.p rfl rfl (.inl rfl) (S.move rfl (L 0 rfl rfl)) ?_
   refine U.done (nr rfl) ?_
   refine sqN ?_
   exact ⟨_, V46, rfl, ⟨m19, Nat.lt_succ_self _, v41, xs42, w64 (x9 + 1), rfl, (le17.trans le47), ow48, backS h166 e21⟩, (allCons (L 3 rfl rfl) (allCons (L 4 rfl rfl) (allCons (L 5 rfl rfl) (allCons (L 6 rfl rfl) (allCons (L 0 rfl rfl) allNil)))))⟩
 ·have h167 := ifF c24 h23
  refine WP.exit ?_
  refine sqE (sqE (blkE (sqN ?_)))
  have h168 := exitS h167 e21
  refine WP.usreg rfl ?_
  refine U.p rfl rfl (.inl rfl) (S.move rfl (L 2 rfl rfl)) ?_
  refine U.p rfl rfl (.inl rfl) (S.assign rfl (L 0 rfl rfl)) ?_
  refine U.done (nr rfl) ?_
  refine WP.ret ?_
  refine fin.slot (.inr rfl) rfl (L 0 rfl rfl) ⟨V16, rfl, le17, ?_⟩
  have ow169 := ow18.pick 0 rfl
  have ow170 := ow169.pick 1 rfl
  have e171 := Option.some.inj h168
  subst e171
  exact ⟨v7, rfl, ow170⟩
set_option maxHeartbeats 4000000 in
set_option maxRecDepth 10000 in
theorem wk_order_po (V : Vw) (Rs : List At) (p0 : Tnd) (p1 : Tnd) (ow : Ow V (Rs)) (r : Bool) (h : order_po p0 p1 = some r) : ∃ v V', Cl Try.prog 0 27 #[.agg #[.int .i64 p0.e.t, .int .i64 p0.e.act.kind, .int .i64 p0.e.act.at_, .int .i64 p0.e.act.val, .int .i64 p0.e.act.what, .bool p0.e.act.volatile, .bool p0.e.act.final, .int .i64 p0.e.rf, .int .i64 p0.e.id, .int .i64 p0.at_], .agg #[.int .i64 p1.e.t, .int .i64 p1.e.act.kind, .int .i64 p1.e.act.at_, .int .i64 p1.e.act.val, .int .i64 p1.e.act.what, .bool p1.e.act.volatile, .bool p1.e.act.final, .int .i64 p1.e.rf, .int .i64 p1.e.id, .int .i64 p1.at_]] V.H v V'.H ∧ V.le V' ∧ (v = .bool r ∧ Ow V' (Rs)) := by
 refine Ct.of (Nat.zero_le _) Try.func27 rfl (nr rfl) ?_
 unfold order_po at h
 refine WP.usreg rfl ?_
 refine O.box ow rfl rfl (.inl rfl) rfl (L 0 rfl rfl) (by simp [topV]) rfl nd (fun b1 V2 le3 ow4 => ?_)
 refine O.box ow4 rfl rfl (.inl rfl) rfl (L 2 rfl rfl) (by simp [topV]) rfl nd (fun b6 V7 le8 ow9 => ?_)
 refine U.p rfl rfl (.inl rfl) (S.assign rfl K) ?_
 refine U.done (nr rfl) ?_
 refine WP.usreg rfl ?_
 refine U.p (v := .pointer (some ⟨b1, 0, none⟩)) rfl rfl (.inl rfl) (S.fieldAddr rfl (L 2 rfl rfl) Try.underlying45 rfl ti31 rfl rfl) ?_
 refine U.p (v := .pointer (some ⟨b1, 0, none⟩)) rfl rfl (.inl rfl) (S.fieldAddr rfl (L 0 rfl rfl) Try.underlying31 rfl ti3 rfl rfl) ?_
 refine U.k rfl rfl (.inl rfl) (S.load rfl (L 0 rfl rfl) Try.underlying3 rfl ((ow9.own (k := 1) rfl).cell rfl)) nd ?_
 refine U.p (v := .pointer (some ⟨b6, 0, none⟩)) rfl rfl (.inl rfl) (S.fieldAddr rfl (L 4 rfl rfl) Try.underlying45 rfl ti31 rfl rfl) ?_
 refine U.p (v := .pointer (some ⟨b6, 0, none⟩)) rfl rfl (.inl rfl) (S.fieldAddr rfl (L 0 rfl rfl) Try.underlying31 rfl ti3 rfl rfl) ?_
 refine U.k rfl rfl (.inl rfl) (S.load rfl (L 0 rfl rfl) Try.underlying3 rfl ((ow9.own (k := 0) rfl).cell rfl)) nd ?_
 refine U.p rfl rfl (.inl rfl) (S.eqlI rfl (L 3 rfl rfl) (L 0 rfl rfl)) ?_
 refine U.p rfl rfl (.inl rfl) (S.move rfl (L 0 rfl rfl)) ?_
 refine U.joinX 14 (fun e H => ∃ (u11 u12 u13 u14 u15 : Value), H = V7.H ∧ e = [(18, .bool ((decide (p0.e.t = p1.e.t)) && (decide (p0.at_ < p1.at_)))), (17, u11), (16, u12), (15, u13), (14, u14), (13, u15)]) ?_ ?_
 ·rintro _ _ ⟨u11, u12, u13, u14, u15, rfl, rfl⟩
  refine U.p rfl rfl (.inl rfl) (S.assign rfl (L 0 rfl rfl)) ?_
  refine U.done (nr rfl) ?_
  refine WP.ret ?_
  refine fin.slot (.inr rfl) rfl (L 0 rfl rfl) ⟨V7, rfl, (le3.trans le8), ?_⟩
  have ow19 := ow9.drop 0 rfl
  have ow20 := ow19.drop 0 rfl
  have e21 := Option.some.inj h
  subst e21
  exact ⟨rfl, ow20⟩
 ·intro kk
  refine bcase (b := decide (p0.e.t = p1.e.t)) (fun g22 => ?_) (fun g22 => ?_)
  ·skip
   refine U.p (v := .pointer (some ⟨b1, 9, none⟩)) rfl rfl (.inr ⟨_, _, _, rfl, rfl, ((L 0 rfl rfl).trans (congrArg Value.bool g22))⟩) (S.fieldAddr rfl (L 10 rfl rfl) Try.underlying45 rfl ti3 rfl rfl) ?_
   refine U.k rfl rfl (.inr ⟨_, _, _, rfl, rfl, ((L 1 rfl rfl).trans (congrArg Value.bool g22))⟩) (S.load rfl (L 0 rfl rfl) Try.underlying3 rfl ((ow9.own (k := 1) rfl).cell rfl)) nd ?_
   refine U.p (v := .pointer (some ⟨b6, 9, none⟩)) rfl rfl (.inr ⟨_, _, _, rfl, rfl, ((L 2 rfl rfl).trans (congrArg Value.bool g22))⟩) (S.fieldAddr rfl (L 11 rfl rfl) Try.underlying45 rfl ti3 rfl rfl) ?_
   refine U.k rfl rfl (.inr ⟨_, _, _, rfl, rfl, ((L 3 rfl rfl).trans (congrArg Value.bool g22))⟩) (S.load rfl (L 0 rfl rfl) Try.underlying3 rfl ((ow9.own (k := 0) rfl).cell rfl)) nd ?_
   refine U.p rfl rfl (.inr ⟨_, _, _, rfl, rfl, ((L 4 rfl rfl).trans (congrArg Value.bool g22))⟩) (S.lss rfl (L 2 rfl rfl) (L 0 rfl rfl)) ?_
   refine U.p rfl rfl (.inl rfl) (S.pickT rfl ((L 5 rfl rfl).trans (congrArg Value.bool g22)) (L 0 rfl rfl)) ?_
   exact kk [(18, .bool (decide (p0.at_ < p1.at_))), (17, .bool (decide (p0.at_ < p1.at_))), (16, .int .i64 p1.at_), (15, .pointer (some ⟨b6, 9, none⟩)), (14, .int .i64 p0.at_), (13, .pointer (some ⟨b1, 9, none⟩))] _ ⟨.bool (decide (p0.at_ < p1.at_)), .int .i64 p1.at_, .pointer (some ⟨b6, 9, none⟩), .int .i64 p0.at_, .pointer (some ⟨b1, 9, none⟩), rfl, (by rw [g22, Bool.true_and])⟩
  ·skip
   refine U.x rfl rfl rfl rfl ((L 0 rfl rfl).trans (congrArg Value.bool g22)) (by decide) ?_
   refine U.x rfl rfl rfl rfl ((L 1 rfl rfl).trans (congrArg Value.bool g22)) (by decide) ?_
   refine U.x rfl rfl rfl rfl ((L 2 rfl rfl).trans (congrArg Value.bool g22)) (by decide) ?_
   refine U.x rfl rfl rfl rfl ((L 3 rfl rfl).trans (congrArg Value.bool g22)) (by decide) ?_
   refine U.x rfl rfl rfl rfl ((L 4 rfl rfl).trans (congrArg Value.bool g22)) (by decide) ?_
   refine U.p rfl rfl (.inl rfl) (S.pickF rfl ((L 5 rfl rfl).trans (congrArg Value.bool g22)) K) ?_
   exact kk [(18, .bool false), (17, .tuple #[]), (16, .tuple #[]), (15, .tuple #[]), (14, .tuple #[]), (13, .tuple #[])] _ ⟨.tuple #[], .tuple #[], .tuple #[], .tuple #[], .tuple #[], rfl, (by rw [g22, Bool.false_and])⟩
set_option maxHeartbeats 4000000 in
set_option maxRecDepth 10000 in
theorem wk_order_Run_Coherent_c1 (V : Vw) (Rs : List At) (p0 : Tnd) (p1 : Tnd) (ow : Ow V (Rs)) (r : Bool) (h : order_Run_Coherent_c1 p0 p1 = some r) : ∃ v V', Cl Try.prog 0 26 #[.agg #[.int .i64 p0.e.t, .int .i64 p0.e.act.kind, .int .i64 p0.e.act.at_, .int .i64 p0.e.act.val, .int .i64 p0.e.act.what, .bool p0.e.act.volatile, .bool p0.e.act.final, .int .i64 p0.e.rf, .int .i64 p0.e.id, .int .i64 p0.at_], .agg #[.int .i64 p1.e.t, .int .i64 p1.e.act.kind, .int .i64 p1.e.act.at_, .int .i64 p1.e.act.val, .int .i64 p1.e.act.what, .bool p1.e.act.volatile, .bool p1.e.act.final, .int .i64 p1.e.rf, .int .i64 p1.e.id, .int .i64 p1.at_]] V.H v V'.H ∧ V.le V' ∧ (v = .bool r ∧ Ow V' (Rs)) := by
 refine Ct.of (Nat.zero_le _) Try.func26 rfl (nr rfl) ?_
 unfold order_Run_Coherent_c1 at h
 refine WP.usreg rfl ?_
 refine O.box ow rfl rfl (.inl rfl) rfl (L 0 rfl rfl) (by simp [topV]) rfl nd (fun b1 V2 le3 ow4 => ?_)
 refine O.box ow4 rfl rfl (.inl rfl) rfl (L 2 rfl rfl) (by simp [topV]) rfl nd (fun b6 V7 le8 ow9 => ?_)
 refine U.p rfl rfl (.inl rfl) (S.assign rfl K) ?_
 refine U.done (nr rfl) ?_
 refine WP.usreg rfl ?_
 refine U.k rfl rfl (.inl rfl) (S.loadB rfl (L 2 rfl rfl) Try.underlying45 rfl ti45 (ow9.own (k := 1) rfl).get rfl) nd ?_
 refine U.k rfl rfl (.inl rfl) (S.loadB rfl (L 2 rfl rfl) Try.underlying45 rfl ti45 (ow9.own (k := 0) rfl).get rfl) nd ?_
 obtain ⟨x11, hx12, h13⟩ := bindS h
 refine O.call (V := V7) rfl rfl (.inl rfl) rfl en27 (aC (L 1 rfl rfl) (aC (L 0 rfl rfl) aN)) (wk_order_po V7 _ p0 p1 ow9 _ hx12) (fun _ _ _ _ => nd) (fun v14 V15 le16 hp17 => ?_)
 obtain ⟨rfl, ow18⟩ := hp17
 refine U.p rfl rfl (.inl rfl) (S.move rfl (L 0 rfl rfl)) ?_
 refine U.joinX 14 (fun e H => ∃ (u19 u20 u21 u22 u23 u24 u25 u26 u27 : Value), H = V15.H ∧ e = [(18, .bool (x11 && (decide (p0.e.act.at_ = p1.e.act.at_)))), (17, u19), (16, u20), (15, u21), (14, u22), (13, u23), (12, u24), (11, u25), (10, u26), (9, u27)]) ?_ ?_
 ·rintro _ _ ⟨u19, u20, u21, u22, u23, u24, u25, u26, u27, rfl, rfl⟩
  refine U.p rfl rfl (.inl rfl) (S.assign rfl (L 0 rfl rfl)) ?_
  refine U.done (nr rfl) ?_
  refine WP.ret ?_
  refine fin.slot (.inr rfl) rfl (L 0 rfl rfl) ⟨V15, rfl, ((le3.trans le8).trans le16), ?_⟩
  have ow31 := ow18.drop 0 rfl
  have ow32 := ow31.drop 0 rfl
  have e33 := Option.some.inj h13
  subst e33
  exact ⟨rfl, ow32⟩
 ·intro kk
  refine bcase (b := x11) (fun g34 => ?_) (fun g34 => ?_)
  ·skip
   refine U.p (v := .pointer (some ⟨b1, 0, none⟩)) rfl rfl (.inr ⟨_, _, _, rfl, rfl, ((L 0 rfl rfl).trans (congrArg Value.bool g34))⟩) (S.fieldAddr rfl (L 6 rfl rfl) Try.underlying45 rfl ti31 rfl rfl) ?_
   refine U.p (v := .pointer (some ⟨b1, 1, none⟩)) rfl rfl (.inr ⟨_, _, _, rfl, rfl, ((L 1 rfl rfl).trans (congrArg Value.bool g34))⟩) (S.fieldAddr rfl (L 0 rfl rfl) Try.underlying31 rfl ti29 rfl rfl) ?_
   refine U.p (v := .pointer (some ⟨b1, 2, none⟩)) rfl rfl (.inr ⟨_, _, _, rfl, rfl, ((L 2 rfl rfl).trans (congrArg Value.bool g34))⟩) (S.fieldAddr rfl (L 0 rfl rfl) Try.underlying29 rfl ti3 rfl rfl) ?_
   refine U.k rfl rfl (.inr ⟨_, _, _, rfl, rfl, ((L 3 rfl rfl).trans (congrArg Value.bool g34))⟩) (S.load rfl (L 0 rfl rfl) Try.underlying3 rfl ((ow18.own (k := 1) rfl).cell rfl)) nd ?_
   refine U.p (v := .pointer (some ⟨b6, 0, none⟩)) rfl rfl (.inr ⟨_, _, _, rfl, rfl, ((L 4 rfl rfl).trans (congrArg Value.bool g34))⟩) (S.fieldAddr rfl (L 9 rfl rfl) Try.underlying45 rfl ti31 rfl rfl) ?_
   refine U.p (v := .pointer (some ⟨b6, 1, none⟩)) rfl rfl (.inr ⟨_, _, _, rfl, rfl, ((L 5 rfl rfl).trans (congrArg Value.bool g34))⟩) (S.fieldAddr rfl (L 0 rfl rfl) Try.underlying31 rfl ti29 rfl rfl) ?_
   refine U.p (v := .pointer (some ⟨b6, 2, none⟩)) rfl rfl (.inr ⟨_, _, _, rfl, rfl, ((L 6 rfl rfl).trans (congrArg Value.bool g34))⟩) (S.fieldAddr rfl (L 0 rfl rfl) Try.underlying29 rfl ti3 rfl rfl) ?_
   refine U.k rfl rfl (.inr ⟨_, _, _, rfl, rfl, ((L 7 rfl rfl).trans (congrArg Value.bool g34))⟩) (S.load rfl (L 0 rfl rfl) Try.underlying3 rfl ((ow18.own (k := 0) rfl).cell rfl)) nd ?_
   refine U.p rfl rfl (.inr ⟨_, _, _, rfl, rfl, ((L 8 rfl rfl).trans (congrArg Value.bool g34))⟩) (S.eqlI rfl (L 4 rfl rfl) (L 0 rfl rfl)) ?_
   refine U.p rfl rfl (.inl rfl) (S.pickT rfl ((L 9 rfl rfl).trans (congrArg Value.bool g34)) (L 0 rfl rfl)) ?_
   exact kk [(18, .bool (decide (p0.e.act.at_ = p1.e.act.at_))), (17, .bool (decide (p0.e.act.at_ = p1.e.act.at_))), (16, .int .i64 p1.e.act.at_), (15, .pointer (some ⟨b6, 2, none⟩)), (14, .pointer (some ⟨b6, 1, none⟩)), (13, .pointer (some ⟨b6, 0, none⟩)), (12, .int .i64 p0.e.act.at_), (11, .pointer (some ⟨b1, 2, none⟩)), (10, .pointer (some ⟨b1, 1, none⟩)), (9, .pointer (some ⟨b1, 0, none⟩))] _ ⟨.bool (decide (p0.e.act.at_ = p1.e.act.at_)), .int .i64 p1.e.act.at_, .pointer (some ⟨b6, 2, none⟩), .pointer (some ⟨b6, 1, none⟩), .pointer (some ⟨b6, 0, none⟩), .int .i64 p0.e.act.at_, .pointer (some ⟨b1, 2, none⟩), .pointer (some ⟨b1, 1, none⟩), .pointer (some ⟨b1, 0, none⟩), rfl, (by rw [g34, Bool.true_and])⟩
  ·skip
   refine U.x rfl rfl rfl rfl ((L 0 rfl rfl).trans (congrArg Value.bool g34)) (by decide) ?_
   refine U.x rfl rfl rfl rfl ((L 1 rfl rfl).trans (congrArg Value.bool g34)) (by decide) ?_
   refine U.x rfl rfl rfl rfl ((L 2 rfl rfl).trans (congrArg Value.bool g34)) (by decide) ?_
   refine U.x rfl rfl rfl rfl ((L 3 rfl rfl).trans (congrArg Value.bool g34)) (by decide) ?_
   refine U.x rfl rfl rfl rfl ((L 4 rfl rfl).trans (congrArg Value.bool g34)) (by decide) ?_
   refine U.x rfl rfl rfl rfl ((L 5 rfl rfl).trans (congrArg Value.bool g34)) (by decide) ?_
   refine U.x rfl rfl rfl rfl ((L 6 rfl rfl).trans (congrArg Value.bool g34)) (by decide) ?_
   refine U.x rfl rfl rfl rfl ((L 7 rfl rfl).trans (congrArg Value.bool g34)) (by decide) ?_
   refine U.x rfl rfl rfl rfl ((L 8 rfl rfl).trans (congrArg Value.bool g34)) (by decide) ?_
   refine U.p rfl rfl (.inl rfl) (S.pickF rfl ((L 9 rfl rfl).trans (congrArg Value.bool g34)) K) ?_
   exact kk [(18, .bool false), (17, .tuple #[]), (16, .tuple #[]), (15, .tuple #[]), (14, .tuple #[]), (13, .tuple #[]), (12, .tuple #[]), (11, .tuple #[]), (10, .tuple #[]), (9, .tuple #[])] _ ⟨.tuple #[], .tuple #[], .tuple #[], .tuple #[], .tuple #[], .tuple #[], .tuple #[], .tuple #[], .tuple #[], rfl, (by rw [g34, Bool.false_and])⟩
set_option maxHeartbeats 4000000 in
set_option maxRecDepth 10000 in
theorem wk_order_rf (V : Vw) (Rs : List At) (p0 : Tnd) (p1 : Tnd) (ow : Ow V (Rs)) (r : Bool) (h : order_rf p0 p1 = some r) : ∃ v V', Cl Try.prog 0 28 #[.agg #[.int .i64 p0.e.t, .int .i64 p0.e.act.kind, .int .i64 p0.e.act.at_, .int .i64 p0.e.act.val, .int .i64 p0.e.act.what, .bool p0.e.act.volatile, .bool p0.e.act.final, .int .i64 p0.e.rf, .int .i64 p0.e.id, .int .i64 p0.at_], .agg #[.int .i64 p1.e.t, .int .i64 p1.e.act.kind, .int .i64 p1.e.act.at_, .int .i64 p1.e.act.val, .int .i64 p1.e.act.what, .bool p1.e.act.volatile, .bool p1.e.act.final, .int .i64 p1.e.rf, .int .i64 p1.e.id, .int .i64 p1.at_]] V.H v V'.H ∧ V.le V' ∧ (v = .bool r ∧ Ow V' (Rs)) := by
 refine Ct.of (Nat.zero_le _) Try.func28 rfl (nr rfl) ?_
 unfold order_rf at h
 refine WP.usreg rfl ?_
 refine O.box ow rfl rfl (.inl rfl) rfl (L 0 rfl rfl) (by simp [topV]) rfl nd (fun b1 V2 le3 ow4 => ?_)
 refine O.box ow4 rfl rfl (.inl rfl) rfl (L 2 rfl rfl) (by simp [topV]) rfl nd (fun b6 V7 le8 ow9 => ?_)
 refine U.p rfl rfl (.inl rfl) (S.assign rfl K) ?_
 refine U.done (nr rfl) ?_
 refine WP.usreg rfl ?_
 refine U.p (v := .pointer (some ⟨b1, 0, none⟩)) rfl rfl (.inl rfl) (S.fieldAddr rfl (L 2 rfl rfl) Try.underlying45 rfl ti31 rfl rfl) ?_
 refine U.p (v := .pointer (some ⟨b1, 8, none⟩)) rfl rfl (.inl rfl) (S.fieldAddr rfl (L 0 rfl rfl) Try.underlying31 rfl ti3 rfl rfl) ?_
 refine U.k rfl rfl (.inl rfl) (S.load rfl (L 0 rfl rfl) Try.underlying3 rfl ((ow9.own (k := 1) rfl).cell rfl)) nd ?_
 refine U.p rfl rfl (.inl rfl) (S.gtr rfl (L 0 rfl rfl) K) ?_
 refine U.p rfl rfl (.inl rfl) (S.move rfl (L 0 rfl rfl)) ?_
 obtain ⟨y11, hy12, h13⟩ := bindS h
 refine U.joinX 10 (fun e H => ∃ (u14 u15 u16 u17 : Value), ∃ V' : Vw, H = V'.H ∧ V7.le V' ∧ e = [(14, .bool y11), (13, u14), (12, u15), (11, u16), (10, u17)] ∧ Ow V' (.pt b6 (.cells 0 [.int .i64 p1.e.t, .int .i64 p1.e.act.kind, .int .i64 p1.e.act.at_, .int .i64 p1.e.act.val, .int .i64 p1.e.act.what, .bool p1.e.act.volatile, .bool p1.e.act.final, .int .i64 p1.e.rf, .int .i64 p1.e.id, .int .i64 p1.at_]) :: .pt b1 (.cells 0 [.int .i64 p0.e.t, .int .i64 p0.e.act.kind, .int .i64 p0.e.act.at_, .int .i64 p0.e.act.val, .int .i64 p0.e.act.what, .bool p0.e.act.volatile, .bool p0.e.act.final, .int .i64 p0.e.rf, .int .i64 p0.e.id, .int .i64 p0.at_]) :: Rs)) ?_ ?_
 ·rintro _ _ ⟨u14, u15, u16, u17, V18, rfl, le19, rfl, ow20⟩
  refine U.p rfl rfl (.inl rfl) (S.move rfl (L 0 rfl rfl)) ?_
  refine U.joinX 19 (fun e H => ∃ (u21 u22 u23 u24 u25 u26 u27 : Value), H = V18.H ∧ e = [(23, .bool (y11 && (decide (p1.e.rf = p0.e.id)))), (22, u21), (21, u22), (20, u23), (19, u24), (18, u25), (17, u26), (16, u27)]) ?_ ?_
  ·rintro _ _ ⟨u21, u22, u23, u24, u25, u26, u27, rfl, rfl⟩
   refine U.p rfl rfl (.inl rfl) (S.assign rfl (L 0 rfl rfl)) ?_
   refine U.done (nr rfl) ?_
   refine WP.ret ?_
   refine fin.slot (.inr rfl) rfl (L 0 rfl rfl) ⟨V18, rfl, ((le3.trans le8).trans le19), ?_⟩
   have ow31 := ow20.drop 0 rfl
   have ow32 := ow31.drop 0 rfl
   have e33 := Option.some.inj h13
   subst e33
   exact ⟨rfl, ow32⟩
  ·intro kk
   refine bcase (b := y11) (fun g34 => ?_) (fun g34 => ?_)
   ·skip
    refine U.p (v := .pointer (some ⟨b6, 0, none⟩)) rfl rfl (.inr ⟨_, _, _, rfl, rfl, ((L 0 rfl rfl).trans (congrArg Value.bool g34))⟩) (S.fieldAddr rfl (L 12 rfl rfl) Try.underlying45 rfl ti31 rfl rfl) ?_
    refine U.p (v := .pointer (some ⟨b6, 7, none⟩)) rfl rfl (.inr ⟨_, _, _, rfl, rfl, ((L 1 rfl rfl).trans (congrArg Value.bool g34))⟩) (S.fieldAddr rfl (L 0 rfl rfl) Try.underlying31 rfl ti3 rfl rfl) ?_
    refine U.k rfl rfl (.inr ⟨_, _, _, rfl, rfl, ((L 2 rfl rfl).trans (congrArg Value.bool g34))⟩) (S.load rfl (L 0 rfl rfl) Try.underlying3 rfl ((ow20.own (k := 0) rfl).cell rfl)) nd ?_
    refine U.p (v := .pointer (some ⟨b1, 0, none⟩)) rfl rfl (.inr ⟨_, _, _, rfl, rfl, ((L 3 rfl rfl).trans (congrArg Value.bool g34))⟩) (S.fieldAddr rfl (L 16 rfl rfl) Try.underlying45 rfl ti31 rfl rfl) ?_
    refine U.p (v := .pointer (some ⟨b1, 8, none⟩)) rfl rfl (.inr ⟨_, _, _, rfl, rfl, ((L 4 rfl rfl).trans (congrArg Value.bool g34))⟩) (S.fieldAddr rfl (L 0 rfl rfl) Try.underlying31 rfl ti3 rfl rfl) ?_
    refine U.k rfl rfl (.inr ⟨_, _, _, rfl, rfl, ((L 5 rfl rfl).trans (congrArg Value.bool g34))⟩) (S.load rfl (L 0 rfl rfl) Try.underlying3 rfl ((ow20.own (k := 1) rfl).cell rfl)) nd ?_
    refine U.p rfl rfl (.inr ⟨_, _, _, rfl, rfl, ((L 6 rfl rfl).trans (congrArg Value.bool g34))⟩) (S.eqlI rfl (L 3 rfl rfl) (L 0 rfl rfl)) ?_
    refine U.p rfl rfl (.inl rfl) (S.pickT rfl ((L 7 rfl rfl).trans (congrArg Value.bool g34)) (L 0 rfl rfl)) ?_
    exact kk [(23, .bool (decide (p1.e.rf = p0.e.id))), (22, .bool (decide (p1.e.rf = p0.e.id))), (21, .int .i64 p0.e.id), (20, .pointer (some ⟨b1, 8, none⟩)), (19, .pointer (some ⟨b1, 0, none⟩)), (18, .int .i64 p1.e.rf), (17, .pointer (some ⟨b6, 7, none⟩)), (16, .pointer (some ⟨b6, 0, none⟩))] _ ⟨.bool (decide (p1.e.rf = p0.e.id)), .int .i64 p0.e.id, .pointer (some ⟨b1, 8, none⟩), .pointer (some ⟨b1, 0, none⟩), .int .i64 p1.e.rf, .pointer (some ⟨b6, 7, none⟩), .pointer (some ⟨b6, 0, none⟩), rfl, (by rw [g34, Bool.true_and])⟩
   ·skip
    refine U.x rfl rfl rfl rfl ((L 0 rfl rfl).trans (congrArg Value.bool g34)) (by decide) ?_
    refine U.x rfl rfl rfl rfl ((L 1 rfl rfl).trans (congrArg Value.bool g34)) (by decide) ?_
    refine U.x rfl rfl rfl rfl ((L 2 rfl rfl).trans (congrArg Value.bool g34)) (by decide) ?_
    refine U.x rfl rfl rfl rfl ((L 3 rfl rfl).trans (congrArg Value.bool g34)) (by decide) ?_
    refine U.x rfl rfl rfl rfl ((L 4 rfl rfl).trans (congrArg Value.bool g34)) (by decide) ?_
    refine U.x rfl rfl rfl rfl ((L 5 rfl rfl).trans (congrArg Value.bool g34)) (by decide) ?_
    refine U.x rfl rfl rfl rfl ((L 6 rfl rfl).trans (congrArg Value.bool g34)) (by decide) ?_
    refine U.p rfl rfl (.inl rfl) (S.pickF rfl ((L 7 rfl rfl).trans (congrArg Value.bool g34)) K) ?_
    exact kk [(23, .bool false), (22, .tuple #[]), (21, .tuple #[]), (20, .tuple #[]), (19, .tuple #[]), (18, .tuple #[]), (17, .tuple #[]), (16, .tuple #[])] _ ⟨.tuple #[], .tuple #[], .tuple #[], .tuple #[], .tuple #[], .tuple #[], .tuple #[], rfl, (by rw [g34, Bool.false_and])⟩
 ·intro kk
  refine bcase (b := decide (0 < p0.e.id)) (fun g35 => ?_) (fun g35 => ?_)
  ·have h36 := ifT g35 hy12
   refine U.p (v := .pointer (some ⟨b6, 0, none⟩)) rfl rfl (.inr ⟨_, _, _, rfl, rfl, ((L 0 rfl rfl).trans (congrArg Value.bool g35))⟩) (S.fieldAddr rfl (L 6 rfl rfl) Try.underlying45 rfl ti31 rfl rfl) ?_
   refine U.p (v := .pointer (some ⟨b6, 1, none⟩)) rfl rfl (.inr ⟨_, _, _, rfl, rfl, ((L 1 rfl rfl).trans (congrArg Value.bool g35))⟩) (S.fieldAddr rfl (L 0 rfl rfl) Try.underlying31 rfl ti29 rfl rfl) ?_
   refine U.k rfl rfl (.inr ⟨_, _, _, rfl, rfl, ((L 2 rfl rfl).trans (congrArg Value.bool g35))⟩) (S.loadN (cs := [.int .i64 p1.e.act.kind, .int .i64 p1.e.act.at_, .int .i64 p1.e.act.val, .int .i64 p1.e.act.what, .bool p1.e.act.volatile, .bool p1.e.act.final]) rfl (L 0 rfl rfl) Try.underlying29 rfl ti29 rfl (cellsOfOwn (ow9.own (k := 0) rfl) 1 rfl)) nd ?_
   obtain ⟨x37, hx38, h39⟩ := bindS h36
   refine O.call (V := V7) rfl rfl (.inr ⟨_, _, _, rfl, rfl, ((L 3 rfl rfl).trans (congrArg Value.bool g35))⟩) rfl en38 (aC (L 0 rfl rfl) aN) (wk_order_reads V7 _ p1.e.act ow9 _ hx38) (fun _ _ _ _ => nd) (fun v40 V41 le42 hp43 => ?_)
   obtain ⟨rfl, ow44⟩ := hp43
   refine U.p rfl rfl (.inl rfl) (S.pickT rfl ((L 4 rfl rfl).trans (congrArg Value.bool g35)) (L 0 rfl rfl)) ?_
   have e45 := Option.some.inj h39
   subst e45
   exact kk [(14, .bool x37), (13, .bool x37), (12, .agg #[.int .i64 p1.e.act.kind, .int .i64 p1.e.act.at_, .int .i64 p1.e.act.val, .int .i64 p1.e.act.what, .bool p1.e.act.volatile, .bool p1.e.act.final]), (11, .pointer (some ⟨b6, 1, none⟩)), (10, .pointer (some ⟨b6, 0, none⟩))] _ ⟨.bool x37, .agg #[.int .i64 p1.e.act.kind, .int .i64 p1.e.act.at_, .int .i64 p1.e.act.val, .int .i64 p1.e.act.what, .bool p1.e.act.volatile, .bool p1.e.act.final], .pointer (some ⟨b6, 1, none⟩), .pointer (some ⟨b6, 0, none⟩), V41, rfl, le42, rfl, ow44⟩
  ·have h46 := ifF g35 hy12
   refine U.x rfl rfl rfl rfl ((L 0 rfl rfl).trans (congrArg Value.bool g35)) (by decide) ?_
   refine U.x rfl rfl rfl rfl ((L 1 rfl rfl).trans (congrArg Value.bool g35)) (by decide) ?_
   refine U.x rfl rfl rfl rfl ((L 2 rfl rfl).trans (congrArg Value.bool g35)) (by decide) ?_
   refine U.x rfl rfl rfl rfl ((L 3 rfl rfl).trans (congrArg Value.bool g35)) (by decide) ?_
   refine U.p rfl rfl (.inl rfl) (S.pickF rfl ((L 4 rfl rfl).trans (congrArg Value.bool g35)) K) ?_
   have e47 := Option.some.inj h46
   subst e47
   exact kk [(14, .bool false), (13, .tuple #[]), (12, .tuple #[]), (11, .tuple #[]), (10, .tuple #[])] _ ⟨.tuple #[], .tuple #[], .tuple #[], .tuple #[], V7, rfl, (.refl _), rfl, ow9⟩
set_option maxHeartbeats 4000000 in
set_option maxRecDepth 10000 in
theorem wk_order_co (V : Vw) (Rs : List At) (p0 : Tnd) (p1 : Tnd) (ow : Ow V (Rs)) (r : Bool) (h : order_co p0 p1 = some r) : ∃ v V', Cl Try.prog 0 29 #[.agg #[.int .i64 p0.e.t, .int .i64 p0.e.act.kind, .int .i64 p0.e.act.at_, .int .i64 p0.e.act.val, .int .i64 p0.e.act.what, .bool p0.e.act.volatile, .bool p0.e.act.final, .int .i64 p0.e.rf, .int .i64 p0.e.id, .int .i64 p0.at_], .agg #[.int .i64 p1.e.t, .int .i64 p1.e.act.kind, .int .i64 p1.e.act.at_, .int .i64 p1.e.act.val, .int .i64 p1.e.act.what, .bool p1.e.act.volatile, .bool p1.e.act.final, .int .i64 p1.e.rf, .int .i64 p1.e.id, .int .i64 p1.at_]] V.H v V'.H ∧ V.le V' ∧ (v = .bool r ∧ Ow V' (Rs)) := by
 refine Ct.of (Nat.zero_le _) Try.func29 rfl (nr rfl) ?_
 unfold order_co at h
 refine WP.usreg rfl ?_
 refine O.box ow rfl rfl (.inl rfl) rfl (L 0 rfl rfl) (by simp [topV]) rfl nd (fun b1 V2 le3 ow4 => ?_)
 refine O.box ow4 rfl rfl (.inl rfl) rfl (L 2 rfl rfl) (by simp [topV]) rfl nd (fun b6 V7 le8 ow9 => ?_)
 refine U.p rfl rfl (.inl rfl) (S.assign rfl K) ?_
 refine U.done (nr rfl) ?_
 refine WP.usreg rfl ?_
 refine U.p (v := .pointer (some ⟨b1, 0, none⟩)) rfl rfl (.inl rfl) (S.fieldAddr rfl (L 2 rfl rfl) Try.underlying45 rfl ti31 rfl rfl) ?_
 refine U.p (v := .pointer (some ⟨b1, 1, none⟩)) rfl rfl (.inl rfl) (S.fieldAddr rfl (L 0 rfl rfl) Try.underlying31 rfl ti29 rfl rfl) ?_
 refine U.k rfl rfl (.inl rfl) (S.loadN (cs := [.int .i64 p0.e.act.kind, .int .i64 p0.e.act.at_, .int .i64 p0.e.act.val, .int .i64 p0.e.act.what, .bool p0.e.act.volatile, .bool p0.e.act.final]) rfl (L 0 rfl rfl) Try.underlying29 rfl ti29 rfl (cellsOfOwn (ow9.own (k := 1) rfl) 1 rfl)) nd ?_
 obtain ⟨x11, hx12, h13⟩ := bindS h
 refine O.call (V := V7) rfl rfl (.inl rfl) rfl en39 (aC (L 0 rfl rfl) aN) (wk_order_writes V7 _ p0.e.act ow9 _ hx12) (fun _ _ _ _ => nd) (fun v14 V15 le16 hp17 => ?_)
 obtain ⟨rfl, ow18⟩ := hp17
 refine U.p rfl rfl (.inl rfl) (S.move rfl (L 0 rfl rfl)) ?_
 obtain ⟨y19, hy20, h21⟩ := bindS h13
 refine U.joinX 10 (fun e H => ∃ (u22 u23 u24 u25 : Value), ∃ V' : Vw, H = V'.H ∧ V15.le V' ∧ e = [(14, .bool y19), (13, u22), (12, u23), (11, u24), (10, u25)] ∧ Ow V' (.pt b6 (.cells 0 [.int .i64 p1.e.t, .int .i64 p1.e.act.kind, .int .i64 p1.e.act.at_, .int .i64 p1.e.act.val, .int .i64 p1.e.act.what, .bool p1.e.act.volatile, .bool p1.e.act.final, .int .i64 p1.e.rf, .int .i64 p1.e.id, .int .i64 p1.at_]) :: .pt b1 (.cells 0 [.int .i64 p0.e.t, .int .i64 p0.e.act.kind, .int .i64 p0.e.act.at_, .int .i64 p0.e.act.val, .int .i64 p0.e.act.what, .bool p0.e.act.volatile, .bool p0.e.act.final, .int .i64 p0.e.rf, .int .i64 p0.e.id, .int .i64 p0.at_]) :: Rs)) ?_ ?_
 ·rintro _ _ ⟨u22, u23, u24, u25, V26, rfl, le27, rfl, ow28⟩
  refine U.p rfl rfl (.inl rfl) (S.move rfl (L 0 rfl rfl)) ?_
  refine U.joinX 21 (fun e H => ∃ (u29 u30 u31 u32 u33 u34 u35 u36 u37 : Value), H = V26.H ∧ e = [(25, .bool (y19 && (decide (p0.e.act.at_ = p1.e.act.at_)))), (24, u29), (23, u30), (22, u31), (21, u32), (20, u33), (19, u34), (18, u35), (17, u36), (16, u37)]) ?_ ?_
  ·rintro _ _ ⟨u29, u30, u31, u32, u33, u34, u35, u36, u37, rfl, rfl⟩
   refine U.p rfl rfl (.inl rfl) (S.move rfl (L 0 rfl rfl)) ?_
   refine U.joinX 30 (fun e H => ∃ (u41 u42 u43 u44 u45 u46 u47 : Value), H = V26.H ∧ e = [(34, .bool ((y19 && (decide (p0.e.act.at_ = p1.e.act.at_))) && (decide (p0.e.id < p1.e.id)))), (33, u41), (32, u42), (31, u43), (30, u44), (29, u45), (28, u46), (27, u47)]) ?_ ?_
   ·rintro _ _ ⟨u41, u42, u43, u44, u45, u46, u47, rfl, rfl⟩
    refine U.p rfl rfl (.inl rfl) (S.assign rfl (L 0 rfl rfl)) ?_
    refine U.done (nr rfl) ?_
    refine WP.ret ?_
    refine fin.slot (.inr rfl) rfl (L 0 rfl rfl) ⟨V26, rfl, (((le3.trans le8).trans le16).trans le27), ?_⟩
    have ow51 := ow28.drop 0 rfl
    have ow52 := ow51.drop 0 rfl
    have e53 := Option.some.inj h21
    subst e53
    exact ⟨rfl, ow52⟩
   ·intro kk
    refine bcase (b := y19 && (decide (p0.e.act.at_ = p1.e.act.at_))) (fun g54 => ?_) (fun g54 => ?_)
    ·skip
     refine U.p (v := .pointer (some ⟨b1, 0, none⟩)) rfl rfl (.inr ⟨_, _, _, rfl, rfl, ((L 0 rfl rfl).trans (congrArg Value.bool g54))⟩) (S.fieldAddr rfl (L 24 rfl rfl) Try.underlying45 rfl ti31 rfl rfl) ?_
     refine U.p (v := .pointer (some ⟨b1, 8, none⟩)) rfl rfl (.inr ⟨_, _, _, rfl, rfl, ((L 1 rfl rfl).trans (congrArg Value.bool g54))⟩) (S.fieldAddr rfl (L 0 rfl rfl) Try.underlying31 rfl ti3 rfl rfl) ?_
     refine U.k rfl rfl (.inr ⟨_, _, _, rfl, rfl, ((L 2 rfl rfl).trans (congrArg Value.bool g54))⟩) (S.load rfl (L 0 rfl rfl) Try.underlying3 rfl ((ow28.own (k := 1) rfl).cell rfl)) nd ?_
     refine U.p (v := .pointer (some ⟨b6, 0, none⟩)) rfl rfl (.inr ⟨_, _, _, rfl, rfl, ((L 3 rfl rfl).trans (congrArg Value.bool g54))⟩) (S.fieldAddr rfl (L 26 rfl rfl) Try.underlying45 rfl ti31 rfl rfl) ?_
     refine U.p (v := .pointer (some ⟨b6, 8, none⟩)) rfl rfl (.inr ⟨_, _, _, rfl, rfl, ((L 4 rfl rfl).trans (congrArg Value.bool g54))⟩) (S.fieldAddr rfl (L 0 rfl rfl) Try.underlying31 rfl ti3 rfl rfl) ?_
     refine U.k rfl rfl (.inr ⟨_, _, _, rfl, rfl, ((L 5 rfl rfl).trans (congrArg Value.bool g54))⟩) (S.load rfl (L 0 rfl rfl) Try.underlying3 rfl ((ow28.own (k := 0) rfl).cell rfl)) nd ?_
     refine U.p rfl rfl (.inr ⟨_, _, _, rfl, rfl, ((L 6 rfl rfl).trans (congrArg Value.bool g54))⟩) (S.lss rfl (L 3 rfl rfl) (L 0 rfl rfl)) ?_
     refine U.p rfl rfl (.inl rfl) (S.pickT rfl ((L 7 rfl rfl).trans (congrArg Value.bool g54)) (L 0 rfl rfl)) ?_
     exact kk [(34, .bool (decide (p0.e.id < p1.e.id))), (33, .bool (decide (p0.e.id < p1.e.id))), (32, .int .i64 p1.e.id), (31, .pointer (some ⟨b6, 8, none⟩)), (30, .pointer (some ⟨b6, 0, none⟩)), (29, .int .i64 p0.e.id), (28, .pointer (some ⟨b1, 8, none⟩)), (27, .pointer (some ⟨b1, 0, none⟩))] _ ⟨.bool (decide (p0.e.id < p1.e.id)), .int .i64 p1.e.id, .pointer (some ⟨b6, 8, none⟩), .pointer (some ⟨b6, 0, none⟩), .int .i64 p0.e.id, .pointer (some ⟨b1, 8, none⟩), .pointer (some ⟨b1, 0, none⟩), rfl, (by rw [g54, Bool.true_and])⟩
    ·skip
     refine U.x rfl rfl rfl rfl ((L 0 rfl rfl).trans (congrArg Value.bool g54)) (by decide) ?_
     refine U.x rfl rfl rfl rfl ((L 1 rfl rfl).trans (congrArg Value.bool g54)) (by decide) ?_
     refine U.x rfl rfl rfl rfl ((L 2 rfl rfl).trans (congrArg Value.bool g54)) (by decide) ?_
     refine U.x rfl rfl rfl rfl ((L 3 rfl rfl).trans (congrArg Value.bool g54)) (by decide) ?_
     refine U.x rfl rfl rfl rfl ((L 4 rfl rfl).trans (congrArg Value.bool g54)) (by decide) ?_
     refine U.x rfl rfl rfl rfl ((L 5 rfl rfl).trans (congrArg Value.bool g54)) (by decide) ?_
     refine U.x rfl rfl rfl rfl ((L 6 rfl rfl).trans (congrArg Value.bool g54)) (by decide) ?_
     refine U.p rfl rfl (.inl rfl) (S.pickF rfl ((L 7 rfl rfl).trans (congrArg Value.bool g54)) K) ?_
     exact kk [(34, .bool false), (33, .tuple #[]), (32, .tuple #[]), (31, .tuple #[]), (30, .tuple #[]), (29, .tuple #[]), (28, .tuple #[]), (27, .tuple #[])] _ ⟨.tuple #[], .tuple #[], .tuple #[], .tuple #[], .tuple #[], .tuple #[], .tuple #[], rfl, (by rw [g54, Bool.false_and])⟩
  ·intro kk
   refine bcase (b := y19) (fun g55 => ?_) (fun g55 => ?_)
   ·skip
    refine U.p (v := .pointer (some ⟨b1, 0, none⟩)) rfl rfl (.inr ⟨_, _, _, rfl, rfl, ((L 0 rfl rfl).trans (congrArg Value.bool g55))⟩) (S.fieldAddr rfl (L 13 rfl rfl) Try.underlying45 rfl ti31 rfl rfl) ?_
    refine U.p (v := .pointer (some ⟨b1, 1, none⟩)) rfl rfl (.inr ⟨_, _, _, rfl, rfl, ((L 1 rfl rfl).trans (congrArg Value.bool g55))⟩) (S.fieldAddr rfl (L 0 rfl rfl) Try.underlying31 rfl ti29 rfl rfl) ?_
    refine U.p (v := .pointer (some ⟨b1, 2, none⟩)) rfl rfl (.inr ⟨_, _, _, rfl, rfl, ((L 2 rfl rfl).trans (congrArg Value.bool g55))⟩) (S.fieldAddr rfl (L 0 rfl rfl) Try.underlying29 rfl ti3 rfl rfl) ?_
    refine U.k rfl rfl (.inr ⟨_, _, _, rfl, rfl, ((L 3 rfl rfl).trans (congrArg Value.bool g55))⟩) (S.load rfl (L 0 rfl rfl) Try.underlying3 rfl ((ow28.own (k := 1) rfl).cell rfl)) nd ?_
    refine U.p (v := .pointer (some ⟨b6, 0, none⟩)) rfl rfl (.inr ⟨_, _, _, rfl, rfl, ((L 4 rfl rfl).trans (congrArg Value.bool g55))⟩) (S.fieldAddr rfl (L 16 rfl rfl) Try.underlying45 rfl ti31 rfl rfl) ?_
    refine U.p (v := .pointer (some ⟨b6, 1, none⟩)) rfl rfl (.inr ⟨_, _, _, rfl, rfl, ((L 5 rfl rfl).trans (congrArg Value.bool g55))⟩) (S.fieldAddr rfl (L 0 rfl rfl) Try.underlying31 rfl ti29 rfl rfl) ?_
    refine U.p (v := .pointer (some ⟨b6, 2, none⟩)) rfl rfl (.inr ⟨_, _, _, rfl, rfl, ((L 6 rfl rfl).trans (congrArg Value.bool g55))⟩) (S.fieldAddr rfl (L 0 rfl rfl) Try.underlying29 rfl ti3 rfl rfl) ?_
    refine U.k rfl rfl (.inr ⟨_, _, _, rfl, rfl, ((L 7 rfl rfl).trans (congrArg Value.bool g55))⟩) (S.load rfl (L 0 rfl rfl) Try.underlying3 rfl ((ow28.own (k := 0) rfl).cell rfl)) nd ?_
    refine U.p rfl rfl (.inr ⟨_, _, _, rfl, rfl, ((L 8 rfl rfl).trans (congrArg Value.bool g55))⟩) (S.eqlI rfl (L 4 rfl rfl) (L 0 rfl rfl)) ?_
    refine U.p rfl rfl (.inl rfl) (S.pickT rfl ((L 9 rfl rfl).trans (congrArg Value.bool g55)) (L 0 rfl rfl)) ?_
    exact kk [(25, .bool (decide (p0.e.act.at_ = p1.e.act.at_))), (24, .bool (decide (p0.e.act.at_ = p1.e.act.at_))), (23, .int .i64 p1.e.act.at_), (22, .pointer (some ⟨b6, 2, none⟩)), (21, .pointer (some ⟨b6, 1, none⟩)), (20, .pointer (some ⟨b6, 0, none⟩)), (19, .int .i64 p0.e.act.at_), (18, .pointer (some ⟨b1, 2, none⟩)), (17, .pointer (some ⟨b1, 1, none⟩)), (16, .pointer (some ⟨b1, 0, none⟩))] _ ⟨.bool (decide (p0.e.act.at_ = p1.e.act.at_)), .int .i64 p1.e.act.at_, .pointer (some ⟨b6, 2, none⟩), .pointer (some ⟨b6, 1, none⟩), .pointer (some ⟨b6, 0, none⟩), .int .i64 p0.e.act.at_, .pointer (some ⟨b1, 2, none⟩), .pointer (some ⟨b1, 1, none⟩), .pointer (some ⟨b1, 0, none⟩), rfl, (by rw [g55, Bool.true_and])⟩
   ·skip
    refine U.x rfl rfl rfl rfl ((L 0 rfl rfl).trans (congrArg Value.bool g55)) (by decide) ?_
    refine U.x rfl rfl rfl rfl ((L 1 rfl rfl).trans (congrArg Value.bool g55)) (by decide) ?_
    refine U.x rfl rfl rfl rfl ((L 2 rfl rfl).trans (congrArg Value.bool g55)) (by decide) ?_
    refine U.x rfl rfl rfl rfl ((L 3 rfl rfl).trans (congrArg Value.bool g55)) (by decide) ?_
    refine U.x rfl rfl rfl rfl ((L 4 rfl rfl).trans (congrArg Value.bool g55)) (by decide) ?_
    refine U.x rfl rfl rfl rfl ((L 5 rfl rfl).trans (congrArg Value.bool g55)) (by decide) ?_
    refine U.x rfl rfl rfl rfl ((L 6 rfl rfl).trans (congrArg Value.bool g55)) (by decide) ?_
    refine U.x rfl rfl rfl rfl ((L 7 rfl rfl).trans (congrArg Value.bool g55)) (by decide) ?_
    refine U.x rfl rfl rfl rfl ((L 8 rfl rfl).trans (congrArg Value.bool g55)) (by decide) ?_
    refine U.p rfl rfl (.inl rfl) (S.pickF rfl ((L 9 rfl rfl).trans (congrArg Value.bool g55)) K) ?_
    exact kk [(25, .bool false), (24, .tuple #[]), (23, .tuple #[]), (22, .tuple #[]), (21, .tuple #[]), (20, .tuple #[]), (19, .tuple #[]), (18, .tuple #[]), (17, .tuple #[]), (16, .tuple #[])] _ ⟨.tuple #[], .tuple #[], .tuple #[], .tuple #[], .tuple #[], .tuple #[], .tuple #[], .tuple #[], .tuple #[], rfl, (by rw [g55, Bool.false_and])⟩
 ·intro kk
  refine bcase (b := x11) (fun g56 => ?_) (fun g56 => ?_)
  ·have h57 := ifT g56 hy20
   refine U.p (v := .pointer (some ⟨b6, 0, none⟩)) rfl rfl (.inr ⟨_, _, _, rfl, rfl, ((L 0 rfl rfl).trans (congrArg Value.bool g56))⟩) (S.fieldAddr rfl (L 6 rfl rfl) Try.underlying45 rfl ti31 rfl rfl) ?_
   refine U.p (v := .pointer (some ⟨b6, 1, none⟩)) rfl rfl (.inr ⟨_, _, _, rfl, rfl, ((L 1 rfl rfl).trans (congrArg Value.bool g56))⟩) (S.fieldAddr rfl (L 0 rfl rfl) Try.underlying31 rfl ti29 rfl rfl) ?_
   refine U.k rfl rfl (.inr ⟨_, _, _, rfl, rfl, ((L 2 rfl rfl).trans (congrArg Value.bool g56))⟩) (S.loadN (cs := [.int .i64 p1.e.act.kind, .int .i64 p1.e.act.at_, .int .i64 p1.e.act.val, .int .i64 p1.e.act.what, .bool p1.e.act.volatile, .bool p1.e.act.final]) rfl (L 0 rfl rfl) Try.underlying29 rfl ti29 rfl (cellsOfOwn (ow18.own (k := 0) rfl) 1 rfl)) nd ?_
   obtain ⟨x58, hx59, h60⟩ := bindS h57
   refine O.call (V := V15) rfl rfl (.inr ⟨_, _, _, rfl, rfl, ((L 3 rfl rfl).trans (congrArg Value.bool g56))⟩) rfl en39 (aC (L 0 rfl rfl) aN) (wk_order_writes V15 _ p1.e.act ow18 _ hx59) (fun _ _ _ _ => nd) (fun v61 V62 le63 hp64 => ?_)
   obtain ⟨rfl, ow65⟩ := hp64
   refine U.p rfl rfl (.inl rfl) (S.pickT rfl ((L 4 rfl rfl).trans (congrArg Value.bool g56)) (L 0 rfl rfl)) ?_
   have e66 := Option.some.inj h60
   subst e66
   exact kk [(14, .bool x58), (13, .bool x58), (12, .agg #[.int .i64 p1.e.act.kind, .int .i64 p1.e.act.at_, .int .i64 p1.e.act.val, .int .i64 p1.e.act.what, .bool p1.e.act.volatile, .bool p1.e.act.final]), (11, .pointer (some ⟨b6, 1, none⟩)), (10, .pointer (some ⟨b6, 0, none⟩))] _ ⟨.bool x58, .agg #[.int .i64 p1.e.act.kind, .int .i64 p1.e.act.at_, .int .i64 p1.e.act.val, .int .i64 p1.e.act.what, .bool p1.e.act.volatile, .bool p1.e.act.final], .pointer (some ⟨b6, 1, none⟩), .pointer (some ⟨b6, 0, none⟩), V62, rfl, le63, rfl, ow65⟩
  ·have h67 := ifF g56 hy20
   refine U.x rfl rfl rfl rfl ((L 0 rfl rfl).trans (congrArg Value.bool g56)) (by decide) ?_
   refine U.x rfl rfl rfl rfl ((L 1 rfl rfl).trans (congrArg Value.bool g56)) (by decide) ?_
   refine U.x rfl rfl rfl rfl ((L 2 rfl rfl).trans (congrArg Value.bool g56)) (by decide) ?_
   refine U.x rfl rfl rfl rfl ((L 3 rfl rfl).trans (congrArg Value.bool g56)) (by decide) ?_
   refine U.p rfl rfl (.inl rfl) (S.pickF rfl ((L 4 rfl rfl).trans (congrArg Value.bool g56)) K) ?_
   have e68 := Option.some.inj h67
   subst e68
   exact kk [(14, .bool false), (13, .tuple #[]), (12, .tuple #[]), (11, .tuple #[]), (10, .tuple #[])] _ ⟨.tuple #[], .tuple #[], .tuple #[], .tuple #[], V15, rfl, (.refl _), rfl, ow18⟩
set_option maxHeartbeats 4000000 in
set_option maxRecDepth 10000 in
theorem wk_order_fr (V : Vw) (Rs : List At) (p0 : Tnd) (p1 : Tnd) (ow : Ow V (Rs)) (r : Bool) (h : order_fr p0 p1 = some r) : ∃ v V', Cl Try.prog 0 30 #[.agg #[.int .i64 p0.e.t, .int .i64 p0.e.act.kind, .int .i64 p0.e.act.at_, .int .i64 p0.e.act.val, .int .i64 p0.e.act.what, .bool p0.e.act.volatile, .bool p0.e.act.final, .int .i64 p0.e.rf, .int .i64 p0.e.id, .int .i64 p0.at_], .agg #[.int .i64 p1.e.t, .int .i64 p1.e.act.kind, .int .i64 p1.e.act.at_, .int .i64 p1.e.act.val, .int .i64 p1.e.act.what, .bool p1.e.act.volatile, .bool p1.e.act.final, .int .i64 p1.e.rf, .int .i64 p1.e.id, .int .i64 p1.at_]] V.H v V'.H ∧ V.le V' ∧ (v = .bool r ∧ Ow V' (Rs)) := by
 refine Ct.of (Nat.zero_le _) Try.func30 rfl (nr rfl) ?_
 unfold order_fr at h
 refine WP.usreg rfl ?_
 refine O.box ow rfl rfl (.inl rfl) rfl (L 0 rfl rfl) (by simp [topV]) rfl nd (fun b1 V2 le3 ow4 => ?_)
 refine O.box ow4 rfl rfl (.inl rfl) rfl (L 2 rfl rfl) (by simp [topV]) rfl nd (fun b6 V7 le8 ow9 => ?_)
 refine U.p rfl rfl (.inl rfl) (S.assign rfl K) ?_
 refine U.done (nr rfl) ?_
 refine WP.usreg rfl ?_
 refine U.p (v := .pointer (some ⟨b1, 0, none⟩)) rfl rfl (.inl rfl) (S.fieldAddr rfl (L 2 rfl rfl) Try.underlying45 rfl ti31 rfl rfl) ?_
 refine U.p (v := .pointer (some ⟨b1, 1, none⟩)) rfl rfl (.inl rfl) (S.fieldAddr rfl (L 0 rfl rfl) Try.underlying31 rfl ti29 rfl rfl) ?_
 refine U.k rfl rfl (.inl rfl) (S.loadN (cs := [.int .i64 p0.e.act.kind, .int .i64 p0.e.act.at_, .int .i64 p0.e.act.val, .int .i64 p0.e.act.what, .bool p0.e.act.volatile, .bool p0.e.act.final]) rfl (L 0 rfl rfl) Try.underlying29 rfl ti29 rfl (cellsOfOwn (ow9.own (k := 1) rfl) 1 rfl)) nd ?_
 obtain ⟨x11, hx12, h13⟩ := bindS h
 refine O.call (V := V7) rfl rfl (.inl rfl) rfl en38 (aC (L 0 rfl rfl) aN) (wk_order_reads V7 _ p0.e.act ow9 _ hx12) (fun _ _ _ _ => nd) (fun v14 V15 le16 hp17 => ?_)
 obtain ⟨rfl, ow18⟩ := hp17
 refine U.p rfl rfl (.inl rfl) (S.move rfl (L 0 rfl rfl)) ?_
 obtain ⟨y19, hy20, h21⟩ := bindS h13
 refine U.joinX 10 (fun e H => ∃ (u22 u23 u24 u25 : Value), ∃ V' : Vw, H = V'.H ∧ V15.le V' ∧ e = [(14, .bool y19), (13, u22), (12, u23), (11, u24), (10, u25)] ∧ Ow V' (.pt b6 (.cells 0 [.int .i64 p1.e.t, .int .i64 p1.e.act.kind, .int .i64 p1.e.act.at_, .int .i64 p1.e.act.val, .int .i64 p1.e.act.what, .bool p1.e.act.volatile, .bool p1.e.act.final, .int .i64 p1.e.rf, .int .i64 p1.e.id, .int .i64 p1.at_]) :: .pt b1 (.cells 0 [.int .i64 p0.e.t, .int .i64 p0.e.act.kind, .int .i64 p0.e.act.at_, .int .i64 p0.e.act.val, .int .i64 p0.e.act.what, .bool p0.e.act.volatile, .bool p0.e.act.final, .int .i64 p0.e.rf, .int .i64 p0.e.id, .int .i64 p0.at_]) :: Rs)) ?_ ?_
 ·rintro _ _ ⟨u22, u23, u24, u25, V26, rfl, le27, rfl, ow28⟩
  refine U.p rfl rfl (.inl rfl) (S.move rfl (L 0 rfl rfl)) ?_
  refine U.joinX 21 (fun e H => ∃ (u29 u30 u31 u32 u33 u34 u35 u36 u37 : Value), H = V26.H ∧ e = [(25, .bool (y19 && (decide (p0.e.act.at_ = p1.e.act.at_)))), (24, u29), (23, u30), (22, u31), (21, u32), (20, u33), (19, u34), (18, u35), (17, u36), (16, u37)]) ?_ ?_
  ·rintro _ _ ⟨u29, u30, u31, u32, u33, u34, u35, u36, u37, rfl, rfl⟩
   refine U.p rfl rfl (.inl rfl) (S.move rfl (L 0 rfl rfl)) ?_
   refine U.joinX 30 (fun e H => ∃ (u41 u42 u43 u44 u45 u46 u47 : Value), H = V26.H ∧ e = [(34, .bool ((y19 && (decide (p0.e.act.at_ = p1.e.act.at_))) && (decide (p0.e.rf < p1.e.id)))), (33, u41), (32, u42), (31, u43), (30, u44), (29, u45), (28, u46), (27, u47)]) ?_ ?_
   ·rintro _ _ ⟨u41, u42, u43, u44, u45, u46, u47, rfl, rfl⟩
    refine U.p rfl rfl (.inl rfl) (S.move rfl (L 0 rfl rfl)) ?_
    refine U.joinX 35 (fun e H => ∃ (u51 u52 u53 : Value), H = V26.H ∧ e = [(39, .bool (((y19 && (decide (p0.e.act.at_ = p1.e.act.at_))) && (decide (p0.e.rf < p1.e.id))) && (!(((decide (p0.e.t = p1.e.t)) && (((decide (p0.e.act.kind = p1.e.act.kind)) && ((decide (p0.e.act.at_ = p1.e.act.at_)) && ((decide (p0.e.act.val = p1.e.act.val)) && ((decide (p0.e.act.what = p1.e.act.what)) && ((p0.e.act.volatile == p1.e.act.volatile) && ((p0.e.act.final == p1.e.act.final) && true)))))) && ((decide (p0.e.rf = p1.e.rf)) && ((decide (p0.e.id = p1.e.id)) && true)))) && ((decide (p0.at_ = p1.at_)) && true))))), (38, u51), (37, u52), (36, u53)]) ?_ ?_
    ·rintro _ _ ⟨u51, u52, u53, rfl, rfl⟩
     refine U.p rfl rfl (.inl rfl) (S.assign rfl (L 0 rfl rfl)) ?_
     refine U.done (nr rfl) ?_
     refine WP.ret ?_
     refine fin.slot (.inr rfl) rfl (L 0 rfl rfl) ⟨V26, rfl, (((le3.trans le8).trans le16).trans le27), ?_⟩
     have ow57 := ow28.drop 0 rfl
     have ow58 := ow57.drop 0 rfl
     have e59 := Option.some.inj h21
     subst e59
     exact ⟨rfl, ow58⟩
    ·intro kk
     refine bcase (b := (y19 && (decide (p0.e.act.at_ = p1.e.act.at_))) && (decide (p0.e.rf < p1.e.id))) (fun g60 => ?_) (fun g60 => ?_)
     ·skip
      refine U.k rfl rfl (.inr ⟨_, _, _, rfl, rfl, ((L 0 rfl rfl).trans (congrArg Value.bool g60))⟩) (S.loadB rfl (L 33 rfl rfl) Try.underlying45 rfl ti45 (ow28.own (k := 1) rfl).get rfl) nd ?_
      refine U.k rfl rfl (.inr ⟨_, _, _, rfl, rfl, ((L 1 rfl rfl).trans (congrArg Value.bool g60))⟩) (S.loadB rfl (L 33 rfl rfl) Try.underlying45 rfl ti45 (ow28.own (k := 0) rfl).get rfl) nd ?_
      refine U.p rfl rfl (.inr ⟨_, _, _, rfl, rfl, ((L 2 rfl rfl).trans (congrArg Value.bool g60))⟩) (S.neqT (flA (flC (.int _ _) (flC (.int _ _) (flC (.int _ _) (flC (.int _ _) (flC (.int _ _) (flC (.bool _) (flC (.bool _) (flC (.int _ _) (flC (.int _ _) (flC (.int _ _) flN))))))))))) (flA (flC (.int _ _) (flC (.int _ _) (flC (.int _ _) (flC (.int _ _) (flC (.int _ _) (flC (.bool _) (flC (.bool _) (flC (.int _ _) (flC (.int _ _) (flC (.int _ _) flN))))))))))) rfl (L 1 rfl rfl) (L 0 rfl rfl) Try.underlying45 (by kernel_rfl) (by kernel_rfl) (.cons _ _ _ _ _ _ (by decide) (part_agg Try.underlying31 rfl ti31) (part_agg Try.underlying31 rfl ti31) (eqIn_struct Try.underlying31 (by kernel_rfl) (.cons _ _ _ _ _ _ (by decide) (part_cell Try.underlying3 rfl rfl) (part_cell Try.underlying3 rfl rfl) (eqIn_int Try.underlying3 9997) (.cons _ _ _ _ _ _ (by decide) (part_agg Try.underlying29 rfl ti29) (part_agg Try.underlying29 rfl ti29) (eqIn_struct Try.underlying29 (by kernel_rfl) (.cons _ _ _ _ _ _ (by decide) (part_cell Try.underlying3 rfl rfl) (part_cell Try.underlying3 rfl rfl) (eqIn_int Try.underlying3 9996) (.cons _ _ _ _ _ _ (by decide) (part_cell Try.underlying3 rfl rfl) (part_cell Try.underlying3 rfl rfl) (eqIn_int Try.underlying3 9996) (.cons _ _ _ _ _ _ (by decide) (part_cell Try.underlying3 rfl rfl) (part_cell Try.underlying3 rfl rfl) (eqIn_int Try.underlying3 9996) (.cons _ _ _ _ _ _ (by decide) (part_cell Try.underlying3 rfl rfl) (part_cell Try.underlying3 rfl rfl) (eqIn_int Try.underlying3 9996) (.cons _ _ _ _ _ _ (by decide) (part_cell Try.underlying4 rfl rfl) (part_cell Try.underlying4 rfl rfl) (eqIn_b Try.underlying4 9996) (.cons _ _ _ _ _ _ (by decide) (part_cell Try.underlying4 rfl rfl) (part_cell Try.underlying4 rfl rfl) (eqIn_b Try.underlying4 9996) .nil))))))) (.cons _ _ _ _ _ _ (by decide) (part_cell Try.underlying3 rfl rfl) (part_cell Try.underlying3 rfl rfl) (eqIn_int Try.underlying3 9997) (.cons _ _ _ _ _ _ (by decide) (part_cell Try.underlying3 rfl rfl) (part_cell Try.underlying3 rfl rfl) (eqIn_int Try.underlying3 9997) .nil))))) (.cons _ _ _ _ _ _ (by decide) (part_cell Try.underlying3 rfl rfl) (part_cell Try.underlying3 rfl rfl) (eqIn_int Try.underlying3 9998) .nil))) ?_
      refine U.p rfl rfl (.inl rfl) (S.pickT rfl ((L 3 rfl rfl).trans (congrArg Value.bool g60)) (L 0 rfl rfl)) ?_
      exact kk [(39, .bool (!(((decide (p0.e.t = p1.e.t)) && (((decide (p0.e.act.kind = p1.e.act.kind)) && ((decide (p0.e.act.at_ = p1.e.act.at_)) && ((decide (p0.e.act.val = p1.e.act.val)) && ((decide (p0.e.act.what = p1.e.act.what)) && ((p0.e.act.volatile == p1.e.act.volatile) && ((p0.e.act.final == p1.e.act.final) && true)))))) && ((decide (p0.e.rf = p1.e.rf)) && ((decide (p0.e.id = p1.e.id)) && true)))) && ((decide (p0.at_ = p1.at_)) && true)))), (38, .bool (!(((decide (p0.e.t = p1.e.t)) && (((decide (p0.e.act.kind = p1.e.act.kind)) && ((decide (p0.e.act.at_ = p1.e.act.at_)) && ((decide (p0.e.act.val = p1.e.act.val)) && ((decide (p0.e.act.what = p1.e.act.what)) && ((p0.e.act.volatile == p1.e.act.volatile) && ((p0.e.act.final == p1.e.act.final) && true)))))) && ((decide (p0.e.rf = p1.e.rf)) && ((decide (p0.e.id = p1.e.id)) && true)))) && ((decide (p0.at_ = p1.at_)) && true)))), (37, .agg #[.int .i64 p1.e.t, .int .i64 p1.e.act.kind, .int .i64 p1.e.act.at_, .int .i64 p1.e.act.val, .int .i64 p1.e.act.what, .bool p1.e.act.volatile, .bool p1.e.act.final, .int .i64 p1.e.rf, .int .i64 p1.e.id, .int .i64 p1.at_]), (36, .agg #[.int .i64 p0.e.t, .int .i64 p0.e.act.kind, .int .i64 p0.e.act.at_, .int .i64 p0.e.act.val, .int .i64 p0.e.act.what, .bool p0.e.act.volatile, .bool p0.e.act.final, .int .i64 p0.e.rf, .int .i64 p0.e.id, .int .i64 p0.at_])] _ ⟨.bool (!(((decide (p0.e.t = p1.e.t)) && (((decide (p0.e.act.kind = p1.e.act.kind)) && ((decide (p0.e.act.at_ = p1.e.act.at_)) && ((decide (p0.e.act.val = p1.e.act.val)) && ((decide (p0.e.act.what = p1.e.act.what)) && ((p0.e.act.volatile == p1.e.act.volatile) && ((p0.e.act.final == p1.e.act.final) && true)))))) && ((decide (p0.e.rf = p1.e.rf)) && ((decide (p0.e.id = p1.e.id)) && true)))) && ((decide (p0.at_ = p1.at_)) && true))), .agg #[.int .i64 p1.e.t, .int .i64 p1.e.act.kind, .int .i64 p1.e.act.at_, .int .i64 p1.e.act.val, .int .i64 p1.e.act.what, .bool p1.e.act.volatile, .bool p1.e.act.final, .int .i64 p1.e.rf, .int .i64 p1.e.id, .int .i64 p1.at_], .agg #[.int .i64 p0.e.t, .int .i64 p0.e.act.kind, .int .i64 p0.e.act.at_, .int .i64 p0.e.act.val, .int .i64 p0.e.act.what, .bool p0.e.act.volatile, .bool p0.e.act.final, .int .i64 p0.e.rf, .int .i64 p0.e.id, .int .i64 p0.at_], rfl, (by rw [g60, Bool.true_and])⟩
     ·skip
      refine U.x rfl rfl rfl rfl ((L 0 rfl rfl).trans (congrArg Value.bool g60)) (by decide) ?_
      refine U.x rfl rfl rfl rfl ((L 1 rfl rfl).trans (congrArg Value.bool g60)) (by decide) ?_
      refine U.x rfl rfl rfl rfl ((L 2 rfl rfl).trans (congrArg Value.bool g60)) (by decide) ?_
      refine U.p rfl rfl (.inl rfl) (S.pickF rfl ((L 3 rfl rfl).trans (congrArg Value.bool g60)) K) ?_
      exact kk [(39, .bool false), (38, .tuple #[]), (37, .tuple #[]), (36, .tuple #[])] _ ⟨.tuple #[], .tuple #[], .tuple #[], rfl, (by rw [g60, Bool.false_and])⟩
   ·intro kk
    refine bcase (b := y19 && (decide (p0.e.act.at_ = p1.e.act.at_))) (fun g61 => ?_) (fun g61 => ?_)
    ·skip
     refine U.p (v := .pointer (some ⟨b1, 0, none⟩)) rfl rfl (.inr ⟨_, _, _, rfl, rfl, ((L 0 rfl rfl).trans (congrArg Value.bool g61))⟩) (S.fieldAddr rfl (L 24 rfl rfl) Try.underlying45 rfl ti31 rfl rfl) ?_
     refine U.p (v := .pointer (some ⟨b1, 7, none⟩)) rfl rfl (.inr ⟨_, _, _, rfl, rfl, ((L 1 rfl rfl).trans (congrArg Value.bool g61))⟩) (S.fieldAddr rfl (L 0 rfl rfl) Try.underlying31 rfl ti3 rfl rfl) ?_
     refine U.k rfl rfl (.inr ⟨_, _, _, rfl, rfl, ((L 2 rfl rfl).trans (congrArg Value.bool g61))⟩) (S.load rfl (L 0 rfl rfl) Try.underlying3 rfl ((ow28.own (k := 1) rfl).cell rfl)) nd ?_
     refine U.p (v := .pointer (some ⟨b6, 0, none⟩)) rfl rfl (.inr ⟨_, _, _, rfl, rfl, ((L 3 rfl rfl).trans (congrArg Value.bool g61))⟩) (S.fieldAddr rfl (L 26 rfl rfl) Try.underlying45 rfl ti31 rfl rfl) ?_
     refine U.p (v := .pointer (some ⟨b6, 8, none⟩)) rfl rfl (.inr ⟨_, _, _, rfl, rfl, ((L 4 rfl rfl).trans (congrArg Value.bool g61))⟩) (S.fieldAddr rfl (L 0 rfl rfl) Try.underlying31 rfl ti3 rfl rfl) ?_
     refine U.k rfl rfl (.inr ⟨_, _, _, rfl, rfl, ((L 5 rfl rfl).trans (congrArg Value.bool g61))⟩) (S.load rfl (L 0 rfl rfl) Try.underlying3 rfl ((ow28.own (k := 0) rfl).cell rfl)) nd ?_
     refine U.p rfl rfl (.inr ⟨_, _, _, rfl, rfl, ((L 6 rfl rfl).trans (congrArg Value.bool g61))⟩) (S.lss rfl (L 3 rfl rfl) (L 0 rfl rfl)) ?_
     refine U.p rfl rfl (.inl rfl) (S.pickT rfl ((L 7 rfl rfl).trans (congrArg Value.bool g61)) (L 0 rfl rfl)) ?_
     exact kk [(34, .bool (decide (p0.e.rf < p1.e.id))), (33, .bool (decide (p0.e.rf < p1.e.id))), (32, .int .i64 p1.e.id), (31, .pointer (some ⟨b6, 8, none⟩)), (30, .pointer (some ⟨b6, 0, none⟩)), (29, .int .i64 p0.e.rf), (28, .pointer (some ⟨b1, 7, none⟩)), (27, .pointer (some ⟨b1, 0, none⟩))] _ ⟨.bool (decide (p0.e.rf < p1.e.id)), .int .i64 p1.e.id, .pointer (some ⟨b6, 8, none⟩), .pointer (some ⟨b6, 0, none⟩), .int .i64 p0.e.rf, .pointer (some ⟨b1, 7, none⟩), .pointer (some ⟨b1, 0, none⟩), rfl, (by rw [g61, Bool.true_and])⟩
    ·skip
     refine U.x rfl rfl rfl rfl ((L 0 rfl rfl).trans (congrArg Value.bool g61)) (by decide) ?_
     refine U.x rfl rfl rfl rfl ((L 1 rfl rfl).trans (congrArg Value.bool g61)) (by decide) ?_
     refine U.x rfl rfl rfl rfl ((L 2 rfl rfl).trans (congrArg Value.bool g61)) (by decide) ?_
     refine U.x rfl rfl rfl rfl ((L 3 rfl rfl).trans (congrArg Value.bool g61)) (by decide) ?_
     refine U.x rfl rfl rfl rfl ((L 4 rfl rfl).trans (congrArg Value.bool g61)) (by decide) ?_
     refine U.x rfl rfl rfl rfl ((L 5 rfl rfl).trans (congrArg Value.bool g61)) (by decide) ?_
     refine U.x rfl rfl rfl rfl ((L 6 rfl rfl).trans (congrArg Value.bool g61)) (by decide) ?_
     refine U.p rfl rfl (.inl rfl) (S.pickF rfl ((L 7 rfl rfl).trans (congrArg Value.bool g61)) K) ?_
     exact kk [(34, .bool false), (33, .tuple #[]), (32, .tuple #[]), (31, .tuple #[]), (30, .tuple #[]), (29, .tuple #[]), (28, .tuple #[]), (27, .tuple #[])] _ ⟨.tuple #[], .tuple #[], .tuple #[], .tuple #[], .tuple #[], .tuple #[], .tuple #[], rfl, (by rw [g61, Bool.false_and])⟩
  ·intro kk
   refine bcase (b := y19) (fun g62 => ?_) (fun g62 => ?_)
   ·skip
    refine U.p (v := .pointer (some ⟨b1, 0, none⟩)) rfl rfl (.inr ⟨_, _, _, rfl, rfl, ((L 0 rfl rfl).trans (congrArg Value.bool g62))⟩) (S.fieldAddr rfl (L 13 rfl rfl) Try.underlying45 rfl ti31 rfl rfl) ?_
    refine U.p (v := .pointer (some ⟨b1, 1, none⟩)) rfl rfl (.inr ⟨_, _, _, rfl, rfl, ((L 1 rfl rfl).trans (congrArg Value.bool g62))⟩) (S.fieldAddr rfl (L 0 rfl rfl) Try.underlying31 rfl ti29 rfl rfl) ?_
    refine U.p (v := .pointer (some ⟨b1, 2, none⟩)) rfl rfl (.inr ⟨_, _, _, rfl, rfl, ((L 2 rfl rfl).trans (congrArg Value.bool g62))⟩) (S.fieldAddr rfl (L 0 rfl rfl) Try.underlying29 rfl ti3 rfl rfl) ?_
    refine U.k rfl rfl (.inr ⟨_, _, _, rfl, rfl, ((L 3 rfl rfl).trans (congrArg Value.bool g62))⟩) (S.load rfl (L 0 rfl rfl) Try.underlying3 rfl ((ow28.own (k := 1) rfl).cell rfl)) nd ?_
    refine U.p (v := .pointer (some ⟨b6, 0, none⟩)) rfl rfl (.inr ⟨_, _, _, rfl, rfl, ((L 4 rfl rfl).trans (congrArg Value.bool g62))⟩) (S.fieldAddr rfl (L 16 rfl rfl) Try.underlying45 rfl ti31 rfl rfl) ?_
    refine U.p (v := .pointer (some ⟨b6, 1, none⟩)) rfl rfl (.inr ⟨_, _, _, rfl, rfl, ((L 5 rfl rfl).trans (congrArg Value.bool g62))⟩) (S.fieldAddr rfl (L 0 rfl rfl) Try.underlying31 rfl ti29 rfl rfl) ?_
    refine U.p (v := .pointer (some ⟨b6, 2, none⟩)) rfl rfl (.inr ⟨_, _, _, rfl, rfl, ((L 6 rfl rfl).trans (congrArg Value.bool g62))⟩) (S.fieldAddr rfl (L 0 rfl rfl) Try.underlying29 rfl ti3 rfl rfl) ?_
    refine U.k rfl rfl (.inr ⟨_, _, _, rfl, rfl, ((L 7 rfl rfl).trans (congrArg Value.bool g62))⟩) (S.load rfl (L 0 rfl rfl) Try.underlying3 rfl ((ow28.own (k := 0) rfl).cell rfl)) nd ?_
    refine U.p rfl rfl (.inr ⟨_, _, _, rfl, rfl, ((L 8 rfl rfl).trans (congrArg Value.bool g62))⟩) (S.eqlI rfl (L 4 rfl rfl) (L 0 rfl rfl)) ?_
    refine U.p rfl rfl (.inl rfl) (S.pickT rfl ((L 9 rfl rfl).trans (congrArg Value.bool g62)) (L 0 rfl rfl)) ?_
    exact kk [(25, .bool (decide (p0.e.act.at_ = p1.e.act.at_))), (24, .bool (decide (p0.e.act.at_ = p1.e.act.at_))), (23, .int .i64 p1.e.act.at_), (22, .pointer (some ⟨b6, 2, none⟩)), (21, .pointer (some ⟨b6, 1, none⟩)), (20, .pointer (some ⟨b6, 0, none⟩)), (19, .int .i64 p0.e.act.at_), (18, .pointer (some ⟨b1, 2, none⟩)), (17, .pointer (some ⟨b1, 1, none⟩)), (16, .pointer (some ⟨b1, 0, none⟩))] _ ⟨.bool (decide (p0.e.act.at_ = p1.e.act.at_)), .int .i64 p1.e.act.at_, .pointer (some ⟨b6, 2, none⟩), .pointer (some ⟨b6, 1, none⟩), .pointer (some ⟨b6, 0, none⟩), .int .i64 p0.e.act.at_, .pointer (some ⟨b1, 2, none⟩), .pointer (some ⟨b1, 1, none⟩), .pointer (some ⟨b1, 0, none⟩), rfl, (by rw [g62, Bool.true_and])⟩
   ·skip
    refine U.x rfl rfl rfl rfl ((L 0 rfl rfl).trans (congrArg Value.bool g62)) (by decide) ?_
    refine U.x rfl rfl rfl rfl ((L 1 rfl rfl).trans (congrArg Value.bool g62)) (by decide) ?_
    refine U.x rfl rfl rfl rfl ((L 2 rfl rfl).trans (congrArg Value.bool g62)) (by decide) ?_
    refine U.x rfl rfl rfl rfl ((L 3 rfl rfl).trans (congrArg Value.bool g62)) (by decide) ?_
    refine U.x rfl rfl rfl rfl ((L 4 rfl rfl).trans (congrArg Value.bool g62)) (by decide) ?_
    refine U.x rfl rfl rfl rfl ((L 5 rfl rfl).trans (congrArg Value.bool g62)) (by decide) ?_
    refine U.x rfl rfl rfl rfl ((L 6 rfl rfl).trans (congrArg Value.bool g62)) (by decide) ?_
    refine U.x rfl rfl rfl rfl ((L 7 rfl rfl).trans (congrArg Value.bool g62)) (by decide) ?_
    refine U.x rfl rfl rfl rfl ((L 8 rfl rfl).trans (congrArg Value.bool g62)) (by decide) ?_
    refine U.p rfl rfl (.inl rfl) (S.pickF rfl ((L 9 rfl rfl).trans (congrArg Value.bool g62)) K) ?_
    exact kk [(25, .bool false), (24, .tuple #[]), (23, .tuple #[]), (22, .tuple #[]), (21, .tuple #[]), (20, .tuple #[]), (19, .tuple #[]), (18, .tuple #[]), (17, .tuple #[]), (16, .tuple #[])] _ ⟨.tuple #[], .tuple #[], .tuple #[], .tuple #[], .tuple #[], .tuple #[], .tuple #[], .tuple #[], .tuple #[], rfl, (by rw [g62, Bool.false_and])⟩
 ·intro kk
  refine bcase (b := x11) (fun g63 => ?_) (fun g63 => ?_)
  ·have h64 := ifT g63 hy20
   refine U.p (v := .pointer (some ⟨b6, 0, none⟩)) rfl rfl (.inr ⟨_, _, _, rfl, rfl, ((L 0 rfl rfl).trans (congrArg Value.bool g63))⟩) (S.fieldAddr rfl (L 6 rfl rfl) Try.underlying45 rfl ti31 rfl rfl) ?_
   refine U.p (v := .pointer (some ⟨b6, 1, none⟩)) rfl rfl (.inr ⟨_, _, _, rfl, rfl, ((L 1 rfl rfl).trans (congrArg Value.bool g63))⟩) (S.fieldAddr rfl (L 0 rfl rfl) Try.underlying31 rfl ti29 rfl rfl) ?_
   refine U.k rfl rfl (.inr ⟨_, _, _, rfl, rfl, ((L 2 rfl rfl).trans (congrArg Value.bool g63))⟩) (S.loadN (cs := [.int .i64 p1.e.act.kind, .int .i64 p1.e.act.at_, .int .i64 p1.e.act.val, .int .i64 p1.e.act.what, .bool p1.e.act.volatile, .bool p1.e.act.final]) rfl (L 0 rfl rfl) Try.underlying29 rfl ti29 rfl (cellsOfOwn (ow18.own (k := 0) rfl) 1 rfl)) nd ?_
   obtain ⟨x65, hx66, h67⟩ := bindS h64
   refine O.call (V := V15) rfl rfl (.inr ⟨_, _, _, rfl, rfl, ((L 3 rfl rfl).trans (congrArg Value.bool g63))⟩) rfl en39 (aC (L 0 rfl rfl) aN) (wk_order_writes V15 _ p1.e.act ow18 _ hx66) (fun _ _ _ _ => nd) (fun v68 V69 le70 hp71 => ?_)
   obtain ⟨rfl, ow72⟩ := hp71
   refine U.p rfl rfl (.inl rfl) (S.pickT rfl ((L 4 rfl rfl).trans (congrArg Value.bool g63)) (L 0 rfl rfl)) ?_
   have e73 := Option.some.inj h67
   subst e73
   exact kk [(14, .bool x65), (13, .bool x65), (12, .agg #[.int .i64 p1.e.act.kind, .int .i64 p1.e.act.at_, .int .i64 p1.e.act.val, .int .i64 p1.e.act.what, .bool p1.e.act.volatile, .bool p1.e.act.final]), (11, .pointer (some ⟨b6, 1, none⟩)), (10, .pointer (some ⟨b6, 0, none⟩))] _ ⟨.bool x65, .agg #[.int .i64 p1.e.act.kind, .int .i64 p1.e.act.at_, .int .i64 p1.e.act.val, .int .i64 p1.e.act.what, .bool p1.e.act.volatile, .bool p1.e.act.final], .pointer (some ⟨b6, 1, none⟩), .pointer (some ⟨b6, 0, none⟩), V69, rfl, le70, rfl, ow72⟩
  ·have h74 := ifF g63 hy20
   refine U.x rfl rfl rfl rfl ((L 0 rfl rfl).trans (congrArg Value.bool g63)) (by decide) ?_
   refine U.x rfl rfl rfl rfl ((L 1 rfl rfl).trans (congrArg Value.bool g63)) (by decide) ?_
   refine U.x rfl rfl rfl rfl ((L 2 rfl rfl).trans (congrArg Value.bool g63)) (by decide) ?_
   refine U.x rfl rfl rfl rfl ((L 3 rfl rfl).trans (congrArg Value.bool g63)) (by decide) ?_
   refine U.p rfl rfl (.inl rfl) (S.pickF rfl ((L 4 rfl rfl).trans (congrArg Value.bool g63)) K) ?_
   have e75 := Option.some.inj h74
   subst e75
   exact kk [(14, .bool false), (13, .tuple #[]), (12, .tuple #[]), (11, .tuple #[]), (10, .tuple #[])] _ ⟨.tuple #[], .tuple #[], .tuple #[], .tuple #[], V15, rfl, (.refl _), rfl, ow18⟩
set_option maxHeartbeats 4000000 in
set_option maxRecDepth 10000 in
theorem wk_order_released (V : Vw) (Rs : List At) (p0 : Tnd) (p1 : Tnd) (ow : Ow V (Rs)) (r : Bool) (h : order_released p0 p1 = some r) : ∃ v V', Cl Try.prog 0 54 #[.agg #[.int .i64 p0.e.t, .int .i64 p0.e.act.kind, .int .i64 p0.e.act.at_, .int .i64 p0.e.act.val, .int .i64 p0.e.act.what, .bool p0.e.act.volatile, .bool p0.e.act.final, .int .i64 p0.e.rf, .int .i64 p0.e.id, .int .i64 p0.at_], .agg #[.int .i64 p1.e.t, .int .i64 p1.e.act.kind, .int .i64 p1.e.act.at_, .int .i64 p1.e.act.val, .int .i64 p1.e.act.what, .bool p1.e.act.volatile, .bool p1.e.act.final, .int .i64 p1.e.rf, .int .i64 p1.e.id, .int .i64 p1.at_]] V.H v V'.H ∧ V.le V' ∧ (v = .bool r ∧ Ow V' (Rs)) := by
 refine Ct.of (Nat.zero_le _) Try.func54 rfl (nr rfl) ?_
 unfold order_released at h
 refine WP.usreg rfl ?_
 refine O.box ow rfl rfl (.inl rfl) rfl (L 0 rfl rfl) (by simp [topV]) rfl nd (fun b1 V2 le3 ow4 => ?_)
 refine O.box ow4 rfl rfl (.inl rfl) rfl (L 2 rfl rfl) (by simp [topV]) rfl nd (fun b6 V7 le8 ow9 => ?_)
 refine U.p rfl rfl (.inl rfl) (S.assign rfl K) ?_
 refine U.done (nr rfl) ?_
 refine WP.usreg rfl ?_
 refine U.p (v := .pointer (some ⟨b1, 0, none⟩)) rfl rfl (.inl rfl) (S.fieldAddr rfl (L 2 rfl rfl) Try.underlying45 rfl ti31 rfl rfl) ?_
 refine U.p (v := .pointer (some ⟨b1, 1, none⟩)) rfl rfl (.inl rfl) (S.fieldAddr rfl (L 0 rfl rfl) Try.underlying31 rfl ti29 rfl rfl) ?_
 refine U.p (v := .pointer (some ⟨b1, 1, none⟩)) rfl rfl (.inl rfl) (S.fieldAddr rfl (L 0 rfl rfl) Try.underlying29 rfl ti3 rfl rfl) ?_
 refine U.k rfl rfl (.inl rfl) (S.load rfl (L 0 rfl rfl) Try.underlying3 rfl ((ow9.own (k := 1) rfl).cell rfl)) nd ?_
 refine U.p rfl rfl (.inl rfl) (S.eqlI rfl (L 0 rfl rfl) K) ?_
 refine U.p rfl rfl (.inl rfl) (S.move rfl (L 0 rfl rfl)) ?_
 refine U.joinX 18 (fun e H => ∃ (u11 u12 u13 u14 u15 u16 u17 u18 u19 u20 u21 : Value), H = V7.H ∧ e = [(24, .bool ((decide (p0.e.act.kind = 6)) || (p0.e.act.volatile && (decide (p0.e.act.kind = 2))))), (23, u11), (22, u12), (21, u13), (20, u14), (19, u15), (18, u16), (17, u17), (16, u18), (15, u19), (14, u20), (13, u21)]) ?_ ?_
 ·rintro _ _ ⟨u11, u12, u13, u14, u15, u16, u17, u18, u19, u20, u21, rfl, rfl⟩
  refine U.p rfl rfl (.inl rfl) (S.assign rfl (L 0 rfl rfl)) ?_
  refine U.done (nr rfl) ?_
  refine WP.usreg rfl ?_
  refine U.p (v := .pointer (some ⟨b6, 0, none⟩)) rfl rfl (.inl rfl) (S.fieldAddr rfl (L 20 rfl rfl) Try.underlying45 rfl ti31 rfl rfl) ?_
  refine U.p (v := .pointer (some ⟨b6, 1, none⟩)) rfl rfl (.inl rfl) (S.fieldAddr rfl (L 0 rfl rfl) Try.underlying31 rfl ti29 rfl rfl) ?_
  refine U.p (v := .pointer (some ⟨b6, 1, none⟩)) rfl rfl (.inl rfl) (S.fieldAddr rfl (L 0 rfl rfl) Try.underlying29 rfl ti3 rfl rfl) ?_
  refine U.k rfl rfl (.inl rfl) (S.load rfl (L 0 rfl rfl) Try.underlying3 rfl ((ow9.own (k := 0) rfl).cell rfl)) nd ?_
  refine U.p rfl rfl (.inl rfl) (S.eqlI rfl (L 0 rfl rfl) K) ?_
  refine U.p rfl rfl (.inl rfl) (S.move rfl (L 0 rfl rfl)) ?_
  refine U.joinX 18 (fun e H => ∃ (u25 u26 u27 u28 u29 u30 u31 u32 u33 u34 u35 : Value), H = V7.H ∧ e = [(42, .bool ((decide (p1.e.act.kind = 5)) || (p1.e.act.volatile && (decide (p1.e.act.kind = 1))))), (41, u25), (40, u26), (39, u27), (38, u28), (37, u29), (36, u30), (35, u31), (34, u32), (33, u33), (32, u34), (31, u35)]) ?_ ?_
  ·rintro _ _ ⟨u25, u26, u27, u28, u29, u30, u31, u32, u33, u34, u35, rfl, rfl⟩
   refine U.p rfl rfl (.inl rfl) (S.assign rfl (L 0 rfl rfl)) ?_
   refine U.done (nr rfl) ?_
   refine WP.usreg rfl ?_
   refine U.p rfl rfl (.inl rfl) (S.move rfl (L 19 rfl rfl)) ?_
   refine U.p rfl rfl (.inl rfl) (S.move rfl (L 0 rfl rfl)) ?_
   refine U.joinX 4 (fun e H => ∃ (u39 : Value), H = V7.H ∧ e = [(46, .bool (((decide (p0.e.act.kind = 6)) || (p0.e.act.volatile && (decide (p0.e.act.kind = 2)))) && ((decide (p1.e.act.kind = 5)) || (p1.e.act.volatile && (decide (p1.e.act.kind = 1)))))), (45, u39)]) ?_ ?_
   ·rintro _ _ ⟨u39, rfl, rfl⟩
    refine U.p rfl rfl (.inl rfl) (S.move rfl (L 0 rfl rfl)) ?_
    refine U.joinX 15 (fun e H => ∃ (u43 u44 u45 u46 u47 u48 u49 u50 u51 : Value), H = V7.H ∧ e = [(57, .bool ((((decide (p0.e.act.kind = 6)) || (p0.e.act.volatile && (decide (p0.e.act.kind = 2)))) && ((decide (p1.e.act.kind = 5)) || (p1.e.act.volatile && (decide (p1.e.act.kind = 1))))) && (decide (p0.e.act.at_ = p1.e.act.at_)))), (56, u43), (55, u44), (54, u45), (53, u46), (52, u47), (51, u48), (50, u49), (49, u50), (48, u51)]) ?_ ?_
    ·rintro _ _ ⟨u43, u44, u45, u46, u47, u48, u49, u50, u51, rfl, rfl⟩
     refine U.p rfl rfl (.inl rfl) (S.move rfl (L 0 rfl rfl)) ?_
     refine U.joinX 21 (fun e H => ∃ (u55 u56 u57 u58 : Value), H = V7.H ∧ e = [(63, .bool (((((decide (p0.e.act.kind = 6)) || (p0.e.act.volatile && (decide (p0.e.act.kind = 2)))) && ((decide (p1.e.act.kind = 5)) || (p1.e.act.volatile && (decide (p1.e.act.kind = 1))))) && (decide (p0.e.act.at_ = p1.e.act.at_))) && (decide (0 < p0.e.id)))), (62, u55), (61, u56), (60, u57), (59, u58)]) ?_ ?_
     ·rintro _ _ ⟨u55, u56, u57, u58, rfl, rfl⟩
      refine U.p rfl rfl (.inl rfl) (S.move rfl (L 0 rfl rfl)) ?_
      refine U.joinX 30 (fun e H => ∃ (u62 u63 u64 u65 u66 u67 u68 : Value), H = V7.H ∧ e = [(72, .bool ((((((decide (p0.e.act.kind = 6)) || (p0.e.act.volatile && (decide (p0.e.act.kind = 2)))) && ((decide (p1.e.act.kind = 5)) || (p1.e.act.volatile && (decide (p1.e.act.kind = 1))))) && (decide (p0.e.act.at_ = p1.e.act.at_))) && (decide (0 < p0.e.id))) && (decide (p0.e.id ≤ p1.e.rf)))), (71, u62), (70, u63), (69, u64), (68, u65), (67, u66), (66, u67), (65, u68)]) ?_ ?_
      ·rintro _ _ ⟨u62, u63, u64, u65, u66, u67, u68, rfl, rfl⟩
       refine U.p rfl rfl (.inl rfl) (S.assign rfl (L 0 rfl rfl)) ?_
       refine U.done (nr rfl) ?_
       refine WP.ret ?_
       refine fin.slot (.inr rfl) rfl (L 0 rfl rfl) ⟨V7, rfl, (le3.trans le8), ?_⟩
       have ow72 := ow9.drop 0 rfl
       have ow73 := ow72.drop 0 rfl
       have e74 := Option.some.inj h
       subst e74
       exact ⟨rfl, ow73⟩
      ·intro kk
       refine bcase (b := ((((decide (p0.e.act.kind = 6)) || (p0.e.act.volatile && (decide (p0.e.act.kind = 2)))) && ((decide (p1.e.act.kind = 5)) || (p1.e.act.volatile && (decide (p1.e.act.kind = 1))))) && (decide (p0.e.act.at_ = p1.e.act.at_))) && (decide (0 < p0.e.id))) (fun g75 => ?_) (fun g75 => ?_)
       ·skip
        refine U.p (v := .pointer (some ⟨b1, 0, none⟩)) rfl rfl (.inr ⟨_, _, _, rfl, rfl, ((L 0 rfl rfl).trans (congrArg Value.bool g75))⟩) (S.fieldAddr rfl (L 62 rfl rfl) Try.underlying45 rfl ti31 rfl rfl) ?_
        refine U.p (v := .pointer (some ⟨b1, 8, none⟩)) rfl rfl (.inr ⟨_, _, _, rfl, rfl, ((L 1 rfl rfl).trans (congrArg Value.bool g75))⟩) (S.fieldAddr rfl (L 0 rfl rfl) Try.underlying31 rfl ti3 rfl rfl) ?_
        refine U.k rfl rfl (.inr ⟨_, _, _, rfl, rfl, ((L 2 rfl rfl).trans (congrArg Value.bool g75))⟩) (S.load rfl (L 0 rfl rfl) Try.underlying3 rfl ((ow9.own (k := 1) rfl).cell rfl)) nd ?_
        refine U.p (v := .pointer (some ⟨b6, 0, none⟩)) rfl rfl (.inr ⟨_, _, _, rfl, rfl, ((L 3 rfl rfl).trans (congrArg Value.bool g75))⟩) (S.fieldAddr rfl (L 64 rfl rfl) Try.underlying45 rfl ti31 rfl rfl) ?_
        refine U.p (v := .pointer (some ⟨b6, 7, none⟩)) rfl rfl (.inr ⟨_, _, _, rfl, rfl, ((L 4 rfl rfl).trans (congrArg Value.bool g75))⟩) (S.fieldAddr rfl (L 0 rfl rfl) Try.underlying31 rfl ti3 rfl rfl) ?_
        refine U.k rfl rfl (.inr ⟨_, _, _, rfl, rfl, ((L 5 rfl rfl).trans (congrArg Value.bool g75))⟩) (S.load rfl (L 0 rfl rfl) Try.underlying3 rfl ((ow9.own (k := 0) rfl).cell rfl)) nd ?_
        refine U.p rfl rfl (.inr ⟨_, _, _, rfl, rfl, ((L 6 rfl rfl).trans (congrArg Value.bool g75))⟩) (S.leq rfl (L 3 rfl rfl) (L 0 rfl rfl)) ?_
        refine U.p rfl rfl (.inl rfl) (S.pickT rfl ((L 7 rfl rfl).trans (congrArg Value.bool g75)) (L 0 rfl rfl)) ?_
        exact kk [(72, .bool (decide (p0.e.id ≤ p1.e.rf))), (71, .bool (decide (p0.e.id ≤ p1.e.rf))), (70, .int .i64 p1.e.rf), (69, .pointer (some ⟨b6, 7, none⟩)), (68, .pointer (some ⟨b6, 0, none⟩)), (67, .int .i64 p0.e.id), (66, .pointer (some ⟨b1, 8, none⟩)), (65, .pointer (some ⟨b1, 0, none⟩))] _ ⟨.bool (decide (p0.e.id ≤ p1.e.rf)), .int .i64 p1.e.rf, .pointer (some ⟨b6, 7, none⟩), .pointer (some ⟨b6, 0, none⟩), .int .i64 p0.e.id, .pointer (some ⟨b1, 8, none⟩), .pointer (some ⟨b1, 0, none⟩), rfl, (by rw [g75, Bool.true_and])⟩
       ·skip
        refine U.x rfl rfl rfl rfl ((L 0 rfl rfl).trans (congrArg Value.bool g75)) (by decide) ?_
        refine U.x rfl rfl rfl rfl ((L 1 rfl rfl).trans (congrArg Value.bool g75)) (by decide) ?_
        refine U.x rfl rfl rfl rfl ((L 2 rfl rfl).trans (congrArg Value.bool g75)) (by decide) ?_
        refine U.x rfl rfl rfl rfl ((L 3 rfl rfl).trans (congrArg Value.bool g75)) (by decide) ?_
        refine U.x rfl rfl rfl rfl ((L 4 rfl rfl).trans (congrArg Value.bool g75)) (by decide) ?_
        refine U.x rfl rfl rfl rfl ((L 5 rfl rfl).trans (congrArg Value.bool g75)) (by decide) ?_
        refine U.x rfl rfl rfl rfl ((L 6 rfl rfl).trans (congrArg Value.bool g75)) (by decide) ?_
        refine U.p rfl rfl (.inl rfl) (S.pickF rfl ((L 7 rfl rfl).trans (congrArg Value.bool g75)) K) ?_
        exact kk [(72, .bool false), (71, .tuple #[]), (70, .tuple #[]), (69, .tuple #[]), (68, .tuple #[]), (67, .tuple #[]), (66, .tuple #[]), (65, .tuple #[])] _ ⟨.tuple #[], .tuple #[], .tuple #[], .tuple #[], .tuple #[], .tuple #[], .tuple #[], rfl, (by rw [g75, Bool.false_and])⟩
     ·intro kk
      refine bcase (b := (((decide (p0.e.act.kind = 6)) || (p0.e.act.volatile && (decide (p0.e.act.kind = 2)))) && ((decide (p1.e.act.kind = 5)) || (p1.e.act.volatile && (decide (p1.e.act.kind = 1))))) && (decide (p0.e.act.at_ = p1.e.act.at_))) (fun g76 => ?_) (fun g76 => ?_)
      ·skip
       refine U.p (v := .pointer (some ⟨b1, 0, none⟩)) rfl rfl (.inr ⟨_, _, _, rfl, rfl, ((L 0 rfl rfl).trans (congrArg Value.bool g76))⟩) (S.fieldAddr rfl (L 56 rfl rfl) Try.underlying45 rfl ti31 rfl rfl) ?_
       refine U.p (v := .pointer (some ⟨b1, 8, none⟩)) rfl rfl (.inr ⟨_, _, _, rfl, rfl, ((L 1 rfl rfl).trans (congrArg Value.bool g76))⟩) (S.fieldAddr rfl (L 0 rfl rfl) Try.underlying31 rfl ti3 rfl rfl) ?_
       refine U.k rfl rfl (.inr ⟨_, _, _, rfl, rfl, ((L 2 rfl rfl).trans (congrArg Value.bool g76))⟩) (S.load rfl (L 0 rfl rfl) Try.underlying3 rfl ((ow9.own (k := 1) rfl).cell rfl)) nd ?_
       refine U.p rfl rfl (.inr ⟨_, _, _, rfl, rfl, ((L 3 rfl rfl).trans (congrArg Value.bool g76))⟩) (S.gtr rfl (L 0 rfl rfl) K) ?_
       refine U.p rfl rfl (.inl rfl) (S.pickT rfl ((L 4 rfl rfl).trans (congrArg Value.bool g76)) (L 0 rfl rfl)) ?_
       exact kk [(63, .bool (decide (0 < p0.e.id))), (62, .bool (decide (0 < p0.e.id))), (61, .int .i64 p0.e.id), (60, .pointer (some ⟨b1, 8, none⟩)), (59, .pointer (some ⟨b1, 0, none⟩))] _ ⟨.bool (decide (0 < p0.e.id)), .int .i64 p0.e.id, .pointer (some ⟨b1, 8, none⟩), .pointer (some ⟨b1, 0, none⟩), rfl, (by rw [g76, Bool.true_and])⟩
      ·skip
       refine U.x rfl rfl rfl rfl ((L 0 rfl rfl).trans (congrArg Value.bool g76)) (by decide) ?_
       refine U.x rfl rfl rfl rfl ((L 1 rfl rfl).trans (congrArg Value.bool g76)) (by decide) ?_
       refine U.x rfl rfl rfl rfl ((L 2 rfl rfl).trans (congrArg Value.bool g76)) (by decide) ?_
       refine U.x rfl rfl rfl rfl ((L 3 rfl rfl).trans (congrArg Value.bool g76)) (by decide) ?_
       refine U.p rfl rfl (.inl rfl) (S.pickF rfl ((L 4 rfl rfl).trans (congrArg Value.bool g76)) K) ?_
       exact kk [(63, .bool false), (62, .tuple #[]), (61, .tuple #[]), (60, .tuple #[]), (59, .tuple #[])] _ ⟨.tuple #[], .tuple #[], .tuple #[], .tuple #[], rfl, (by rw [g76, Bool.false_and])⟩
    ·intro kk
     refine bcase (b := ((decide (p0.e.act.kind = 6)) || (p0.e.act.volatile && (decide (p0.e.act.kind = 2)))) && ((decide (p1.e.act.kind = 5)) || (p1.e.act.volatile && (decide (p1.e.act.kind = 1))))) (fun g77 => ?_) (fun g77 => ?_)
     ·skip
      refine U.p (v := .pointer (some ⟨b1, 0, none⟩)) rfl rfl (.inr ⟨_, _, _, rfl, rfl, ((L 0 rfl rfl).trans (congrArg Value.bool g77))⟩) (S.fieldAddr rfl (L 45 rfl rfl) Try.underlying45 rfl ti31 rfl rfl) ?_
      refine U.p (v := .pointer (some ⟨b1, 1, none⟩)) rfl rfl (.inr ⟨_, _, _, rfl, rfl, ((L 1 rfl rfl).trans (congrArg Value.bool g77))⟩) (S.fieldAddr rfl (L 0 rfl rfl) Try.underlying31 rfl ti29 rfl rfl) ?_
      refine U.p (v := .pointer (some ⟨b1, 2, none⟩)) rfl rfl (.inr ⟨_, _, _, rfl, rfl, ((L 2 rfl rfl).trans (congrArg Value.bool g77))⟩) (S.fieldAddr rfl (L 0 rfl rfl) Try.underlying29 rfl ti3 rfl rfl) ?_
      refine U.k rfl rfl (.inr ⟨_, _, _, rfl, rfl, ((L 3 rfl rfl).trans (congrArg Value.bool g77))⟩) (S.load rfl (L 0 rfl rfl) Try.underlying3 rfl ((ow9.own (k := 1) rfl).cell rfl)) nd ?_
      refine U.p (v := .pointer (some ⟨b6, 0, none⟩)) rfl rfl (.inr ⟨_, _, _, rfl, rfl, ((L 4 rfl rfl).trans (congrArg Value.bool g77))⟩) (S.fieldAddr rfl (L 48 rfl rfl) Try.underlying45 rfl ti31 rfl rfl) ?_
      refine U.p (v := .pointer (some ⟨b6, 1, none⟩)) rfl rfl (.inr ⟨_, _, _, rfl, rfl, ((L 5 rfl rfl).trans (congrArg Value.bool g77))⟩) (S.fieldAddr rfl (L 0 rfl rfl) Try.underlying31 rfl ti29 rfl rfl) ?_
      refine U.p (v := .pointer (some ⟨b6, 2, none⟩)) rfl rfl (.inr ⟨_, _, _, rfl, rfl, ((L 6 rfl rfl).trans (congrArg Value.bool g77))⟩) (S.fieldAddr rfl (L 0 rfl rfl) Try.underlying29 rfl ti3 rfl rfl) ?_
      refine U.k rfl rfl (.inr ⟨_, _, _, rfl, rfl, ((L 7 rfl rfl).trans (congrArg Value.bool g77))⟩) (S.load rfl (L 0 rfl rfl) Try.underlying3 rfl ((ow9.own (k := 0) rfl).cell rfl)) nd ?_
      refine U.p rfl rfl (.inr ⟨_, _, _, rfl, rfl, ((L 8 rfl rfl).trans (congrArg Value.bool g77))⟩) (S.eqlI rfl (L 4 rfl rfl) (L 0 rfl rfl)) ?_
      refine U.p rfl rfl (.inl rfl) (S.pickT rfl ((L 9 rfl rfl).trans (congrArg Value.bool g77)) (L 0 rfl rfl)) ?_
      exact kk [(57, .bool (decide (p0.e.act.at_ = p1.e.act.at_))), (56, .bool (decide (p0.e.act.at_ = p1.e.act.at_))), (55, .int .i64 p1.e.act.at_), (54, .pointer (some ⟨b6, 2, none⟩)), (53, .pointer (some ⟨b6, 1, none⟩)), (52, .pointer (some ⟨b6, 0, none⟩)), (51, .int .i64 p0.e.act.at_), (50, .pointer (some ⟨b1, 2, none⟩)), (49, .pointer (some ⟨b1, 1, none⟩)), (48, .pointer (some ⟨b1, 0, none⟩))] _ ⟨.bool (decide (p0.e.act.at_ = p1.e.act.at_)), .int .i64 p1.e.act.at_, .pointer (some ⟨b6, 2, none⟩), .pointer (some ⟨b6, 1, none⟩), .pointer (some ⟨b6, 0, none⟩), .int .i64 p0.e.act.at_, .pointer (some ⟨b1, 2, none⟩), .pointer (some ⟨b1, 1, none⟩), .pointer (some ⟨b1, 0, none⟩), rfl, (by rw [g77, Bool.true_and])⟩
     ·skip
      refine U.x rfl rfl rfl rfl ((L 0 rfl rfl).trans (congrArg Value.bool g77)) (by decide) ?_
      refine U.x rfl rfl rfl rfl ((L 1 rfl rfl).trans (congrArg Value.bool g77)) (by decide) ?_
      refine U.x rfl rfl rfl rfl ((L 2 rfl rfl).trans (congrArg Value.bool g77)) (by decide) ?_
      refine U.x rfl rfl rfl rfl ((L 3 rfl rfl).trans (congrArg Value.bool g77)) (by decide) ?_
      refine U.x rfl rfl rfl rfl ((L 4 rfl rfl).trans (congrArg Value.bool g77)) (by decide) ?_
      refine U.x rfl rfl rfl rfl ((L 5 rfl rfl).trans (congrArg Value.bool g77)) (by decide) ?_
      refine U.x rfl rfl rfl rfl ((L 6 rfl rfl).trans (congrArg Value.bool g77)) (by decide) ?_
      refine U.x rfl rfl rfl rfl ((L 7 rfl rfl).trans (congrArg Value.bool g77)) (by decide) ?_
      refine U.x rfl rfl rfl rfl ((L 8 rfl rfl).trans (congrArg Value.bool g77)) (by decide) ?_
      refine U.p rfl rfl (.inl rfl) (S.pickF rfl ((L 9 rfl rfl).trans (congrArg Value.bool g77)) K) ?_
      exact kk [(57, .bool false), (56, .tuple #[]), (55, .tuple #[]), (54, .tuple #[]), (53, .tuple #[]), (52, .tuple #[]), (51, .tuple #[]), (50, .tuple #[]), (49, .tuple #[]), (48, .tuple #[])] _ ⟨.tuple #[], .tuple #[], .tuple #[], .tuple #[], .tuple #[], .tuple #[], .tuple #[], .tuple #[], .tuple #[], rfl, (by rw [g77, Bool.false_and])⟩
   ·intro kk
    refine bcase (b := (decide (p0.e.act.kind = 6)) || (p0.e.act.volatile && (decide (p0.e.act.kind = 2)))) (fun g78 => ?_) (fun g78 => ?_)
    ·skip
     refine U.p rfl rfl (.inr ⟨_, _, _, rfl, rfl, ((L 0 rfl rfl).trans (congrArg Value.bool g78))⟩) (S.move rfl (L 2 rfl rfl)) ?_
     refine U.p rfl rfl (.inl rfl) (S.pickT rfl ((L 1 rfl rfl).trans (congrArg Value.bool g78)) (L 0 rfl rfl)) ?_
     exact kk [(46, .bool ((decide (p1.e.act.kind = 5)) || (p1.e.act.volatile && (decide (p1.e.act.kind = 1))))), (45, .bool ((decide (p1.e.act.kind = 5)) || (p1.e.act.volatile && (decide (p1.e.act.kind = 1)))))] _ ⟨.bool ((decide (p1.e.act.kind = 5)) || (p1.e.act.volatile && (decide (p1.e.act.kind = 1)))), rfl, (by rw [g78, Bool.true_and])⟩
    ·skip
     refine U.x rfl rfl rfl rfl ((L 0 rfl rfl).trans (congrArg Value.bool g78)) (by decide) ?_
     refine U.p rfl rfl (.inl rfl) (S.pickF rfl ((L 1 rfl rfl).trans (congrArg Value.bool g78)) K) ?_
     exact kk [(46, .bool false), (45, .tuple #[])] _ ⟨.tuple #[], rfl, (by rw [g78, Bool.false_and])⟩
  ·intro kk
   refine bcase (b := decide (p1.e.act.kind = 5)) (fun g79 => ?_) (fun g79 => ?_)
   ·skip
    refine U.x rfl rfl rfl rfl ((L 0 rfl rfl).trans (congrArg Value.bool g79)) (by decide) ?_
    refine U.x rfl rfl rfl rfl ((L 1 rfl rfl).trans (congrArg Value.bool g79)) (by decide) ?_
    refine U.x rfl rfl rfl rfl ((L 2 rfl rfl).trans (congrArg Value.bool g79)) (by decide) ?_
    refine U.x rfl rfl rfl rfl ((L 3 rfl rfl).trans (congrArg Value.bool g79)) (by decide) ?_
    refine U.x rfl rfl rfl rfl ((L 4 rfl rfl).trans (congrArg Value.bool g79)) (by decide) ?_
    refine U.z rfl rfl rfl rfl (L 0 rfl rfl) ?_
    refine U.z rfl rfl rfl rfl (L 1 rfl rfl) ?_
    refine U.z rfl rfl rfl rfl (L 2 rfl rfl) ?_
    refine U.z rfl rfl rfl rfl (L 3 rfl rfl) ?_
    refine U.z rfl rfl rfl rfl (L 4 rfl rfl) ?_
    refine U.x rfl rfl rfl rfl ((L 10 rfl rfl).trans (congrArg Value.bool g79)) (by decide) ?_
    refine U.p rfl rfl (.inl rfl) (S.pickT rfl ((L 11 rfl rfl).trans (congrArg Value.bool g79)) K) ?_
    exact kk [(42, .bool true), (41, .tuple #[]), (40, .tuple #[]), (39, .tuple #[]), (38, .tuple #[]), (37, .tuple #[]), (36, .tuple #[]), (35, .tuple #[]), (34, .tuple #[]), (33, .tuple #[]), (32, .tuple #[]), (31, .tuple #[])] _ ⟨.tuple #[], .tuple #[], .tuple #[], .tuple #[], .tuple #[], .tuple #[], .tuple #[], .tuple #[], .tuple #[], .tuple #[], .tuple #[], rfl, (by rw [g79, Bool.true_or])⟩
   ·skip
    refine U.p (v := .pointer (some ⟨b6, 0, none⟩)) rfl rfl (.inr ⟨_, _, _, rfl, rfl, ((L 0 rfl rfl).trans (congrArg Value.bool g79))⟩) (S.fieldAddr rfl (L 26 rfl rfl) Try.underlying45 rfl ti31 rfl rfl) ?_
    refine U.p (v := .pointer (some ⟨b6, 1, none⟩)) rfl rfl (.inr ⟨_, _, _, rfl, rfl, ((L 1 rfl rfl).trans (congrArg Value.bool g79))⟩) (S.fieldAddr rfl (L 0 rfl rfl) Try.underlying31 rfl ti29 rfl rfl) ?_
    refine U.p (v := .pointer (some ⟨b6, 5, none⟩)) rfl rfl (.inr ⟨_, _, _, rfl, rfl, ((L 2 rfl rfl).trans (congrArg Value.bool g79))⟩) (S.fieldAddr rfl (L 0 rfl rfl) Try.underlying29 rfl ti4 rfl rfl) ?_
    refine U.k rfl rfl (.inr ⟨_, _, _, rfl, rfl, ((L 3 rfl rfl).trans (congrArg Value.bool g79))⟩) (S.load rfl (L 0 rfl rfl) Try.underlying4 rfl ((ow9.own (k := 0) rfl).cell rfl)) nd ?_
    refine U.p rfl rfl (.inr ⟨_, _, _, rfl, rfl, ((L 4 rfl rfl).trans (congrArg Value.bool g79))⟩) (S.move rfl (L 0 rfl rfl)) ?_
    refine U.joinX 17 (fun e H => ∃ (u80 u81 u82 u83 u84 : Value), H = V7.H ∧ e = [(41, .bool (p1.e.act.volatile && (decide (p1.e.act.kind = 1)))), (40, u80), (39, u81), (38, u82), (37, u83), (36, u84)]) ?_ ?_
    ·rintro _ _ ⟨u80, u81, u82, u83, u84, rfl, rfl⟩
     refine U.p rfl rfl (.inl rfl) (S.pickF rfl ((L 11 rfl rfl).trans (congrArg Value.bool g79)) (L 0 rfl rfl)) ?_
     exact kk [(42, .bool (p1.e.act.volatile && (decide (p1.e.act.kind = 1)))), (41, .bool (p1.e.act.volatile && (decide (p1.e.act.kind = 1)))), (40, u80), (39, u81), (38, u82), (37, u83), (36, u84), (35, .bool p1.e.act.volatile), (34, .bool p1.e.act.volatile), (33, .pointer (some ⟨b6, 5, none⟩)), (32, .pointer (some ⟨b6, 1, none⟩)), (31, .pointer (some ⟨b6, 0, none⟩))] _ ⟨.bool (p1.e.act.volatile && (decide (p1.e.act.kind = 1))), u80, u81, u82, u83, u84, .bool p1.e.act.volatile, .bool p1.e.act.volatile, .pointer (some ⟨b6, 5, none⟩), .pointer (some ⟨b6, 1, none⟩), .pointer (some ⟨b6, 0, none⟩), rfl, (by rw [g79, Bool.false_or])⟩
    ·intro kk
     refine bcase (b := p1.e.act.volatile) (fun g88 => ?_) (fun g88 => ?_)
     ·skip
      refine U.p (v := .pointer (some ⟨b6, 0, none⟩)) rfl rfl (.inr ⟨_, _, _, rfl, rfl, ((L 0 rfl rfl).trans (congrArg Value.bool g88))⟩) (S.fieldAddr rfl (L 31 rfl rfl) Try.underlying45 rfl ti31 rfl rfl) ?_
      refine U.p (v := .pointer (some ⟨b6, 1, none⟩)) rfl rfl (.inr ⟨_, _, _, rfl, rfl, ((L 1 rfl rfl).trans (congrArg Value.bool g88))⟩) (S.fieldAddr rfl (L 0 rfl rfl) Try.underlying31 rfl ti29 rfl rfl) ?_
      refine U.p (v := .pointer (some ⟨b6, 1, none⟩)) rfl rfl (.inr ⟨_, _, _, rfl, rfl, ((L 2 rfl rfl).trans (congrArg Value.bool g88))⟩) (S.fieldAddr rfl (L 0 rfl rfl) Try.underlying29 rfl ti3 rfl rfl) ?_
      refine U.k rfl rfl (.inr ⟨_, _, _, rfl, rfl, ((L 3 rfl rfl).trans (congrArg Value.bool g88))⟩) (S.load rfl (L 0 rfl rfl) Try.underlying3 rfl ((ow9.own (k := 0) rfl).cell rfl)) nd ?_
      refine U.p rfl rfl (.inr ⟨_, _, _, rfl, rfl, ((L 4 rfl rfl).trans (congrArg Value.bool g88))⟩) (S.eqlI rfl (L 0 rfl rfl) K) ?_
      refine U.p rfl rfl (.inr ⟨_, _, _, rfl, rfl, ((L 10 rfl rfl).trans (congrArg Value.bool g79))⟩) (S.pickT rfl ((L 5 rfl rfl).trans (congrArg Value.bool g88)) (L 0 rfl rfl)) ?_
      exact kk [(41, .bool (decide (p1.e.act.kind = 1))), (40, .bool (decide (p1.e.act.kind = 1))), (39, .int .i64 p1.e.act.kind), (38, .pointer (some ⟨b6, 1, none⟩)), (37, .pointer (some ⟨b6, 1, none⟩)), (36, .pointer (some ⟨b6, 0, none⟩))] _ ⟨.bool (decide (p1.e.act.kind = 1)), .int .i64 p1.e.act.kind, .pointer (some ⟨b6, 1, none⟩), .pointer (some ⟨b6, 1, none⟩), .pointer (some ⟨b6, 0, none⟩), rfl, (by rw [g88, Bool.true_and])⟩
     ·skip
      refine U.x rfl rfl rfl rfl ((L 0 rfl rfl).trans (congrArg Value.bool g88)) (by decide) ?_
      refine U.x rfl rfl rfl rfl ((L 1 rfl rfl).trans (congrArg Value.bool g88)) (by decide) ?_
      refine U.x rfl rfl rfl rfl ((L 2 rfl rfl).trans (congrArg Value.bool g88)) (by decide) ?_
      refine U.x rfl rfl rfl rfl ((L 3 rfl rfl).trans (congrArg Value.bool g88)) (by decide) ?_
      refine U.x rfl rfl rfl rfl ((L 4 rfl rfl).trans (congrArg Value.bool g88)) (by decide) ?_
      refine U.p rfl rfl (.inr ⟨_, _, _, rfl, rfl, ((L 10 rfl rfl).trans (congrArg Value.bool g79))⟩) (S.pickF rfl ((L 5 rfl rfl).trans (congrArg Value.bool g88)) K) ?_
      exact kk [(41, .bool false), (40, .tuple #[]), (39, .tuple #[]), (38, .tuple #[]), (37, .tuple #[]), (36, .tuple #[])] _ ⟨.tuple #[], .tuple #[], .tuple #[], .tuple #[], .tuple #[], rfl, (by rw [g88, Bool.false_and])⟩
 ·intro kk
  refine bcase (b := decide (p0.e.act.kind = 6)) (fun g89 => ?_) (fun g89 => ?_)
  ·skip
   refine U.x rfl rfl rfl rfl ((L 0 rfl rfl).trans (congrArg Value.bool g89)) (by decide) ?_
   refine U.x rfl rfl rfl rfl ((L 1 rfl rfl).trans (congrArg Value.bool g89)) (by decide) ?_
   refine U.x rfl rfl rfl rfl ((L 2 rfl rfl).trans (congrArg Value.bool g89)) (by decide) ?_
   refine U.x rfl rfl rfl rfl ((L 3 rfl rfl).trans (congrArg Value.bool g89)) (by decide) ?_
   refine U.x rfl rfl rfl rfl ((L 4 rfl rfl).trans (congrArg Value.bool g89)) (by decide) ?_
   refine U.z rfl rfl rfl rfl (L 0 rfl rfl) ?_
   refine U.z rfl rfl rfl rfl (L 1 rfl rfl) ?_
   refine U.z rfl rfl rfl rfl (L 2 rfl rfl) ?_
   refine U.z rfl rfl rfl rfl (L 3 rfl rfl) ?_
   refine U.z rfl rfl rfl rfl (L 4 rfl rfl) ?_
   refine U.x rfl rfl rfl rfl ((L 10 rfl rfl).trans (congrArg Value.bool g89)) (by decide) ?_
   refine U.p rfl rfl (.inl rfl) (S.pickT rfl ((L 11 rfl rfl).trans (congrArg Value.bool g89)) K) ?_
   exact kk [(24, .bool true), (23, .tuple #[]), (22, .tuple #[]), (21, .tuple #[]), (20, .tuple #[]), (19, .tuple #[]), (18, .tuple #[]), (17, .tuple #[]), (16, .tuple #[]), (15, .tuple #[]), (14, .tuple #[]), (13, .tuple #[])] _ ⟨.tuple #[], .tuple #[], .tuple #[], .tuple #[], .tuple #[], .tuple #[], .tuple #[], .tuple #[], .tuple #[], .tuple #[], .tuple #[], rfl, (by rw [g89, Bool.true_or])⟩
  ·skip
   refine U.p (v := .pointer (some ⟨b1, 0, none⟩)) rfl rfl (.inr ⟨_, _, _, rfl, rfl, ((L 0 rfl rfl).trans (congrArg Value.bool g89))⟩) (S.fieldAddr rfl (L 8 rfl rfl) Try.underlying45 rfl ti31 rfl rfl) ?_
   refine U.p (v := .pointer (some ⟨b1, 1, none⟩)) rfl rfl (.inr ⟨_, _, _, rfl, rfl, ((L 1 rfl rfl).trans (congrArg Value.bool g89))⟩) (S.fieldAddr rfl (L 0 rfl rfl) Try.underlying31 rfl ti29 rfl rfl) ?_
   refine U.p (v := .pointer (some ⟨b1, 5, none⟩)) rfl rfl (.inr ⟨_, _, _, rfl, rfl, ((L 2 rfl rfl).trans (congrArg Value.bool g89))⟩) (S.fieldAddr rfl (L 0 rfl rfl) Try.underlying29 rfl ti4 rfl rfl) ?_
   refine U.k rfl rfl (.inr ⟨_, _, _, rfl, rfl, ((L 3 rfl rfl).trans (congrArg Value.bool g89))⟩) (S.load rfl (L 0 rfl rfl) Try.underlying4 rfl ((ow9.own (k := 1) rfl).cell rfl)) nd ?_
   refine U.p rfl rfl (.inr ⟨_, _, _, rfl, rfl, ((L 4 rfl rfl).trans (congrArg Value.bool g89))⟩) (S.move rfl (L 0 rfl rfl)) ?_
   refine U.joinX 17 (fun e H => ∃ (u90 u91 u92 u93 u94 : Value), H = V7.H ∧ e = [(23, .bool (p0.e.act.volatile && (decide (p0.e.act.kind = 2)))), (22, u90), (21, u91), (20, u92), (19, u93), (18, u94)]) ?_ ?_
   ·rintro _ _ ⟨u90, u91, u92, u93, u94, rfl, rfl⟩
    refine U.p rfl rfl (.inl rfl) (S.pickF rfl ((L 11 rfl rfl).trans (congrArg Value.bool g89)) (L 0 rfl rfl)) ?_
    exact kk [(24, .bool (p0.e.act.volatile && (decide (p0.e.act.kind = 2)))), (23, .bool (p0.e.act.volatile && (decide (p0.e.act.kind = 2)))), (22, u90), (21, u91), (20, u92), (19, u93), (18, u94), (17, .bool p0.e.act.volatile), (16, .bool p0.e.act.volatile), (15, .pointer (some ⟨b1, 5, none⟩)), (14, .pointer (some ⟨b1, 1, none⟩)), (13, .pointer (some ⟨b1, 0, none⟩))] _ ⟨.bool (p0.e.act.volatile && (decide (p0.e.act.kind = 2))), u90, u91, u92, u93, u94, .bool p0.e.act.volatile, .bool p0.e.act.volatile, .pointer (some ⟨b1, 5, none⟩), .pointer (some ⟨b1, 1, none⟩), .pointer (some ⟨b1, 0, none⟩), rfl, (by rw [g89, Bool.false_or])⟩
   ·intro kk
    refine bcase (b := p0.e.act.volatile) (fun g98 => ?_) (fun g98 => ?_)
    ·skip
     refine U.p (v := .pointer (some ⟨b1, 0, none⟩)) rfl rfl (.inr ⟨_, _, _, rfl, rfl, ((L 0 rfl rfl).trans (congrArg Value.bool g98))⟩) (S.fieldAddr rfl (L 13 rfl rfl) Try.underlying45 rfl ti31 rfl rfl) ?_
     refine U.p (v := .pointer (some ⟨b1, 1, none⟩)) rfl rfl (.inr ⟨_, _, _, rfl, rfl, ((L 1 rfl rfl).trans (congrArg Value.bool g98))⟩) (S.fieldAddr rfl (L 0 rfl rfl) Try.underlying31 rfl ti29 rfl rfl) ?_
     refine U.p (v := .pointer (some ⟨b1, 1, none⟩)) rfl rfl (.inr ⟨_, _, _, rfl, rfl, ((L 2 rfl rfl).trans (congrArg Value.bool g98))⟩) (S.fieldAddr rfl (L 0 rfl rfl) Try.underlying29 rfl ti3 rfl rfl) ?_
     refine U.k rfl rfl (.inr ⟨_, _, _, rfl, rfl, ((L 3 rfl rfl).trans (congrArg Value.bool g98))⟩) (S.load rfl (L 0 rfl rfl) Try.underlying3 rfl ((ow9.own (k := 1) rfl).cell rfl)) nd ?_
     refine U.p rfl rfl (.inr ⟨_, _, _, rfl, rfl, ((L 4 rfl rfl).trans (congrArg Value.bool g98))⟩) (S.eqlI rfl (L 0 rfl rfl) K) ?_
     refine U.p rfl rfl (.inr ⟨_, _, _, rfl, rfl, ((L 10 rfl rfl).trans (congrArg Value.bool g89))⟩) (S.pickT rfl ((L 5 rfl rfl).trans (congrArg Value.bool g98)) (L 0 rfl rfl)) ?_
     exact kk [(23, .bool (decide (p0.e.act.kind = 2))), (22, .bool (decide (p0.e.act.kind = 2))), (21, .int .i64 p0.e.act.kind), (20, .pointer (some ⟨b1, 1, none⟩)), (19, .pointer (some ⟨b1, 1, none⟩)), (18, .pointer (some ⟨b1, 0, none⟩))] _ ⟨.bool (decide (p0.e.act.kind = 2)), .int .i64 p0.e.act.kind, .pointer (some ⟨b1, 1, none⟩), .pointer (some ⟨b1, 1, none⟩), .pointer (some ⟨b1, 0, none⟩), rfl, (by rw [g98, Bool.true_and])⟩
    ·skip
     refine U.x rfl rfl rfl rfl ((L 0 rfl rfl).trans (congrArg Value.bool g98)) (by decide) ?_
     refine U.x rfl rfl rfl rfl ((L 1 rfl rfl).trans (congrArg Value.bool g98)) (by decide) ?_
     refine U.x rfl rfl rfl rfl ((L 2 rfl rfl).trans (congrArg Value.bool g98)) (by decide) ?_
     refine U.x rfl rfl rfl rfl ((L 3 rfl rfl).trans (congrArg Value.bool g98)) (by decide) ?_
     refine U.x rfl rfl rfl rfl ((L 4 rfl rfl).trans (congrArg Value.bool g98)) (by decide) ?_
     refine U.p rfl rfl (.inr ⟨_, _, _, rfl, rfl, ((L 10 rfl rfl).trans (congrArg Value.bool g89))⟩) (S.pickF rfl ((L 5 rfl rfl).trans (congrArg Value.bool g98)) K) ?_
     exact kk [(23, .bool false), (22, .tuple #[]), (21, .tuple #[]), (20, .tuple #[]), (19, .tuple #[]), (18, .tuple #[])] _ ⟨.tuple #[], .tuple #[], .tuple #[], .tuple #[], .tuple #[], rfl, (by rw [g98, Bool.false_and])⟩
set_option maxHeartbeats 4000000 in
set_option maxRecDepth 10000 in
theorem wk_order_join_c1 (V : Vw) (Rs : List At) (p0 : Nat) (p1 : Tnd) (p2 : Tnd) (g1 : Nat) (b3 : Nat) (z4 : Nat) (b6 : Nat) (z7 : Nat) (hf2 : fnt46[p0]? = some (.func (.func g1) #[] #[])) (ow : Ow V (.pt b3 (.cells z4 [.int .i64 p1.e.t, .int .i64 p1.e.act.kind, .int .i64 p1.e.act.at_, .int .i64 p1.e.act.val, .int .i64 p1.e.act.what, .bool p1.e.act.volatile, .bool p1.e.act.final, .int .i64 p1.e.rf, .int .i64 p1.e.id, .int .i64 p1.at_]) :: .pt b6 (.cells z7 [.int .i64 p2.e.t, .int .i64 p2.e.act.kind, .int .i64 p2.e.act.at_, .int .i64 p2.e.act.val, .int .i64 p2.e.act.what, .bool p2.e.act.volatile, .bool p2.e.act.final, .int .i64 p2.e.rf, .int .i64 p2.e.id, .int .i64 p2.at_]) :: Rs)) (r : Bool) (h : order_join_c1 p0 p1 p2 = some r) : ∃ v V', Cl Try.prog 0 52 #[.func (.func g1) #[] #[], .pointer (some ⟨b3, 0, none⟩), .pointer (some ⟨b6, 0, none⟩)] V.H v V'.H ∧ V.le V' ∧ (v = .bool r ∧ Ow V' (.pt b3 (.cells z4 [.int .i64 p1.e.t, .int .i64 p1.e.act.kind, .int .i64 p1.e.act.at_, .int .i64 p1.e.act.val, .int .i64 p1.e.act.what, .bool p1.e.act.volatile, .bool p1.e.act.final, .int .i64 p1.e.rf, .int .i64 p1.e.id, .int .i64 p1.at_]) :: .pt b6 (.cells z7 [.int .i64 p2.e.t, .int .i64 p2.e.act.kind, .int .i64 p2.e.act.at_, .int .i64 p2.e.act.val, .int .i64 p2.e.act.what, .bool p2.e.act.volatile, .bool p2.e.act.final, .int .i64 p2.e.rf, .int .i64 p2.e.id, .int .i64 p2.at_]) :: Rs)) := by
 refine Ct.of (Nat.zero_le _) Try.func52 rfl (nr rfl) ?_
 unfold order_join_c1 at h
 refine WP.usreg rfl ?_
 refine U.p rfl rfl (.inl rfl) (S.assign rfl K) ?_
 refine U.done (nr rfl) ?_
 refine WP.usreg rfl ?_
 refine U.p rfl rfl (.inl rfl) (S.move rfl (L 1 rfl rfl)) ?_
 refine U.k rfl rfl (.inl rfl) (S.loadB rfl (L 3 rfl rfl) Try.underlying45 rfl ti45 (ow.own (k := 0) rfl).get rfl) nd ?_
 refine U.k rfl rfl (.inl rfl) (S.loadB rfl (L 5 rfl rfl) Try.underlying45 rfl ti45 (ow.own (k := 1) rfl).get rfl) nd ?_
 refine bcase (b := decide (p0 = 0)) (fun g9 => ?_) (fun g9 => ?_)
 ·have h10 := ifT g9 h
  have q11 := hf2
  rw [show p0 = 0 from of_decide_eq_true g9] at q11
  replace q11 : some (Value.func (.func 26) #[] #[]) = some (Value.func (.func g1) #[] #[]) := q11
  cases q11
  obtain ⟨x12, hx13, h14⟩ := bindS h10
  refine O.callv (V := V) rfl rfl (.inl rfl) rfl (L 2 rfl rfl) en26 (aC (L 1 rfl rfl) (aC (L 0 rfl rfl) aN)) (wk_order_Run_Coherent_c1 V _ p1 p2 ow _ hx13) (fun _ _ _ _ => nd) (fun v15 V16 le17 hp18 => ?_)
  obtain ⟨rfl, ow19⟩ := hp18
  refine U.p rfl rfl (.inl rfl) (S.assign rfl (L 0 rfl rfl)) ?_
  refine U.done (nr rfl) ?_
  refine WP.ret ?_
  refine fin.slot (.inr rfl) rfl (L 0 rfl rfl) ⟨V16, rfl, le17, ?_⟩
  have e20 := Option.some.inj h14
  subst e20
  exact ⟨rfl, ow19⟩
 ·have h21 := ifF g9 h
  refine bcase (b := decide (p0 = 1)) (fun g22 => ?_) (fun g22 => ?_)
  ·have h23 := ifT g22 h21
   have q24 := hf2
   rw [show p0 = 1 from of_decide_eq_true g22] at q24
   replace q24 : some (Value.func (.func 27) #[] #[]) = some (Value.func (.func g1) #[] #[]) := q24
   cases q24
   obtain ⟨x25, hx26, h27⟩ := bindS h23
   refine O.callv (V := V) rfl rfl (.inl rfl) rfl (L 2 rfl rfl) en27 (aC (L 1 rfl rfl) (aC (L 0 rfl rfl) aN)) (wk_order_po V _ p1 p2 ow _ hx26) (fun _ _ _ _ => nd) (fun v28 V29 le30 hp31 => ?_)
   obtain ⟨rfl, ow32⟩ := hp31
   refine U.p rfl rfl (.inl rfl) (S.assign rfl (L 0 rfl rfl)) ?_
   refine U.done (nr rfl) ?_
   refine WP.ret ?_
   refine fin.slot (.inr rfl) rfl (L 0 rfl rfl) ⟨V29, rfl, le30, ?_⟩
   have e33 := Option.some.inj h27
   subst e33
   exact ⟨rfl, ow32⟩
  ·have h34 := ifF g22 h21
   refine bcase (b := decide (p0 = 2)) (fun g35 => ?_) (fun g35 => ?_)
   ·have h36 := ifT g35 h34
    have q37 := hf2
    rw [show p0 = 2 from of_decide_eq_true g35] at q37
    replace q37 : some (Value.func (.func 28) #[] #[]) = some (Value.func (.func g1) #[] #[]) := q37
    cases q37
    obtain ⟨x38, hx39, h40⟩ := bindS h36
    refine O.callv (V := V) rfl rfl (.inl rfl) rfl (L 2 rfl rfl) en28 (aC (L 1 rfl rfl) (aC (L 0 rfl rfl) aN)) (wk_order_rf V _ p1 p2 ow _ hx39) (fun _ _ _ _ => nd) (fun v41 V42 le43 hp44 => ?_)
    obtain ⟨rfl, ow45⟩ := hp44
    refine U.p rfl rfl (.inl rfl) (S.assign rfl (L 0 rfl rfl)) ?_
    refine U.done (nr rfl) ?_
    refine WP.ret ?_
    refine fin.slot (.inr rfl) rfl (L 0 rfl rfl) ⟨V42, rfl, le43, ?_⟩
    have e46 := Option.some.inj h40
    subst e46
    exact ⟨rfl, ow45⟩
   ·have h47 := ifF g35 h34
    refine bcase (b := decide (p0 = 3)) (fun g48 => ?_) (fun g48 => ?_)
    ·have h49 := ifT g48 h47
     have q50 := hf2
     rw [show p0 = 3 from of_decide_eq_true g48] at q50
     replace q50 : some (Value.func (.func 29) #[] #[]) = some (Value.func (.func g1) #[] #[]) := q50
     cases q50
     obtain ⟨x51, hx52, h53⟩ := bindS h49
     refine O.callv (V := V) rfl rfl (.inl rfl) rfl (L 2 rfl rfl) en29 (aC (L 1 rfl rfl) (aC (L 0 rfl rfl) aN)) (wk_order_co V _ p1 p2 ow _ hx52) (fun _ _ _ _ => nd) (fun v54 V55 le56 hp57 => ?_)
     obtain ⟨rfl, ow58⟩ := hp57
     refine U.p rfl rfl (.inl rfl) (S.assign rfl (L 0 rfl rfl)) ?_
     refine U.done (nr rfl) ?_
     refine WP.ret ?_
     refine fin.slot (.inr rfl) rfl (L 0 rfl rfl) ⟨V55, rfl, le56, ?_⟩
     have e59 := Option.some.inj h53
     subst e59
     exact ⟨rfl, ow58⟩
    ·have h60 := ifF g48 h47
     refine bcase (b := decide (p0 = 4)) (fun g61 => ?_) (fun g61 => ?_)
     ·have h62 := ifT g61 h60
      have q63 := hf2
      rw [show p0 = 4 from of_decide_eq_true g61] at q63
      replace q63 : some (Value.func (.func 30) #[] #[]) = some (Value.func (.func g1) #[] #[]) := q63
      cases q63
      obtain ⟨x64, hx65, h66⟩ := bindS h62
      refine O.callv (V := V) rfl rfl (.inl rfl) rfl (L 2 rfl rfl) en30 (aC (L 1 rfl rfl) (aC (L 0 rfl rfl) aN)) (wk_order_fr V _ p1 p2 ow _ hx65) (fun _ _ _ _ => nd) (fun v67 V68 le69 hp70 => ?_)
      obtain ⟨rfl, ow71⟩ := hp70
      refine U.p rfl rfl (.inl rfl) (S.assign rfl (L 0 rfl rfl)) ?_
      refine U.done (nr rfl) ?_
      refine WP.ret ?_
      refine fin.slot (.inr rfl) rfl (L 0 rfl rfl) ⟨V68, rfl, le69, ?_⟩
      have e72 := Option.some.inj h66
      subst e72
      exact ⟨rfl, ow71⟩
     ·have h73 := ifF g61 h60
      refine bcase (b := decide (p0 = 5)) (fun g74 => ?_) (fun g74 => ?_)
      ·have h75 := ifT g74 h73
       have q76 := hf2
       rw [show p0 = 5 from of_decide_eq_true g74] at q76
       replace q76 : some (Value.func (.func 54) #[] #[]) = some (Value.func (.func g1) #[] #[]) := q76
       cases q76
       obtain ⟨x77, hx78, h79⟩ := bindS h75
       refine O.callv (V := V) rfl rfl (.inl rfl) rfl (L 2 rfl rfl) en54 (aC (L 1 rfl rfl) (aC (L 0 rfl rfl) aN)) (wk_order_released V _ p1 p2 ow _ hx78) (fun _ _ _ _ => nd) (fun v80 V81 le82 hp83 => ?_)
       obtain ⟨rfl, ow84⟩ := hp83
       refine U.p rfl rfl (.inl rfl) (S.assign rfl (L 0 rfl rfl)) ?_
       refine U.done (nr rfl) ?_
       refine WP.ret ?_
       refine fin.slot (.inr rfl) rfl (L 0 rfl rfl) ⟨V81, rfl, le82, ?_⟩
       have e85 := Option.some.inj h79
       subst e85
       exact ⟨rfl, ow84⟩
      ·have h86 := ifF g74 h73
       cases h86
set_option maxHeartbeats 4000000 in
set_option maxRecDepth 10000 in
theorem wk_slices_IndexFunc (V : Vw) (Rs : List At) (p0 : List Nat) (p1_10 : Tnd) (p1_11 : Tnd) (v1 : Value) (b3 : Nat) (z4 : Nat) (b6 : Nat) (z7 : Nat) (ow : Ow V (.os (RT.fn fnt46) v1 p0 :: .pt b3 (.cells z4 [.int .i64 p1_10.e.t, .int .i64 p1_10.e.act.kind, .int .i64 p1_10.e.act.at_, .int .i64 p1_10.e.act.val, .int .i64 p1_10.e.act.what, .bool p1_10.e.act.volatile, .bool p1_10.e.act.final, .int .i64 p1_10.e.rf, .int .i64 p1_10.e.id, .int .i64 p1_10.at_]) :: .pt b6 (.cells z7 [.int .i64 p1_11.e.t, .int .i64 p1_11.e.act.kind, .int .i64 p1_11.e.act.at_, .int .i64 p1_11.e.act.val, .int .i64 p1_11.e.act.what, .bool p1_11.e.act.volatile, .bool p1_11.e.act.final, .int .i64 p1_11.e.rf, .int .i64 p1_11.e.id, .int .i64 p1_11.at_]) :: Rs)) (r : Int) (h : slices_IndexFunc p0 p1_10 p1_11 = some r) : ∃ v V', Cl Try.prog 0 60 #[v1, .func (.func 52) #[] #[.pointer (some ⟨b3, 0, none⟩), .pointer (some ⟨b6, 0, none⟩)]] V.H v V'.H ∧ V.le V' ∧ (v = .int .i64 r ∧ Ow V' (.os (RT.fn fnt46) v1 p0 :: .pt b3 (.cells z4 [.int .i64 p1_10.e.t, .int .i64 p1_10.e.act.kind, .int .i64 p1_10.e.act.at_, .int .i64 p1_10.e.act.val, .int .i64 p1_10.e.act.what, .bool p1_10.e.act.volatile, .bool p1_10.e.act.final, .int .i64 p1_10.e.rf, .int .i64 p1_10.e.id, .int .i64 p1_10.at_]) :: .pt b6 (.cells z7 [.int .i64 p1_11.e.t, .int .i64 p1_11.e.act.kind, .int .i64 p1_11.e.act.at_, .int .i64 p1_11.e.act.val, .int .i64 p1_11.e.act.what, .bool p1_11.e.act.volatile, .bool p1_11.e.act.final, .int .i64 p1_11.e.rf, .int .i64 p1_11.e.id, .int .i64 p1_11.at_]) :: Rs)) := by
 refine Ct.of (Nat.zero_le _) Try.func60 rfl (nr rfl) ?_
 unfold slices_IndexFunc at h
 refine WP.usreg rfl ?_
 refine U.p rfl rfl (.inl rfl) (S.assign rfl K) ?_
 refine U.done (nr rfl) ?_
 refine WP.seq ?_
 refine WP.usreg rfl ?_
 refine U.p rfl rfl (.inl rfl) (S.move rfl (L 1 rfl rfl)) ?_
 refine U.p rfl rfl (.inl rfl) (ow.oslen (k := 0) rfl rfl (L 0 rfl rfl) Try.underlying66) ?_
 refine U.p rfl rfl (.inl rfl) (S.move rfl K) ?_
 refine U.done (nr rfl) ?_
 refine WP.blk ?_
 unfold slices_IndexFunc_l1 at h
 obtain ⟨n11, hn10⟩ := loopO_some.1 h
 refine WP.loopI2 (fun n l V' => ∃ (x9 : Int), l = [(0, v1), (1, .func (.func 52) #[] #[.pointer (some ⟨b3, 0, none⟩), .pointer (some ⟨b6, 0, none⟩)]), (7, .int .i64 (p0.length : Int)), (8, .int .i64 x9)] ∧ V.le V' ∧ Ow V' (.os (RT.fn fnt46) v1 p0 :: .pt b3 (.cells z4 [.int .i64 p1_10.e.t, .int .i64 p1_10.e.act.kind, .int .i64 p1_10.e.act.at_, .int .i64 p1_10.e.act.val, .int .i64 p1_10.e.act.what, .bool p1_10.e.act.volatile, .bool p1_10.e.act.final, .int .i64 p1_10.e.rf, .int .i64 p1_10.e.id, .int .i64 p1_10.at_]) :: .pt b6 (.cells z7 [.int .i64 p1_11.e.t, .int .i64 p1_11.e.act.kind, .int .i64 p1_11.e.act.at_, .int .i64 p1_11.e.act.val, .int .i64 p1_11.e.act.what, .bool p1_11.e.act.volatile, .bool p1_11.e.act.final, .int .i64 p1_11.e.rf, .int .i64 p1_11.e.id, .int .i64 p1_11.at_]) :: Rs) ∧ itO (fun s => slices_IndexFunc_l1b p0 p1_10 p1_11 s) n x9 = some r) n11 _ ⟨0, rfl, .refl _, ow, hn10⟩ (allCons (L 4 rfl rfl) (allCons (L 5 rfl rfl) (allCons (L 1 rfl rfl) (allCons (L 0 rfl rfl) allNil)))) ?_
 rintro _ _ V12 ⟨x9, rfl, le13, ow14, h18⟩
 obtain ⟨m15, q16, rfl, h19, e17⟩ := itS h18
 replace h19 : slices_IndexFunc_l1b p0 p1_10 p1_11 x9 = some q16 := h19
 unfold slices_IndexFunc_l1b at h19
 refine WP.usreg rfl ?_
 refine U.p rfl rfl (.inl rfl) (S.lss rfl (L 3 rfl rfl) (L 2 rfl rfl)) ?_
 refine U.done (nr rfl) ?_
 refine WP.seq ?_
 refine WP.cond _ (L 0 rfl rfl) rfl (fun c20 => ?_) (fun c20 => ?_)
 ·have h21 := ifT c20 h19
  refine WP.skip ?_
  refine sqN ?_
  refine WP.seq ?_
  refine WP.blk ?_
  refine WP.usreg rfl ?_
  refine U.p rfl rfl (.inl rfl) (S.move rfl (L 4 rfl rfl)) ?_
  refine U.p rfl rfl (.inl rfl) (S.assign rfl (L 0 rfl rfl)) ?_
  refine U.done (nr rfl) ?_
  refine WP.usreg rfl ?_
  refine U.p rfl rfl (.inl rfl) (S.move rfl (L 4 rfl rfl)) ?_
  refine U.p rfl rfl (.inl rfl) (S.move rfl (L 4 rfl rfl)) ?_
  refine U.p rfl rfl (.inl rfl) (S.move rfl (L 2 rfl rfl)) ?_
  obtain ⟨x22, hx23, h24⟩ := bindS h21
  obtain ⟨b25, o26, n27, c28, hv29⟩ := ow14.ospt (k := 0) rfl hx23
  obtain ⟨_, hv30, _⟩ := ow14.osel (k := 0) rfl hv29 hx23
  refine U.p rfl rfl (.inl rfl) (S.index rfl ((L 1 rfl rfl).trans hv30) (L 0 rfl rfl) Try.underlying66 ti46 (ix_ge hx23) (ix_lt hx23)) ?_
  obtain ⟨cs31, hv32, hlt33, hr34, hc35⟩ := ow14.osel (k := 0) rfl hv29 hx23
  obtain ⟨_, rfl, hf37, g36, rfl⟩ := hr34
  refine U.k rfl rfl (.inl rfl) (S.load rfl (L 0 rfl rfl) Try.underlying46 rfl (hc35 0 _ rfl)) nd ?_
  have ow38 := ow14.pick 2 rfl
  have ow39 := ow38.pick 2 rfl
  obtain ⟨x40, hx41, h42⟩ := bindS h24
  refine O.callv (V := V12) rfl rfl (.inl rfl) rfl (L 4 rfl rfl) en52 (aC (L 0 rfl rfl) aN) (wk_order_join_c1 V12 _ x22 p1_10 p1_11 g36 b3 z4 b6 z7 hf37 ow39 _ hx41) (fun _ _ _ _ => nd) (fun v43 V44 le45 hp46 => ?_)
  obtain ⟨rfl, ow47⟩ := hp46
  refine U.done (nr rfl) ?_
  refine WP.cond _ (L 0 rfl rfl) rfl (fun c48 => ?_) (fun c48 => ?_)
  ·have h49 := ifT c48 h42
   refine WP.usreg rfl ?_
   refine U.p rfl rfl (.inl rfl) (S.move rfl (L 6 rfl rfl)) ?_
   refine U.p rfl rfl (.inl rfl) (S.assign rfl (L 0 rfl rfl)) ?_
   refine U.done (nr rfl) ?_
   refine WP.ret ?_
   refine blkR (sqR (sqR (blkR (sqR ?_))))
   have h50 := exitS h49 e17
   refine fin.slot (.inr rfl) rfl (L 0 rfl rfl) ⟨V44, rfl, (le13.trans le45), ?_⟩
   have ow51 := ow47.pick 1 rfl
   have ow52 := ow51.pick 1 rfl
   have ow53 := ow52.pick 2 rfl
   have e54 := Option.some.inj h50
   subst e54
   exact ⟨rfl, ow53⟩
  ·have h55 := ifF c48 h42
   refine WP.skip ?_
   refine blkN (sqN ?_)
   refine WP.ureg rfl ?_
   refine U.p rfl rfl (.inl rfl) (S.add rfl (L 12 rfl rfl) K) ?_
   refine U.p rfl rfl (.inl rfl) (S.move rfl (L 0 rfl rfl)) ?_
   refine U.done (nr rfl) ?_
   refine sqN ?_
   have ow56 := ow47.pick 1 rfl
   have ow57 := ow56.pick 1 rfl
   have ow58 := ow57.pick 2 rfl
   exact ⟨_, V44, rfl, ⟨m15, Nat.lt_succ_self _, w64 (x9 + 1), rfl, (le13.trans le45), ow58, backS h55 e17⟩, (allCons (L 11 rfl rfl) (allCons (L 12 rfl rfl) (allCons (L 13 rfl rfl) (allCons (L 0 rfl rfl) allNil))))⟩
 ·have h59 := ifF c20 h19
  refine WP.exit ?_
  refine sqE (sqE (blkE (sqN ?_)))
  have h60 := exitS h59 e17
  refine WP.usreg rfl ?_
  refine U.p rfl rfl (.inl rfl) (S.assign rfl K) ?_
  refine U.done (nr rfl) ?_
  refine WP.ret ?_
  refine fin.slot (.inr rfl) rfl (L 0 rfl rfl) ⟨V12, rfl, le13, ?_⟩
  have e61 := Option.some.inj h60
  subst e61
  exact ⟨rfl, ow14⟩
set_option maxHeartbeats 4000000 in
set_option maxRecDepth 10000 in
theorem wk_slices_ContainsFunc (V : Vw) (Rs : List At) (p0 : List Nat) (p1_10 : Tnd) (p1_11 : Tnd) (v1 : Value) (b3 : Nat) (z4 : Nat) (b6 : Nat) (z7 : Nat) (ow : Ow V (.os (RT.fn fnt46) v1 p0 :: .pt b3 (.cells z4 [.int .i64 p1_10.e.t, .int .i64 p1_10.e.act.kind, .int .i64 p1_10.e.act.at_, .int .i64 p1_10.e.act.val, .int .i64 p1_10.e.act.what, .bool p1_10.e.act.volatile, .bool p1_10.e.act.final, .int .i64 p1_10.e.rf, .int .i64 p1_10.e.id, .int .i64 p1_10.at_]) :: .pt b6 (.cells z7 [.int .i64 p1_11.e.t, .int .i64 p1_11.e.act.kind, .int .i64 p1_11.e.act.at_, .int .i64 p1_11.e.act.val, .int .i64 p1_11.e.act.what, .bool p1_11.e.act.volatile, .bool p1_11.e.act.final, .int .i64 p1_11.e.rf, .int .i64 p1_11.e.id, .int .i64 p1_11.at_]) :: Rs)) (r : Bool) (h : slices_ContainsFunc p0 p1_10 p1_11 = some r) : ∃ v V', Cl Try.prog 0 51 #[v1, .func (.func 52) #[] #[.pointer (some ⟨b3, 0, none⟩), .pointer (some ⟨b6, 0, none⟩)]] V.H v V'.H ∧ V.le V' ∧ (v = .bool r ∧ Ow V' (.os (RT.fn fnt46) v1 p0 :: .pt b3 (.cells z4 [.int .i64 p1_10.e.t, .int .i64 p1_10.e.act.kind, .int .i64 p1_10.e.act.at_, .int .i64 p1_10.e.act.val, .int .i64 p1_10.e.act.what, .bool p1_10.e.act.volatile, .bool p1_10.e.act.final, .int .i64 p1_10.e.rf, .int .i64 p1_10.e.id, .int .i64 p1_10.at_]) :: .pt b6 (.cells z7 [.int .i64 p1_11.e.t, .int .i64 p1_11.e.act.kind, .int .i64 p1_11.e.act.at_, .int .i64 p1_11.e.act.val, .int .i64 p1_11.e.act.what, .bool p1_11.e.act.volatile, .bool p1_11.e.act.final, .int .i64 p1_11.e.rf, .int .i64 p1_11.e.id, .int .i64 p1_11.at_]) :: Rs)) := by
 refine Ct.of (Nat.zero_le _) Try.func51 rfl (nr rfl) ?_
 unfold slices_ContainsFunc at h
 refine WP.usreg rfl ?_
 refine U.p rfl rfl (.inl rfl) (S.assign rfl K) ?_
 refine U.done (nr rfl) ?_
 refine WP.usreg rfl ?_
 refine U.p rfl rfl (.inl rfl) (S.move rfl (L 1 rfl rfl)) ?_
 refine U.p rfl rfl (.inl rfl) (S.move rfl (L 3 rfl rfl)) ?_
 have ow9 := ow.pick 2 rfl
 have ow10 := ow9.pick 2 rfl
 have ow11 := ow10.pick 2 rfl
 obtain ⟨x12, hx13, h14⟩ := bindS h
 refine O.call (V := V) rfl rfl (.inl rfl) rfl en60 (aC (L 1 rfl rfl) (aC (L 0 rfl rfl) aN)) (wk_slices_IndexFunc V _ p0 p1_10 p1_11 v1 b3 z4 b6 z7 ow11 _ hx13) (fun _ _ _ _ => nd) (fun v15 V16 le17 hp18 => ?_)
 obtain ⟨rfl, ow19⟩ := hp18
 refine U.p rfl rfl (.inl rfl) (S.geq rfl (L 0 rfl rfl) K) ?_
 refine U.p rfl rfl (.inl rfl) (S.assign rfl (L 0 rfl rfl)) ?_
 refine U.done (nr rfl) ?_
 refine WP.ret ?_
 refine fin.slot (.inr rfl) rfl (L 0 rfl rfl) ⟨V16, rfl, le17, ?_⟩
 have e20 := Option.some.inj h14
 subst e20
 exact ⟨rfl, ow19⟩
set_option maxHeartbeats 4000000 in
set_option maxRecDepth 10000 in
theorem wk_order_join (V : Vw) (Rs : List At) (p0 : List Tnd) (p1 : List Nat) (v1 : Value) (v3 : Value) (ow : Ow V (.os RT_Tnd v1 p0 :: .os (RT.fn fnt46) v3 p1 :: Rs)) (r : List (List Bool)) (h : order_join p0 p1 = some r) : ∃ v V', Cl Try.prog 0 25 #[v1, v3] V.H v V'.H ∧ V.le V' ∧ (∃ (v5 : Value) (hs6 : List Value), v = v5 ∧ Ow V' (.oss (RO.os RT.bool) v5 hs6 r :: .os RT_Tnd v1 p0 :: .os (RT.fn fnt46) v3 p1 :: Rs)) := by
 refine Ct.of (Nat.zero_le _) Try.func25 rfl (nr rfl) ?_
 unfold order_join at h
 refine WP.usreg rfl ?_
 refine U.p rfl rfl (.inl rfl) (S.assign rfl K) ?_
 refine U.done (nr rfl) ?_
 refine WP.usreg rfl ?_
 refine U.p rfl rfl (.inl rfl) (S.move rfl (L 1 rfl rfl)) ?_
 refine U.p rfl rfl (.inl rfl) (ow.oslen (k := 0) rfl rfl (L 0 rfl rfl) Try.underlying38) ?_
 obtain ⟨xs8, hx9, h10⟩ := bindS h
 refine O.makeS (RO.os RT.bool) ow rfl rfl (.inl rfl) rfl (L 0 rfl rfl) (L 0 rfl rfl) Try.underlying42 ti53 rfl rfl (nr rfl) ⟨Nat.zero_le _, .inl ⟨rfl, rfl, rfl⟩⟩ hx9 (fun _ => nd) (fun v11 hs12 V13 le14 ow15 => ?_)
 refine U.p rfl rfl (.inl rfl) (S.assign rfl (L 0 rfl rfl)) ?_
 refine U.done (nr rfl) ?_
 refine WP.seq ?_
 refine WP.usreg rfl ?_
 refine U.p rfl rfl (.inl rfl) (S.move rfl (L 5 rfl rfl)) ?_
 refine U.p rfl rfl (.inl rfl) (ow15.oslen (k := 1) rfl rfl (L 0 rfl rfl) Try.underlying38) ?_
 refine U.p rfl rfl (.inl rfl) (S.move rfl K) ?_
 refine U.done (nr rfl) ?_
 refine WP.blk ?_
 have ow20 := ow15.pick 0 rfl
 have ow21 := ow20.pick 2 rfl
 have ow22 := ow21.pick 2 rfl
 unfold order_join_l1 at h10
 obtain ⟨n24, hn23⟩ := loopO_some.1 h10
 refine WP.loopI2 (fun n l V' => ∃ (hs17 : List Value) (xs18 : List (List Bool)) (x19 : Int), l = [(0, v1), (1, v3), (5, v11), (13, v1), (14, .int .i64 (p0.length : Int)), (15, .int .i64 x19)] ∧ V13.le V' ∧ Ow V' (.os RT_Tnd v1 p0 :: .os (RT.fn fnt46) v3 p1 :: .oss (RO.os RT.bool) v11 hs17 xs18 :: Rs) ∧ itO (fun s => order_join_l1b p0 p1 s.1 s.2) n (xs18, x19) = some r) n24 _ ⟨hs12, xs8, 0, rfl, .refl _, ow22, hn23⟩ (allCons (L 8 rfl rfl) (allCons (L 9 rfl rfl) (allCons (L 3 rfl rfl) (allCons (L 2 rfl rfl) (allCons (L 1 rfl rfl) (allCons (L 0 rfl rfl) allNil)))))) ?_
 rintro _ _ V25 ⟨hs17, xs18, x19, rfl, le26, ow27, h31⟩
 obtain ⟨m28, q29, rfl, h32, e30⟩ := itS h31
 replace h32 : order_join_l1b p0 p1 xs18 x19 = some q29 := h32
 unfold order_join_l1b at h32
 refine WP.usreg rfl ?_
 refine U.p rfl rfl (.inl rfl) (S.lss rfl (L 5 rfl rfl) (L 4 rfl rfl)) ?_
 refine U.done (nr rfl) ?_
 refine WP.seq ?_
 refine WP.cond _ (L 0 rfl rfl) rfl (fun c33 => ?_) (fun c33 => ?_)
 ·have h34 := ifT c33 h32
  refine WP.skip ?_
  refine sqN ?_
  refine WP.seq ?_
  refine WP.blk ?_
  refine WP.usreg rfl ?_
  refine U.p rfl rfl (.inl rfl) (S.move rfl (L 6 rfl rfl)) ?_
  obtain ⟨x35, hx36, h37⟩ := bindS h34
  obtain ⟨b38, o39, n40, c41, hv42⟩ := ow27.ospt (k := 0) rfl hx36
  obtain ⟨_, hv43, _⟩ := ow27.osel (k := 0) rfl hv42 hx36
  refine U.p rfl rfl (.inl rfl) (S.index rfl ((L 5 rfl rfl).trans hv43) (L 7 rfl rfl) Try.underlying38 ti45 (ix_ge hx36) (ix_lt hx36)) ?_
  obtain ⟨cs44, hv45, hlt46, hr47, hc48⟩ := ow27.osel (k := 0) rfl hv42 hx36
  obtain rfl : cs44 = [.int .i64 x35.e.t, .int .i64 x35.e.act.kind, .int .i64 x35.e.act.at_, .int .i64 x35.e.act.val, .int .i64 x35.e.act.what, .bool x35.e.act.volatile, .bool x35.e.act.final, .int .i64 x35.e.rf, .int .i64 x35.e.id, .int .i64 x35.at_] := hr47
  refine U.k rfl rfl (.inl rfl) (S.loadN (cs := [.int .i64 x35.e.t, .int .i64 x35.e.act.kind, .int .i64 x35.e.act.at_, .int .i64 x35.e.act.val, .int .i64 x35.e.act.what, .bool x35.e.act.volatile, .bool x35.e.act.final, .int .i64 x35.e.rf, .int .i64 x35.e.id, .int .i64 x35.at_]) rfl (L 0 rfl rfl) Try.underlying45 rfl ti45 rfl hc48) nd ?_
  refine O.alloc ow27 rfl rfl (.inl rfl) rfl ti45 rfl rfl nd (fun b49 V50 le51 ow52 => ?_)
  refine U.p rfl rfl (.inl rfl) (S.assign rfl (L 3 rfl rfl)) ?_
  refine O.store (k := 0) (cs := [.int .i64 x35.e.t, .int .i64 x35.e.act.kind, .int .i64 x35.e.act.at_, .int .i64 x35.e.act.val, .int .i64 x35.e.act.what, .bool x35.e.act.volatile, .bool x35.e.act.final, .int .i64 x35.e.rf, .int .i64 x35.e.id, .int .i64 x35.at_]) (c' := [.int .i64 x35.e.t, .int .i64 x35.e.act.kind, .int .i64 x35.e.act.at_, .int .i64 x35.e.act.val, .int .i64 x35.e.act.what, .bool x35.e.act.volatile, .bool x35.e.act.final, .int .i64 x35.e.rf, .int .i64 x35.e.id, .int .i64 x35.at_]) ow52 rfl rfl rfl (.inl rfl) rfl (L 1 rfl rfl) (L 2 rfl rfl) ti45 (by simp [topV]) rfl rfl (nr rfl) rfl rfl nd (fun V54 le55 ow56 => ?_)
  refine U.done (nr rfl) ?_
  refine WP.usreg rfl ?_
  refine U.p rfl rfl (.inl rfl) (S.move rfl (L 8 rfl rfl)) ?_
  refine U.p rfl rfl (.inl rfl) (S.move rfl (L 1 rfl rfl)) ?_
  refine U.p rfl rfl (.inl rfl) (S.move rfl (L 8 rfl rfl)) ?_
  refine U.p rfl rfl (.inl rfl) (ow56.oslen (k := 1) rfl rfl (L 0 rfl rfl) Try.underlying38) ?_
  obtain ⟨xs57, hx58, h59⟩ := bindS h37
  refine O.make (R := RT.bool) ow56 rfl rfl (.inl rfl) rfl (L 0 rfl rfl) (L 0 rfl rfl) Try.underlying53 ti4 rfl rfl rfl (nr rfl) rfl hx58 (fun _ => nd) (fun v60 V61 le62 ow63 => ?_)
  obtain ⟨x65, hx66, h67⟩ := bindS h59
  obtain ⟨b68, o69, n70, c71, hv72⟩ := ow63.sspt (k := 4) rfl hx66
  refine U.p rfl rfl (.inl rfl) (S.index rfl ((L 4 rfl rfl).trans (ow63.sslen' (k := 4) rfl hv72)) (L 3 rfl rfl) Try.underlying42 ti53 (ix_ge hx66) (ix_lt hx66)) ?_
  obtain ⟨h73, hh74, ow75⟩ := ow63.ssopen (k := 4) rfl hx66
  have ow77 := ow75.drop 0 rfl
  refine O.storeH (k := 4) ow77 rfl hv72 rfl rfl (.inl rfl) rfl (L 0 rfl rfl) (L 1 rfl rfl) ti53 (ow77.osne (k := 0) rfl) (by rw [ow77.oscells (k := 0) rfl]) (ow77.osone (k := 0) rfl) (fun _ _ => nd) (fun V78 le79 ow80 => ?_)
  have hh81 := ow80.shset (k := 4) rfl
  refine U.done (nr rfl) ?_
  refine WP.usreg rfl ?_
  refine U.p rfl rfl (.inl rfl) (S.move rfl (L 12 rfl rfl)) ?_
  refine U.p rfl rfl (.inl rfl) (ow80.oslen (k := 2) rfl rfl (L 0 rfl rfl) Try.underlying38) ?_
  refine U.p rfl rfl (.inl rfl) (S.move rfl K) ?_
  refine U.done (nr rfl) ?_
  refine WP.blk ?_
  have ow82 := ow80.ssclose (k := 4) (j := 0) rfl rfl (by decide) hh81
  have ow85 := ow82.pick 0 rfl
  have ow86 := ow85.pick 3 rfl
  have ow87 := ow86.pick 3 rfl
  have ow88 := ow87.pick 3 rfl
  unfold order_join_l2 at h67
  obtain ⟨n90, hn89⟩ := loopO_some.1 h67
  refine WP.loopI2 (fun n l V' => ∃ (xs83 : List (List Bool)) (x84 : Int), l = [(0, v1), (1, v3), (5, v11), (6, .int .i64 x19), (7, .pointer (some ⟨b49, 0, none⟩)), (13, v1), (14, .int .i64 (p0.length : Int)), (15, .int .i64 x19), (26, v1), (27, .int .i64 (p0.length : Int)), (28, .int .i64 x84)] ∧ V78.le V' ∧ Ow V' (.os RT_Tnd v1 p0 :: .os (RT.fn fnt46) v3 p1 :: .oss (RO.os RT.bool) v11 (hs17.set (Int.toNat x19) v60) xs83 :: .pt b49 (.cells 10 [.int .i64 x35.e.t, .int .i64 x35.e.act.kind, .int .i64 x35.e.act.at_, .int .i64 x35.e.act.val, .int .i64 x35.e.act.what, .bool x35.e.act.volatile, .bool x35.e.act.final, .int .i64 x35.e.rf, .int .i64 x35.e.id, .int .i64 x35.at_]) :: Rs) ∧ itO (fun s => order_join_l2b p0 p1 x19 x35 s.1 s.2) n (xs83, x84) = some q29) n90 _ ⟨xs18.set (Int.toNat x19) xs57, 0, rfl, .refl _, ow88, hn89⟩ (allCons (L 15 rfl rfl) (allCons (L 16 rfl rfl) (allCons (L 17 rfl rfl) (allCons (L 9 rfl rfl) (allCons (L 10 rfl rfl) (allCons (L 18 rfl rfl) (allCons (L 19 rfl rfl) (allCons (L 20 rfl rfl) (allCons (L 2 rfl rfl) (allCons (L 1 rfl rfl) (allCons (L 0 rfl rfl) allNil))))))))))) ?_
  rintro _ _ V91 ⟨xs83, x84, rfl, le92, ow93, h97⟩
  obtain ⟨m94, q95, rfl, h98, e96⟩ := itS h97
  replace h98 : order_join_l2b p0 p1 x19 x35 xs83 x84 = some q95 := h98
  unfold order_join_l2b at h98
  refine WP.usreg rfl ?_
  refine U.p rfl rfl (.inl rfl) (S.lss rfl (L 10 rfl rfl) (L 9 rfl rfl)) ?_
  refine U.done (nr rfl) ?_
  refine WP.seq ?_
  refine WP.cond _ (L 0 rfl rfl) rfl (fun c99 => ?_) (fun c99 => ?_)
  ·have h100 := ifT c99 h98
   refine WP.skip ?_
   refine sqN ?_
   refine WP.seqI (fun l V' => ∃ (xs101 : List (List Bool)), l = [(0, v1), (1, v3), (5, v11), (6, .int .i64 x19), (7, .pointer (some ⟨b49, 0, none⟩)), (13, v1), (14, .int .i64 (p0.length : Int)), (15, .int .i64 x19), (26, v1), (27, .int .i64 (p0.length : Int)), (28, .int .i64 x84)] ∧ V91.le V' ∧ Ow V' (.os RT_Tnd v1 p0 :: .os (RT.fn fnt46) v3 p1 :: .oss (RO.os RT.bool) v11 (hs17.set (Int.toNat x19) v60) xs101 :: .pt b49 (.cells 10 [.int .i64 x35.e.t, .int .i64 x35.e.act.kind, .int .i64 x35.e.act.at_, .int .i64 x35.e.act.val, .int .i64 x35.e.act.what, .bool x35.e.act.volatile, .bool x35.e.act.final, .int .i64 x35.e.rf, .int .i64 x35.e.id, .int .i64 x35.at_]) :: Rs) ∧ order_join_k1 x84 xs101 = some q95) ?_ ?_
   ·rintro _ V102 ⟨xs101, rfl, le103, ow104, h105⟩
    unfold order_join_k1 at h105
    refine WP.ureg rfl ?_
    refine U.p rfl rfl (.inl rfl) (S.add rfl (L 10 rfl rfl) K) ?_
    refine U.p rfl rfl (.inl rfl) (S.move rfl (L 0 rfl rfl)) ?_
    refine U.done (nr rfl) ?_
    refine sqN ?_
    exact ⟨_, V102, rfl, ⟨m94, Nat.lt_succ_self _, xs101, w64 (x84 + 1), rfl, (le92.trans le103), ow104, backS h105 e96⟩, (allCons (L 2 rfl rfl) (allCons (L 3 rfl rfl) (allCons (L 4 rfl rfl) (allCons (L 5 rfl rfl) (allCons (L 6 rfl rfl) (allCons (L 7 rfl rfl) (allCons (L 8 rfl rfl) (allCons (L 9 rfl rfl) (allCons (L 10 rfl rfl) (allCons (L 11 rfl rfl) (allCons (L 0 rfl rfl) allNil)))))))))))⟩
   ·skip
    refine WP.blk ?_
    refine WP.usreg rfl ?_
    refine U.p rfl rfl (.inl rfl) (S.move rfl (L 11 rfl rfl)) ?_
    obtain ⟨x106, hx107, h108⟩ := bindS h100
    obtain ⟨_, hv109, _⟩ := ow93.osel (k := 0) rfl hv42 hx107
    refine U.p rfl rfl (.inl rfl) (S.index rfl ((L 10 rfl rfl).trans hv109) (L 12 rfl rfl) Try.underlying38 ti45 (ix_ge hx107) (ix_lt hx107)) ?_
    obtain ⟨cs110, hv111, hlt112, hr113, hc114⟩ := ow93.osel (k := 0) rfl hv42 hx107
    obtain rfl : cs110 = [.int .i64 x106.e.t, .int .i64 x106.e.act.kind, .int .i64 x106.e.act.at_, .int .i64 x106.e.act.val, .int .i64 x106.e.act.what, .bool x106.e.act.volatile, .bool x106.e.act.final, .int .i64 x106.e.rf, .int .i64 x106.e.id, .int .i64 x106.at_] := hr113
    refine U.k rfl rfl (.inl rfl) (S.loadN (cs := [.int .i64 x106.e.t, .int .i64 x106.e.act.kind, .int .i64 x106.e.act.at_, .int .i64 x106.e.act.val, .int .i64 x106.e.act.what, .bool x106.e.act.volatile, .bool x106.e.act.final, .int .i64 x106.e.rf, .int .i64 x106.e.id, .int .i64 x106.at_]) rfl (L 0 rfl rfl) Try.underlying45 rfl ti45 rfl hc114) nd ?_
    refine O.alloc ow93 rfl rfl (.inl rfl) rfl ti45 rfl rfl nd (fun b115 V116 le117 ow118 => ?_)
    refine U.p rfl rfl (.inl rfl) (S.assign rfl (L 3 rfl rfl)) ?_
    refine O.store (k := 0) (cs := [.int .i64 x106.e.t, .int .i64 x106.e.act.kind, .int .i64 x106.e.act.at_, .int .i64 x106.e.act.val, .int .i64 x106.e.act.what, .bool x106.e.act.volatile, .bool x106.e.act.final, .int .i64 x106.e.rf, .int .i64 x106.e.id, .int .i64 x106.at_]) (c' := [.int .i64 x106.e.t, .int .i64 x106.e.act.kind, .int .i64 x106.e.act.at_, .int .i64 x106.e.act.val, .int .i64 x106.e.act.what, .bool x106.e.act.volatile, .bool x106.e.act.final, .int .i64 x106.e.rf, .int .i64 x106.e.id, .int .i64 x106.at_]) ow118 rfl rfl rfl (.inl rfl) rfl (L 1 rfl rfl) (L 2 rfl rfl) ti45 (by simp [topV]) rfl rfl (nr rfl) rfl rfl nd (fun V120 le121 ow122 => ?_)
    refine U.done (nr rfl) ?_
    refine WP.udreg rfl rfl rfl ?_
    refine U.p rfl rfl (.inl rfl) (S.move rfl (L 8 rfl rfl)) ?_
    refine U.p rfl rfl (.inl rfl) (S.move rfl (L 10 rfl rfl)) ?_
    obtain ⟨x123, hx124, h125⟩ := bindS h108
    refine U.p rfl rfl (.inl rfl) (S.index rfl ((L 1 rfl rfl).trans (ow122.sslen' (k := 3) rfl hv72)) (L 0 rfl rfl) Try.underlying42 ti53 (ix_ge hx124) (ix_lt hx124)) ?_
    obtain ⟨h126, hh127, ow128⟩ := ow122.ssopen (k := 3) rfl hx124
    have hcl130 := ow128.shcell (k := 4) rfl hv72 hh127
    refine U.k rfl rfl (.inl rfl) (S.load rfl (L 0 rfl rfl) Try.underlying53 rfl hcl130.2) (fun _ => (okH.nil (fun r h => by cases h; exact hcl130.1))) ?_
    refine U.p rfl rfl (.inl rfl) (S.move rfl (L 4 rfl rfl)) ?_
    refine U.p rfl rfl (.inl rfl) (S.move rfl (L 14 rfl rfl)) ?_
    refine U.p rfl rfl (.inl rfl) (S.move rfl (L 6 rfl rfl)) ?_
    refine U.p rfl rfl (.inl rfl) (S.neqI rfl (L 1 rfl rfl) (L 0 rfl rfl)) ?_
    refine U.p rfl rfl (.inl rfl) (S.move rfl (L 0 rfl rfl)) ?_
    have ow131 := ow128.ssclose' (k := 4) (j := 0) rfl rfl (by decide) hh127 hx124
    refine bcase (b := decide (x19 ≠ x84)) (fun g132 => ?_) (fun g132 => ?_)
    ·have h133 := ifT g132 h125
     refine U.p rfl rfl (.inr ⟨_, _, _, rfl, rfl, ((L 0 rfl rfl).trans (congrArg Value.bool g132))⟩) (S.move rfl (L 16 rfl rfl)) ?_
     refine U.p (v := .func (.func 52) #[] #[.pointer (some ⟨b49, 0, none⟩), .pointer (some ⟨b115, 0, none⟩)]) rfl rfl (.inr ⟨_, _, _, rfl, rfl, ((L 1 rfl rfl).trans (congrArg Value.bool g132))⟩) (S.makeFunc' rfl (amN) (am2 (L 20 rfl rfl) (L 11 rfl rfl))) ?_
     have ow134 := ow131.pick 4 rfl
     have ow135 := ow134.pick 3 rfl
     obtain ⟨x136, hx137, h138⟩ := bindS h133
     obtain ⟨q144, ow145⟩ := ow135.toEx 4 rfl
     refine O.call (V := V120) rfl rfl (.inr ⟨_, _, _, rfl, rfl, ((L 2 rfl rfl).trans (congrArg Value.bool g132))⟩) rfl en51 (aC (L 1 rfl rfl) (aC (L 0 rfl rfl) aN)) (wk_slices_ContainsFunc V120 _ p1 x35 x106 v3 b49 10 b115 10 ow145 _ hx137) (fun v139 V140 le141 hp142 => by obtain ⟨rfl, ow143⟩ := hp142; exact (fun _ => (okH.cons (Or.inr (ow145.exsame (k := 4) (j := 4) rfl ow143 rfl (fun h => exb_ss hv72 h))) (okH.nil (fun r h => nomatch h))))) (fun v139 V140 le141 hp142 => ?_)
     obtain ⟨rfl, ow143⟩ := hp142
     have ow146 := ow143.unEx 4 rfl
     refine U.p rfl rfl (.inl rfl) (S.pickT rfl ((L 3 rfl rfl).trans (congrArg Value.bool g132)) (L 0 rfl rfl)) ?_
     obtain ⟨x147, hx148, h149⟩ := bindS h138
     obtain ⟨h150, hh151, ow152⟩ := ow146.ssopen (k := 4) rfl hx148
     obtain rfl : h150 = h126 := Option.some.inj (hh151.symm.trans hh127)
     obtain ⟨x154, hx155, h156⟩ := bindS h149
     obtain ⟨b157, o158, n159, c160, hv161⟩ := ow152.ospt (k := 0) rfl hx155
     obtain ⟨_, hv162, _⟩ := ow152.osel (k := 0) rfl hv161 hx155
     refine U.p rfl rfl (.inl rfl) (S.index rfl ((L 9 rfl rfl).trans hv162) (L 8 rfl rfl) Try.underlying53 ti4 (ix_ge hx155) (ix_lt hx155)) ?_
     obtain ⟨cs163, hv164, hlt165, hr166, hc167⟩ := ow152.osel (k := 0) rfl hv161 hx155
     obtain rfl : cs163 = [.bool x154] := hr166
     refine O.storeE (k := 0) (R := RT.bool) (j := 0) (y := x136) (cs := [.bool x136]) ow152 rfl hv164 rfl rfl (.inl rfl) rfl (L 0 rfl rfl) (L 1 rfl rfl) ti4 hx155 (by simp [topV]) rfl rfl rfl (full rfl) (fun H1 hs => (fun _ => (okH.cons rfl (okH.cons (Or.inl rfl) (okH.nil (fun r h => nomatch h)))))) (fun V168 le169 ow170 => ?_)
     refine U.done (nr rfl) ?_
     refine blkN (sqN ?_)
     have ow171 := ow170.ssclose (k := 5) (j := 0) rfl rfl (by decide) hh127
     have ow172 := ow171.drop 2 rfl
     have ow173 := ow172.pick 1 rfl
     have ow174 := ow173.pick 3 rfl
     have ow175 := ow174.pick 2 rfl
     have ow176 := ow175.pick 3 rfl
     exact ⟨_, V168, rfl, ⟨xs83.set (Int.toNat x19) (x147.set (Int.toNat x84) x136), rfl, (((le117.trans le121).trans le141).trans le169), ow176, h156⟩, (allCons (L 20 rfl rfl) (allCons (L 21 rfl rfl) (allCons (L 22 rfl rfl) (allCons (L 23 rfl rfl) (allCons (L 24 rfl rfl) (allCons (L 25 rfl rfl) (allCons (L 26 rfl rfl) (allCons (L 27 rfl rfl) (allCons (L 28 rfl rfl) (allCons (L 29 rfl rfl) (allCons (L 30 rfl rfl) allNil)))))))))))⟩
    ·have h177 := ifF g132 h125
     refine U.x rfl rfl rfl rfl ((L 0 rfl rfl).trans (congrArg Value.bool g132)) (by decide) ?_
     refine U.x rfl rfl rfl rfl ((L 1 rfl rfl).trans (congrArg Value.bool g132)) (by decide) ?_
     refine U.x rfl rfl rfl rfl ((L 2 rfl rfl).trans (congrArg Value.bool g132)) (by decide) ?_
     refine U.p rfl rfl (.inl rfl) (S.pickF rfl ((L 3 rfl rfl).trans (congrArg Value.bool g132)) K) ?_
     obtain ⟨x178, hx179, h180⟩ := bindS h177
     obtain ⟨h181, hh182, ow183⟩ := ow131.ssopen (k := 3) rfl hx179
     obtain rfl : h181 = h126 := Option.some.inj (hh182.symm.trans hh127)
     obtain ⟨x185, hx186, h187⟩ := bindS h180
     obtain ⟨b188, o189, n190, c191, hv192⟩ := ow183.ospt (k := 0) rfl hx186
     obtain ⟨_, hv193, _⟩ := ow183.osel (k := 0) rfl hv192 hx186
     refine U.p rfl rfl (.inl rfl) (S.index rfl ((L 9 rfl rfl).trans hv193) (L 8 rfl rfl) Try.underlying53 ti4 (ix_ge hx186) (ix_lt hx186)) ?_
     obtain ⟨cs194, hv195, hlt196, hr197, hc198⟩ := ow183.osel (k := 0) rfl hv192 hx186
     obtain rfl : cs194 = [.bool x185] := hr197
     refine O.storeE (k := 0) (R := RT.bool) (j := 0) (y := false) (cs := [.bool false]) ow183 rfl hv195 rfl rfl (.inl rfl) rfl (L 0 rfl rfl) (L 1 rfl rfl) ti4 hx186 (by simp [topV]) rfl rfl rfl (full rfl) (fun H1 hs => (fun _ => (okH.cons (Or.inl rfl) (okH.nil (fun r h => nomatch h))))) (fun V199 le200 ow201 => ?_)
     refine U.done (nr rfl) ?_
     refine blkN (sqN ?_)
     have ow202 := ow201.ssclose (k := 4) (j := 0) rfl rfl (by decide) hh127
     have ow203 := ow202.drop 0 rfl
     exact ⟨_, V199, rfl, ⟨xs83.set (Int.toNat x19) (x178.set (Int.toNat x84) false), rfl, ((le117.trans le121).trans le200), ow203, h187⟩, (allCons (L 20 rfl rfl) (allCons (L 21 rfl rfl) (allCons (L 22 rfl rfl) (allCons (L 23 rfl rfl) (allCons (L 24 rfl rfl) (allCons (L 25 rfl rfl) (allCons (L 26 rfl rfl) (allCons (L 27 rfl rfl) (allCons (L 28 rfl rfl) (allCons (L 29 rfl rfl) (allCons (L 30 rfl rfl) allNil)))))))))))⟩
  ·have h204 := ifF c99 h98
   refine WP.exit ?_
   refine sqE (sqE (blkE (blkN (sqN ?_))))
   have h205 := exitS h204 e96
   refine WP.ureg rfl ?_
   refine U.p rfl rfl (.inl rfl) (S.add rfl (L 8 rfl rfl) K) ?_
   refine U.p rfl rfl (.inl rfl) (S.move rfl (L 0 rfl rfl)) ?_
   refine U.done (nr rfl) ?_
   refine sqN ?_
   have ow206 := ow93.drop 3 rfl
   exact ⟨_, V91, rfl, ⟨m28, Nat.lt_succ_self _, hs17.set (Int.toNat x19) v60, xs83, w64 (x19 + 1), rfl, (((((le26.trans le51).trans le55).trans le62).trans le79).trans le92), ow206, backS h205 e30⟩, (allCons (L 3 rfl rfl) (allCons (L 4 rfl rfl) (allCons (L 5 rfl rfl) (allCons (L 8 rfl rfl) (allCons (L 9 rfl rfl) (allCons (L 0 rfl rfl) allNil))))))⟩
 ·have h207 := ifF c33 h32
  refine WP.exit ?_
  refine sqE (sqE (blkE (sqN ?_)))
  have h208 := exitS h207 e30
  refine WP.usreg rfl ?_
  refine U.p rfl rfl (.inl rfl) (S.move rfl (L 3 rfl rfl)) ?_
  refine U.p rfl rfl (.inl rfl) (S.assign rfl (L 0 rfl rfl)) ?_
  refine U.done (nr rfl) ?_
  refine WP.ret ?_
  refine fin.slot (.inr rfl) rfl (L 0 rfl rfl) ⟨V25, rfl, (le14.trans le26), ?_⟩
  have ow209 := ow27.pick 1 rfl
  have ow210 := ow209.pick 1 rfl
  have ow211 := ow210.pick 2 rfl
  have e212 := Option.some.inj h208
  subst e212
  exact ⟨v11, hs17, rfl, ow211⟩
set_option maxHeartbeats 4000000 in
set_option maxRecDepth 10000 in
theorem wks_order_graph_visit (rec_ : (List (List Bool)) → Int → (List Int) → Option (Bool × (List Int))) (IH : ∀ (V : Vw) (Rs : List At) (p0 : List (List Bool)) (p1 : Int) (p2 : List Int) (v1 : Value) (hs2 : List Value) (v4 : Value) (ow : Ow V (.oss (RO.os RT.bool) v1 hs2 p0 :: .os (RT.int .i64) v4 p2 :: Rs)) (r : Bool × (List Int)) (h : rec_ p0 p1 p2 = some r), ∃ v V', Cl Try.prog 0 53 #[v1, .int .i64 p1, v4] V.H v V'.H ∧ V.le V' ∧ (v = .bool r.1 ∧ Ow V' (.oss (RO.os RT.bool) v1 hs2 p0 :: .os (RT.int .i64) v4 r.2 :: Rs))) (V : Vw) (Rs : List At) (p0 : List (List Bool)) (p1 : Int) (p2 : List Int) (v1 : Value) (hs2 : List Value) (v4 : Value) (ow : Ow V (.oss (RO.os RT.bool) v1 hs2 p0 :: .os (RT.int .i64) v4 p2 :: Rs)) (r : Bool × (List Int)) (h : order_graph_visit_F rec_ p0 p1 p2 = some r) : ∃ v V', Cl Try.prog 0 53 #[v1, .int .i64 p1, v4] V.H v V'.H ∧ V.le V' ∧ (v = .bool r.1 ∧ Ow V' (.oss (RO.os RT.bool) v1 hs2 p0 :: .os (RT.int .i64) v4 r.2 :: Rs)) := by
 refine Ct.of (Nat.zero_le _) Try.func53 rfl (nr rfl) ?_
 unfold order_graph_visit_F at h
 refine WP.usreg rfl ?_
 refine U.p rfl rfl (.inl rfl) (S.assign rfl K) ?_
 refine U.done (nr rfl) ?_
 refine WP.usreg rfl ?_
 refine U.p rfl rfl (.inl rfl) (S.move rfl (L 3 rfl rfl)) ?_
 refine U.p rfl rfl (.inl rfl) (S.move rfl (L 3 rfl rfl)) ?_
 obtain ⟨x6, hx7, h8⟩ := bindS h
 obtain ⟨b9, o10, n11, c12, hv13⟩ := ow.ospt (k := 1) rfl hx7
 obtain ⟨_, hv14, _⟩ := ow.osel (k := 1) rfl hv13 hx7
 refine U.p rfl rfl (.inl rfl) (S.index rfl ((L 1 rfl rfl).trans hv14) (L 0 rfl rfl) Try.underlying32 ti3 (ix_ge hx7) (ix_lt hx7)) ?_
 obtain ⟨cs15, hv16, hlt17, hr18, hc19⟩ := ow.osel (k := 1) rfl hv13 hx7
 obtain rfl : cs15 = [.int .i64 x6] := hr18
 refine O.storeE (k := 1) (R := (RT.int .i64)) (j := 0) (y := 1) (cs := [.int .i64 1]) ow rfl hv16 rfl rfl (.inl rfl) rfl (L 0 rfl rfl) K ti3 hx7 (by simp [topV]) rfl rfl rfl (full rfl) (fun _ _ => nd) (fun V20 le21 ow22 => ?_)
 refine U.done (nr rfl) ?_
 refine WP.seq ?_
 refine WP.usreg rfl ?_
 refine U.p rfl rfl (.inl rfl) (S.move rfl (L 4 rfl rfl)) ?_
 refine U.p rfl rfl (.inl rfl) (S.move rfl (L 6 rfl rfl)) ?_
 obtain ⟨x23, hx24, h25⟩ := bindS h8
 obtain ⟨b26, o27, n28, c29, hv30⟩ := ow22.sspt (k := 0) rfl hx24
 refine U.p rfl rfl (.inl rfl) (S.index rfl ((L 1 rfl rfl).trans (ow22.sslen' (k := 0) rfl hv30)) (L 0 rfl rfl) Try.underlying42 ti53 (ix_ge hx24) (ix_lt hx24)) ?_
 obtain ⟨h31, hh32, ow33⟩ := ow22.ssopen (k := 0) rfl hx24
 have hcl35 := ow33.shcell (k := 1) rfl hv30 hh32
 refine U.k rfl rfl (.inl rfl) (S.load rfl (L 0 rfl rfl) Try.underlying53 rfl hcl35.2) nd ?_
 refine U.p rfl rfl (.inl rfl) (ow33.oslen (k := 0) rfl rfl (L 0 rfl rfl) Try.underlying53) ?_
 refine U.p rfl rfl (.inl rfl) (S.move rfl K) ?_
 refine U.done (nr rfl) ?_
 refine WP.blk ?_
 have ow36 := ow33.ssclose' (k := 1) (j := 0) rfl rfl (by decide) hh32 hx24
 unfold order_graph_visit_l1 at h25
 obtain ⟨n40, hn39⟩ := loopO_some.1 h25
 refine WP.loopI2 (fun n l V' => ∃ (xs37 : List Int) (x38 : Int), l = [(0, v1), (1, .int .i64 p1), (2, v4), (15, h31), (16, .int .i64 (x23.length : Int)), (17, .int .i64 x38)] ∧ V20.le V' ∧ Ow V' (.oss (RO.os RT.bool) v1 hs2 p0 :: .os (RT.int .i64) v4 xs37 :: Rs) ∧ itO (fun s => order_graph_visit_l1b rec_ p0 p1 x23 s.1 s.2) n (xs37, x38) = some r) n40 _ ⟨p2.set (Int.toNat p1) 1, 0, rfl, .refl _, ow36, hn39⟩ (allCons (L 10 rfl rfl) (allCons (L 11 rfl rfl) (allCons (L 12 rfl rfl) (allCons (L 2 rfl rfl) (allCons (L 1 rfl rfl) (allCons (L 0 rfl rfl) allNil)))))) ?_
 rintro _ _ V41 ⟨xs37, x38, rfl, le42, ow43, h47⟩
 obtain ⟨m44, q45, rfl, h48, e46⟩ := itS h47
 replace h48 : order_graph_visit_l1b rec_ p0 p1 x23 xs37 x38 = some q45 := h48
 unfold order_graph_visit_l1b at h48
 refine WP.usreg rfl ?_
 refine U.p rfl rfl (.inl rfl) (S.lss rfl (L 5 rfl rfl) (L 4 rfl rfl)) ?_
 refine U.done (nr rfl) ?_
 refine WP.seq ?_
 refine WP.cond _ (L 0 rfl rfl) rfl (fun c49 => ?_) (fun c49 => ?_)
 ·have h50 := ifT c49 h48
  refine WP.skip ?_
  refine sqN ?_
  refine WP.seq ?_
  refine WP.blk ?_
  refine WP.usreg rfl ?_
  refine U.p rfl rfl (.inl rfl) (S.move rfl (L 6 rfl rfl)) ?_
  obtain ⟨x51, hx52, h53⟩ := bindS h50
  obtain ⟨h54, hh55, ow56⟩ := ow43.ssopen (k := 0) rfl hx52
  obtain rfl : h54 = h31 := Option.some.inj (hh55.symm.trans hh32)
  obtain ⟨x58, hx59, h60⟩ := bindS h53
  obtain ⟨b61, o62, n63, c64, hv65⟩ := ow56.ospt (k := 0) rfl hx59
  obtain ⟨_, hv66, _⟩ := ow56.osel (k := 0) rfl hv65 hx59
  refine U.p rfl rfl (.inl rfl) (S.index rfl ((L 5 rfl rfl).trans hv66) (L 7 rfl rfl) Try.underlying53 ti4 (ix_ge hx59) (ix_lt hx59)) ?_
  obtain ⟨cs67, hv68, hlt69, hr70, hc71⟩ := ow56.osel (k := 0) rfl hv65 hx59
  obtain rfl : cs67 = [.bool x58] := hr70
  refine U.k rfl rfl (.inl rfl) (S.load rfl (L 0 rfl rfl) Try.underlying4 rfl (hc71 0 _ rfl)) nd ?_
  refine U.p rfl rfl (.inl rfl) (S.assign rfl (L 2 rfl rfl)) ?_
  refine U.p rfl rfl (.inl rfl) (S.assign rfl (L 1 rfl rfl)) ?_
  refine U.done (nr rfl) ?_
  refine WP.usreg rfl ?_
  refine U.p rfl rfl (.inl rfl) (S.move rfl (L 0 rfl rfl)) ?_
  refine U.p rfl rfl (.inl rfl) (S.move rfl (L 0 rfl rfl)) ?_
  have ow72 := ow56.ssclose' (k := 1) (j := 0) rfl rfl (by decide) hh32 hx52
  obtain ⟨y73, hy74, h75⟩ := bindS h60
  refine U.joinX 21 (fun e H => ∃ (u76 u77 u78 u79 u80 u81 u82 u83 u84 u85 u86 u87 u88 u89 u90 u91 u92 u93 : Value), ∃ V' : Vw, H = V'.H ∧ V41.le V' ∧ e = [(42, .bool y73.1), (41, u76), (40, u77), (39, u78), (38, u79), (37, u80), (36, u81), (35, u82), (34, u83), (33, u84), (32, u85), (31, u86), (30, u87), (29, u88), (28, u89), (27, u90), (26, u91), (25, u92), (24, u93)] ∧ Ow V' (.oss (RO.os RT.bool) v1 hs2 p0 :: .os (RT.int .i64) v4 y73.2 :: Rs)) ?_ ?_
  ·rintro _ _ ⟨u76, u77, u78, u79, u80, u81, u82, u83, u84, u85, u86, u87, u88, u89, u90, u91, u92, u93, V94, rfl, le95, rfl, ow96⟩
   refine U.done (nr rfl) ?_
   refine WP.cond _ (L 0 rfl rfl) rfl (fun c97 => ?_) (fun c97 => ?_)
   ·have h98 := ifT c97 h75
    refine WP.usreg rfl ?_
    refine U.p rfl rfl (.inl rfl) (S.assign rfl K) ?_
    refine U.done (nr rfl) ?_
    refine WP.ret ?_
    refine blkR (sqR (sqR (blkR (sqR ?_))))
    have h99 := exitS h98 e46
    refine fin.slot (.inr rfl) rfl (L 0 rfl rfl) ⟨V94, rfl, ((le21.trans le42).trans le95), ?_⟩
    have e100 := Option.some.inj h99
    subst e100
    exact ⟨rfl, ow96⟩
   ·have h101 := ifF c97 h75
    refine WP.skip ?_
    refine blkN (sqN ?_)
    refine WP.ureg rfl ?_
    refine U.p rfl rfl (.inl rfl) (S.add rfl (L 32 rfl rfl) K) ?_
    refine U.p rfl rfl (.inl rfl) (S.move rfl (L 0 rfl rfl)) ?_
    refine U.done (nr rfl) ?_
    refine sqN ?_
    exact ⟨_, V94, rfl, ⟨m44, Nat.lt_succ_self _, y73.2, w64 (x38 + 1), rfl, (le42.trans le95), ow96, backS h101 e46⟩, (allCons (L 29 rfl rfl) (allCons (L 30 rfl rfl) (allCons (L 31 rfl rfl) (allCons (L 32 rfl rfl) (allCons (L 33 rfl rfl) (allCons (L 0 rfl rfl) allNil))))))⟩
  ·intro kk
   refine bcase (b := x58) (fun g102 => ?_) (fun g102 => ?_)
   ·have h103 := ifT g102 hy74
    refine U.p rfl rfl (.inr ⟨_, _, _, rfl, rfl, ((L 0 rfl rfl).trans (congrArg Value.bool g102))⟩) (S.move rfl (L 10 rfl rfl)) ?_
    refine U.p rfl rfl (.inr ⟨_, _, _, rfl, rfl, ((L 1 rfl rfl).trans (congrArg Value.bool g102))⟩) (S.move rfl (L 4 rfl rfl)) ?_
    obtain ⟨x104, hx105, h106⟩ := bindS h103
    obtain ⟨_, hv107, _⟩ := ow72.osel (k := 1) rfl hv13 hx105
    refine U.p rfl rfl (.inr ⟨_, _, _, rfl, rfl, ((L 2 rfl rfl).trans (congrArg Value.bool g102))⟩) (S.index rfl ((L 1 rfl rfl).trans hv107) (L 0 rfl rfl) Try.underlying32 ti3 (ix_ge hx105) (ix_lt hx105)) ?_
    obtain ⟨cs108, hv109, hlt110, hr111, hc112⟩ := ow72.osel (k := 1) rfl hv13 hx105
    obtain rfl : cs108 = [.int .i64 x104] := hr111
    refine U.k rfl rfl (.inr ⟨_, _, _, rfl, rfl, ((L 3 rfl rfl).trans (congrArg Value.bool g102))⟩) (S.load rfl (L 0 rfl rfl) Try.underlying3 rfl (hc112 0 _ rfl)) nd ?_
    refine U.p rfl rfl (.inr ⟨_, _, _, rfl, rfl, ((L 4 rfl rfl).trans (congrArg Value.bool g102))⟩) (S.eqlI rfl (L 0 rfl rfl) K) ?_
    refine U.p rfl rfl (.inr ⟨_, _, _, rfl, rfl, ((L 5 rfl rfl).trans (congrArg Value.bool g102))⟩) (S.move rfl (L 0 rfl rfl)) ?_
    obtain ⟨y113, hy114, h115⟩ := bindS h106
    refine U.joinX 20 (fun e H => ∃ (u116 u117 u118 u119 u120 u121 u122 u123 u124 u125 u126 : Value), ∃ V' : Vw, H = V'.H ∧ V41.le V' ∧ e = [(41, .bool y113.1), (40, u116), (39, u117), (38, u118), (37, u119), (36, u120), (35, u121), (34, u122), (33, u123), (32, u124), (31, u125), (30, u126)] ∧ Ow V' (.oss (RO.os RT.bool) v1 hs2 p0 :: .os (RT.int .i64) v4 y113.2 :: Rs)) ?_ ?_
    ·rintro _ _ ⟨u116, u117, u118, u119, u120, u121, u122, u123, u124, u125, u126, V127, rfl, le128, rfl, ow129⟩
     refine U.p rfl rfl (.inl rfl) (S.pickT rfl ((L 18 rfl rfl).trans (congrArg Value.bool g102)) (L 0 rfl rfl)) ?_
     have e130 := Option.some.inj h115
     subst e130
     exact kk [(42, .bool y113.1), (41, .bool y113.1), (40, u116), (39, u117), (38, u118), (37, u119), (36, u120), (35, u121), (34, u122), (33, u123), (32, u124), (31, u125), (30, u126), (29, .bool (decide (x104 = 1))), (28, .bool (decide (x104 = 1))), (27, .int .i64 x104), (26, .pointer (some ⟨b9, o10 + Int.toNat x38 * 1, none⟩)), (25, .int .i64 x38), (24, v4)] _ ⟨.bool y113.1, u116, u117, u118, u119, u120, u121, u122, u123, u124, u125, u126, .bool (decide (x104 = 1)), .bool (decide (x104 = 1)), .int .i64 x104, .pointer (some ⟨b9, o10 + Int.toNat x38 * 1, none⟩), .int .i64 x38, v4, V127, rfl, le128, rfl, ow129⟩
    ·intro kk
     refine bcase (b := decide (x104 = 1)) (fun g131 => ?_) (fun g131 => ?_)
     ·have h132 := ifT g131 hy114
      refine U.x rfl rfl rfl rfl ((L 0 rfl rfl).trans (congrArg Value.bool g131)) (by decide) ?_
      refine U.x rfl rfl rfl rfl ((L 1 rfl rfl).trans (congrArg Value.bool g131)) (by decide) ?_
      refine U.x rfl rfl rfl rfl ((L 2 rfl rfl).trans (congrArg Value.bool g131)) (by decide) ?_
      refine U.x rfl rfl rfl rfl ((L 3 rfl rfl).trans (congrArg Value.bool g131)) (by decide) ?_
      refine U.x rfl rfl rfl rfl ((L 4 rfl rfl).trans (congrArg Value.bool g131)) (by decide) ?_
      refine U.x rfl rfl rfl rfl ((L 5 rfl rfl).trans (congrArg Value.bool g131)) (by decide) ?_
      refine U.z rfl rfl rfl rfl (L 0 rfl rfl) ?_
      refine U.z rfl rfl rfl rfl (L 1 rfl rfl) ?_
      refine U.z rfl rfl rfl rfl (L 2 rfl rfl) ?_
      refine U.z rfl rfl rfl rfl (L 3 rfl rfl) ?_
      refine U.x rfl rfl rfl rfl ((L 10 rfl rfl).trans (congrArg Value.bool g131)) (by decide) ?_
      refine U.p rfl rfl (.inr ⟨_, _, _, rfl, rfl, ((L 17 rfl rfl).trans (congrArg Value.bool g102))⟩) (S.pickT rfl ((L 11 rfl rfl).trans (congrArg Value.bool g131)) K) ?_
      have e133 := Option.some.inj h132
      subst e133
      exact kk [(41, .bool true), (40, .tuple #[]), (39, .tuple #[]), (38, .tuple #[]), (37, .tuple #[]), (36, .tuple #[]), (35, .tuple #[]), (34, .tuple #[]), (33, .tuple #[]), (32, .tuple #[]), (31, .tuple #[]), (30, .tuple #[])] _ ⟨.tuple #[], .tuple #[], .tuple #[], .tuple #[], .tuple #[], .tuple #[], .tuple #[], .tuple #[], .tuple #[], .tuple #[], .tuple #[], V41, rfl, (.refl _), rfl, ow72⟩
     ·have h134 := ifF g131 hy114
      refine U.p rfl rfl (.inr ⟨_, _, _, rfl, rfl, ((L 0 rfl rfl).trans (congrArg Value.bool g131))⟩) (S.move rfl (L 16 rfl rfl)) ?_
      refine U.p rfl rfl (.inr ⟨_, _, _, rfl, rfl, ((L 1 rfl rfl).trans (congrArg Value.bool g131))⟩) (S.move rfl (L 10 rfl rfl)) ?_
      obtain ⟨x135, hx136, h137⟩ := bindS h134
      obtain ⟨_, hv138, _⟩ := ow72.osel (k := 1) rfl hv13 hx136
      refine U.p rfl rfl (.inr ⟨_, _, _, rfl, rfl, ((L 2 rfl rfl).trans (congrArg Value.bool g131))⟩) (S.index rfl ((L 1 rfl rfl).trans hv138) (L 0 rfl rfl) Try.underlying32 ti3 (ix_ge hx136) (ix_lt hx136)) ?_
      obtain ⟨cs139, hv140, hlt141, hr142, hc143⟩ := ow72.osel (k := 1) rfl hv13 hx136
      obtain rfl : cs139 = [.int .i64 x135] := hr142
      refine U.k rfl rfl (.inr ⟨_, _, _, rfl, rfl, ((L 3 rfl rfl).trans (congrArg Value.bool g131))⟩) (S.load rfl (L 0 rfl rfl) Try.underlying3 rfl (hc143 0 _ rfl)) nd ?_
      refine U.p rfl rfl (.inr ⟨_, _, _, rfl, rfl, ((L 4 rfl rfl).trans (congrArg Value.bool g131))⟩) (S.eqlI rfl (L 0 rfl rfl) K) ?_
      refine U.p rfl rfl (.inr ⟨_, _, _, rfl, rfl, ((L 5 rfl rfl).trans (congrArg Value.bool g131))⟩) (S.move rfl (L 0 rfl rfl)) ?_
      obtain ⟨y144, hy145, h146⟩ := bindS h137
      refine U.joinX 19 (fun e H => ∃ (u147 u148 u149 u150 : Value), ∃ V' : Vw, H = V'.H ∧ V41.le V' ∧ e = [(40, .bool y144.1), (39, u147), (38, u148), (37, u149), (36, u150)] ∧ Ow V' (.oss (RO.os RT.bool) v1 hs2 p0 :: .os (RT.int .i64) v4 y144.2 :: Rs)) ?_ ?_
      ·rintro _ _ ⟨u147, u148, u149, u150, V151, rfl, le152, rfl, ow153⟩
       refine U.p rfl rfl (.inr ⟨_, _, _, rfl, rfl, ((L 17 rfl rfl).trans (congrArg Value.bool g102))⟩) (S.pickF rfl ((L 11 rfl rfl).trans (congrArg Value.bool g131)) (L 0 rfl rfl)) ?_
       have e154 := Option.some.inj h146
       subst e154
       exact kk [(41, .bool y144.1), (40, .bool y144.1), (39, u147), (38, u148), (37, u149), (36, u150), (35, .bool (decide (x135 = 0))), (34, .bool (decide (x135 = 0))), (33, .int .i64 x135), (32, .pointer (some ⟨b9, o10 + Int.toNat x38 * 1, none⟩)), (31, .int .i64 x38), (30, v4)] _ ⟨.bool y144.1, u147, u148, u149, u150, .bool (decide (x135 = 0)), .bool (decide (x135 = 0)), .int .i64 x135, .pointer (some ⟨b9, o10 + Int.toNat x38 * 1, none⟩), .int .i64 x38, v4, V151, rfl, le152, rfl, ow153⟩
      ·intro kk
       refine bcase (b := decide (x135 = 0)) (fun g155 => ?_) (fun g155 => ?_)
       ·have h156 := ifT g155 hy145
        refine U.p rfl rfl (.inr ⟨_, _, _, rfl, rfl, ((L 0 rfl rfl).trans (congrArg Value.bool g155))⟩) (S.move rfl (L 20 rfl rfl)) ?_
        refine U.p rfl rfl (.inr ⟨_, _, _, rfl, rfl, ((L 1 rfl rfl).trans (congrArg Value.bool g155))⟩) (S.move rfl (L 16 rfl rfl)) ?_
        refine U.p rfl rfl (.inr ⟨_, _, _, rfl, rfl, ((L 2 rfl rfl).trans (congrArg Value.bool g155))⟩) (S.move rfl (L 24 rfl rfl)) ?_
        have ow157 := ow72.pick 1 rfl
        have ow158 := ow157.pick 1 rfl
        obtain ⟨x159, hx160, h161⟩ := bindS h156
        refine O.call (V := V41) rfl rfl (.inr ⟨_, _, _, rfl, rfl, ((L 3 rfl rfl).trans (congrArg Value.bool g155))⟩) rfl en53 (aC (L 2 rfl rfl) (aC (L 1 rfl rfl) (aC (L 0 rfl rfl) aN))) (IH V41 _ p0 x38 xs37 v1 hs2 v4 ow158 _ hx160) (fun _ _ _ _ => nd) (fun v162 V163 le164 hp165 => ?_)
        obtain ⟨rfl, ow166⟩ := hp165
        refine U.p rfl rfl (.inr ⟨_, _, _, rfl, rfl, ((L 10 rfl rfl).trans (congrArg Value.bool g131))⟩) (S.pickT rfl ((L 4 rfl rfl).trans (congrArg Value.bool g155)) (L 0 rfl rfl)) ?_
        have e167 := Option.some.inj h161
        subst e167
        exact kk [(40, .bool x159.1), (39, .bool x159.1), (38, v4), (37, .int .i64 x38), (36, v1)] _ ⟨.bool x159.1, v4, .int .i64 x38, v1, V163, rfl, le164, rfl, ow166⟩
       ·have h168 := ifF g155 hy145
        refine U.x rfl rfl rfl rfl ((L 0 rfl rfl).trans (congrArg Value.bool g155)) (by decide) ?_
        refine U.x rfl rfl rfl rfl ((L 1 rfl rfl).trans (congrArg Value.bool g155)) (by decide) ?_
        refine U.x rfl rfl rfl rfl ((L 2 rfl rfl).trans (congrArg Value.bool g155)) (by decide) ?_
        refine U.x rfl rfl rfl rfl ((L 3 rfl rfl).trans (congrArg Value.bool g155)) (by decide) ?_
        refine U.p rfl rfl (.inr ⟨_, _, _, rfl, rfl, ((L 10 rfl rfl).trans (congrArg Value.bool g131))⟩) (S.pickF rfl ((L 4 rfl rfl).trans (congrArg Value.bool g155)) K) ?_
        have e169 := Option.some.inj h168
        subst e169
        exact kk [(40, .bool false), (39, .tuple #[]), (38, .tuple #[]), (37, .tuple #[]), (36, .tuple #[])] _ ⟨.tuple #[], .tuple #[], .tuple #[], .tuple #[], V41, rfl, (.refl _), rfl, ow72⟩
   ·have h170 := ifF g102 hy74
    refine U.x rfl rfl rfl rfl ((L 0 rfl rfl).trans (congrArg Value.bool g102)) (by decide) ?_
    refine U.x rfl rfl rfl rfl ((L 1 rfl rfl).trans (congrArg Value.bool g102)) (by decide) ?_
    refine U.x rfl rfl rfl rfl ((L 2 rfl rfl).trans (congrArg Value.bool g102)) (by decide) ?_
    refine U.x rfl rfl rfl rfl ((L 3 rfl rfl).trans (congrArg Value.bool g102)) (by decide) ?_
    refine U.x rfl rfl rfl rfl ((L 4 rfl rfl).trans (congrArg Value.bool g102)) (by decide) ?_
    refine U.x rfl rfl rfl rfl ((L 5 rfl rfl).trans (congrArg Value.bool g102)) (by decide) ?_
    refine U.z rfl rfl rfl rfl (L 0 rfl rfl) ?_
    refine U.z rfl rfl rfl rfl (L 1 rfl rfl) ?_
    refine U.z rfl rfl rfl rfl (L 2 rfl rfl) ?_
    refine U.z rfl rfl rfl rfl (L 3 rfl rfl) ?_
    refine U.z rfl rfl rfl rfl (L 4 rfl rfl) ?_
    refine U.z rfl rfl rfl rfl (L 5 rfl rfl) ?_
    refine U.z rfl rfl rfl rfl (L 0 rfl rfl) ?_
    refine U.z rfl rfl rfl rfl (L 1 rfl rfl) ?_
    refine U.z rfl rfl rfl rfl (L 2 rfl rfl) ?_
    refine U.z rfl rfl rfl rfl (L 3 rfl rfl) ?_
    refine U.z rfl rfl rfl rfl (L 10 rfl rfl) ?_
    refine U.x rfl rfl rfl rfl ((L 17 rfl rfl).trans (congrArg Value.bool g102)) (by decide) ?_
    refine U.p rfl rfl (.inl rfl) (S.pickF rfl ((L 18 rfl rfl).trans (congrArg Value.bool g102)) K) ?_
    have e171 := Option.some.inj h170
    subst e171
    exact kk [(42, .bool false), (41, .tuple #[]), (40, .tuple #[]), (39, .tuple #[]), (38, .tuple #[]), (37, .tuple #[]), (36, .tuple #[]), (35, .tuple #[]), (34, .tuple #[]), (33, .tuple #[]), (32, .tuple #[]), (31, .tuple #[]), (30, .tuple #[]), (29, .tuple #[]), (28, .tuple #[]), (27, .tuple #[]), (26, .tuple #[]), (25, .tuple #[]), (24, .tuple #[])] _ ⟨.tuple #[], .tuple #[], .tuple #[], .tuple #[], .tuple #[], .tuple #[], .tuple #[], .tuple #[], .tuple #[], .tuple #[], .tuple #[], .tuple #[], .tuple #[], .tuple #[], .tuple #[], .tuple #[], .tuple #[], .tuple #[], V41, rfl, (.refl _), rfl, ow72⟩
 ·have h172 := ifF c49 h48
  refine WP.exit ?_
  refine sqE (sqE (blkE (sqN ?_)))
  have h173 := exitS h172 e46
  refine WP.usreg rfl ?_
  refine U.p rfl rfl (.inl rfl) (S.move rfl (L 3 rfl rfl)) ?_
  refine U.p rfl rfl (.inl rfl) (S.move rfl (L 3 rfl rfl)) ?_
  obtain ⟨x174, hx175, h176⟩ := bindS h173
  obtain ⟨_, hv177, _⟩ := ow43.osel (k := 1) rfl hv13 hx175
  refine U.p rfl rfl (.inl rfl) (S.index rfl ((L 1 rfl rfl).trans hv177) (L 0 rfl rfl) Try.underlying32 ti3 (ix_ge hx175) (ix_lt hx175)) ?_
  obtain ⟨cs178, hv179, hlt180, hr181, hc182⟩ := ow43.osel (k := 1) rfl hv13 hx175
  obtain rfl : cs178 = [.int .i64 x174] := hr181
  refine O.storeE (k := 1) (R := (RT.int .i64)) (j := 0) (y := 2) (cs := [.int .i64 2]) ow43 rfl hv179 rfl rfl (.inl rfl) rfl (L 0 rfl rfl) K ti3 hx175 (by simp [topV]) rfl rfl rfl (full rfl) (fun _ _ => nd) (fun V183 le184 ow185 => ?_)
  refine U.done (nr rfl) ?_
  refine WP.usreg rfl ?_
  refine U.p rfl rfl (.inl rfl) (S.assign rfl K) ?_
  refine U.done (nr rfl) ?_
  refine WP.ret ?_
  refine fin.slot (.inr rfl) rfl (L 0 rfl rfl) ⟨V183, rfl, ((le21.trans le42).trans le184), ?_⟩
  have e186 := Option.some.inj h176
  subst e186
  exact ⟨rfl, ow185⟩
theorem wk_order_graph_visit (V : Vw) (Rs : List At) (p0 : List (List Bool)) (p1 : Int) (p2 : List Int) (v1 : Value) (hs2 : List Value) (v4 : Value) (ow : Ow V (.oss (RO.os RT.bool) v1 hs2 p0 :: .os (RT.int .i64) v4 p2 :: Rs)) (r : Bool × (List Int)) (h : order_graph_visit p0 p1 p2 = some r) : ∃ v V', Cl Try.prog 0 53 #[v1, .int .i64 p1, v4] V.H v V'.H ∧ V.le V' ∧ (v = .bool r.1 ∧ Ow V' (.oss (RO.os RT.bool) v1 hs2 p0 :: .os (RT.int .i64) v4 r.2 :: Rs)) := by
 have key : ∀ n, ∀ (V : Vw) (Rs : List At) (p0 : List (List Bool)) (p1 : Int) (p2 : List Int) (v1 : Value) (hs2 : List Value) (v4 : Value) (ow : Ow V (.oss (RO.os RT.bool) v1 hs2 p0 :: .os (RT.int .i64) v4 p2 :: Rs)) (r : Bool × (List Int)) (h : itF (fun rec_ a => order_graph_visit_F (fun p0 p1 p2 => rec_ (p0, p1, p2)) a.1 a.2.1 a.2.2) n (p0, p1, p2) = some r), ∃ v V', Cl Try.prog 0 53 #[v1, .int .i64 p1, v4] V.H v V'.H ∧ V.le V' ∧ (v = .bool r.1 ∧ Ow V' (.oss (RO.os RT.bool) v1 hs2 p0 :: .os (RT.int .i64) v4 r.2 :: Rs)) := by
  intro n
  induction n with
  | zero => intro V Rs p0 p1 p2 v1 hs2 v4 ow r h; have h0 : (none : Option (Bool × (List Int))) = some r := h; cases h0
  | succ n ih => exact fun V Rs p0 p1 p2 v1 hs2 v4 ow r h => wks_order_graph_visit (fun p0 p1 p2 => itF (fun rec_ a => order_graph_visit_F (fun p0 p1 p2 => rec_ (p0, p1, p2)) a.1 a.2.1 a.2.2) n (p0, p1, p2)) ih V Rs p0 p1 p2 v1 hs2 v4 ow r h
 obtain ⟨n, hn⟩ := recO_some h
 exact key n V Rs p0 p1 p2 v1 hs2 v4 ow r hn
set_option maxHeartbeats 4000000 in
set_option maxRecDepth 10000 in
theorem wk_order_graph_cyclic (V : Vw) (Rs : List At) (p0 : List (List Bool)) (v1 : Value) (hs2 : List Value) (ow : Ow V (.oss (RO.os RT.bool) v1 hs2 p0 :: Rs)) (r : Bool) (h : order_graph_cyclic p0 = some r) : ∃ v V', Cl Try.prog 0 31 #[v1] V.H v V'.H ∧ V.le V' ∧ (v = .bool r ∧ Ow V' (.oss (RO.os RT.bool) v1 hs2 p0 :: Rs)) := by
 refine Ct.of (Nat.zero_le _) Try.func31 rfl (nr rfl) ?_
 unfold order_graph_cyclic at h
 refine WP.usreg rfl ?_
 refine U.p rfl rfl (.inl rfl) (S.assign rfl K) ?_
 refine U.done (nr rfl) ?_
 refine WP.usreg rfl ?_
 refine U.p rfl rfl (.inl rfl) (S.move rfl (L 1 rfl rfl)) ?_
 refine U.p rfl rfl (.inl rfl) (ow.sslen (k := 0) rfl rfl (L 0 rfl rfl) Try.underlying42) ?_
 obtain ⟨xs4, hx5, h6⟩ := bindS h
 refine O.make (R := (RT.int .i64)) ow rfl rfl (.inl rfl) rfl (L 0 rfl rfl) (L 0 rfl rfl) Try.underlying32 ti3 rfl rfl rfl (nr rfl) rfl hx5 (fun _ => nd) (fun v7 V8 le9 ow10 => ?_)
 refine U.p rfl rfl (.inl rfl) (S.assign rfl (L 0 rfl rfl)) ?_
 refine U.done (nr rfl) ?_
 refine WP.seq ?_
 refine WP.usreg rfl ?_
 refine U.p rfl rfl (.inl rfl) (S.move rfl (L 5 rfl rfl)) ?_
 refine U.p rfl rfl (.inl rfl) (ow10.sslen (k := 1) rfl rfl (L 0 rfl rfl) Try.underlying42) ?_
 refine U.p rfl rfl (.inl rfl) (S.move rfl K) ?_
 refine U.done (nr rfl) ?_
 refine WP.blk ?_
 have ow14 := ow10.pick 0 rfl
 have ow15 := ow14.pick 1 rfl
 unfold order_graph_cyclic_l1 at h6
 obtain ⟨n17, hn16⟩ := loopO_some.1 h6
 refine WP.loopI2 (fun n l V' => ∃ (xs12 : List Int) (x13 : Int), l = [(0, v1), (3, v7), (9, .int .i64 (p0.length : Int)), (10, .int .i64 x13)] ∧ V8.le V' ∧ Ow V' (.oss (RO.os RT.bool) v1 hs2 p0 :: .os (RT.int .i64) v7 xs12 :: Rs) ∧ itO (fun s => order_graph_cyclic_l1b p0 s.1 s.2) n (xs12, x13) = some r) n17 _ ⟨xs4, 0, rfl, .refl _, ow15, hn16⟩ (allCons (L 8 rfl rfl) (allCons (L 3 rfl rfl) (allCons (L 1 rfl rfl) (allCons (L 0 rfl rfl) allNil)))) ?_
 rintro _ _ V18 ⟨xs12, x13, rfl, le19, ow20, h24⟩
 obtain ⟨m21, q22, rfl, h25, e23⟩ := itS h24
 replace h25 : order_graph_cyclic_l1b p0 xs12 x13 = some q22 := h25
 unfold order_graph_cyclic_l1b at h25
 refine WP.usreg rfl ?_
 refine U.p rfl rfl (.inl rfl) (S.lss rfl (L 3 rfl rfl) (L 2 rfl rfl)) ?_
 refine U.done (nr rfl) ?_
 refine WP.seq ?_
 refine WP.cond _ (L 0 rfl rfl) rfl (fun c26 => ?_) (fun c26 => ?_)
 ·have h27 := ifT c26 h25
  refine WP.skip ?_
  refine sqN ?_
  refine WP.seq ?_
  refine WP.blk ?_
  refine WP.usreg rfl ?_
  refine U.p rfl rfl (.inl rfl) (S.move rfl (L 4 rfl rfl)) ?_
  refine U.p rfl rfl (.inl rfl) (S.assign rfl (L 0 rfl rfl)) ?_
  refine U.done (nr rfl) ?_
  refine WP.usreg rfl ?_
  refine U.p rfl rfl (.inl rfl) (S.move rfl (L 4 rfl rfl)) ?_
  refine U.p rfl rfl (.inl rfl) (S.move rfl (L 1 rfl rfl)) ?_
  obtain ⟨x28, hx29, h30⟩ := bindS h27
  obtain ⟨b31, o32, n33, c34, hv35⟩ := ow20.ospt (k := 1) rfl hx29
  obtain ⟨_, hv36, _⟩ := ow20.osel (k := 1) rfl hv35 hx29
  refine U.p rfl rfl (.inl rfl) (S.index rfl ((L 1 rfl rfl).trans hv36) (L 0 rfl rfl) Try.underlying32 ti3 (ix_ge hx29) (ix_lt hx29)) ?_
  obtain ⟨cs37, hv38, hlt39, hr40, hc41⟩ := ow20.osel (k := 1) rfl hv35 hx29
  obtain rfl : cs37 = [.int .i64 x28] := hr40
  refine U.k rfl rfl (.inl rfl) (S.load rfl (L 0 rfl rfl) Try.underlying3 rfl (hc41 0 _ rfl)) nd ?_
  refine U.p rfl rfl (.inl rfl) (S.eqlI rfl (L 0 rfl rfl) K) ?_
  refine U.p rfl rfl (.inl rfl) (S.move rfl (L 0 rfl rfl)) ?_
  obtain ⟨y42, hy43, h44⟩ := bindS h30
  refine U.joinX 11 (fun e H => ∃ (u45 u46 u47 u48 : Value), ∃ V' : Vw, H = V'.H ∧ V18.le V' ∧ e = [(23, .bool y42.1), (22, u45), (21, u46), (20, u47), (19, u48)] ∧ Ow V' (.oss (RO.os RT.bool) v1 hs2 p0 :: .os (RT.int .i64) v7 y42.2 :: Rs)) ?_ ?_
  ·rintro _ _ ⟨u45, u46, u47, u48, V49, rfl, le50, rfl, ow51⟩
   refine U.done (nr rfl) ?_
   refine WP.cond _ (L 0 rfl rfl) rfl (fun c52 => ?_) (fun c52 => ?_)
   ·have h53 := ifT c52 h44
    refine WP.usreg rfl ?_
    refine U.p rfl rfl (.inl rfl) (S.assign rfl K) ?_
    refine U.done (nr rfl) ?_
    refine WP.ret ?_
    refine blkR (sqR (sqR (blkR (sqR ?_))))
    have h54 := exitS h53 e23
    refine fin.slot (.inr rfl) rfl (L 0 rfl rfl) ⟨V49, rfl, ((le9.trans le19).trans le50), ?_⟩
    have ow55 := ow51.drop 1 rfl
    have e56 := Option.some.inj h54
    subst e56
    exact ⟨rfl, ow55⟩
   ·have h57 := ifF c52 h44
    refine WP.skip ?_
    refine blkN (sqN ?_)
    refine WP.ureg rfl ?_
    refine U.p rfl rfl (.inl rfl) (S.add rfl (L 17 rfl rfl) K) ?_
    refine U.p rfl rfl (.inl rfl) (S.move rfl (L 0 rfl rfl)) ?_
    refine U.done (nr rfl) ?_
    refine sqN ?_
    exact ⟨_, V49, rfl, ⟨m21, Nat.lt_succ_self _, y42.2, w64 (x13 + 1), rfl, (le19.trans le50), ow51, backS h57 e23⟩, (allCons (L 16 rfl rfl) (allCons (L 17 rfl rfl) (allCons (L 18 rfl rfl) (allCons (L 0 rfl rfl) allNil))))⟩
  ·intro kk
   refine bcase (b := decide (x28 = 0)) (fun g58 => ?_) (fun g58 => ?_)
   ·have h59 := ifT g58 hy43
    refine U.p rfl rfl (.inr ⟨_, _, _, rfl, rfl, ((L 0 rfl rfl).trans (congrArg Value.bool g58))⟩) (S.move rfl (L 9 rfl rfl)) ?_
    refine U.p rfl rfl (.inr ⟨_, _, _, rfl, rfl, ((L 1 rfl rfl).trans (congrArg Value.bool g58))⟩) (S.move rfl (L 7 rfl rfl)) ?_
    refine U.p rfl rfl (.inr ⟨_, _, _, rfl, rfl, ((L 2 rfl rfl).trans (congrArg Value.bool g58))⟩) (S.move rfl (L 12 rfl rfl)) ?_
    have ow60 := ow20.pick 1 rfl
    have ow61 := ow60.pick 1 rfl
    obtain ⟨x62, hx63, h64⟩ := bindS h59
    refine O.call (V := V18) rfl rfl (.inr ⟨_, _, _, rfl, rfl, ((L 3 rfl rfl).trans (congrArg Value.bool g58))⟩) rfl en53 (aC (L 2 rfl rfl) (aC (L 1 rfl rfl) (aC (L 0 rfl rfl) aN))) (wk_order_graph_visit V18 _ p0 x13 xs12 v1 hs2 v7 ow61 _ hx63) (fun _ _ _ _ => nd) (fun v65 V66 le67 hp68 => ?_)
    obtain ⟨rfl, ow69⟩ := hp68
    refine U.p rfl rfl (.inl rfl) (S.pickT rfl ((L 4 rfl rfl).trans (congrArg Value.bool g58)) (L 0 rfl rfl)) ?_
    have e70 := Option.some.inj h64
    subst e70
    exact kk [(23, .bool x62.1), (22, .bool x62.1), (21, v7), (20, .int .i64 x13), (19, v1)] _ ⟨.bool x62.1, v7, .int .i64 x13, v1, V66, rfl, le67, rfl, ow69⟩
   ·have h71 := ifF g58 hy43
    refine U.x rfl rfl rfl rfl ((L 0 rfl rfl).trans (congrArg Value.bool g58)) (by decide) ?_
    refine U.x rfl rfl rfl rfl ((L 1 rfl rfl).trans (congrArg Value.bool g58)) (by decide) ?_
    refine U.x rfl rfl rfl rfl ((L 2 rfl rfl).trans (congrArg Value.bool g58)) (by decide) ?_
    refine U.x rfl rfl rfl rfl ((L 3 rfl rfl).trans (congrArg Value.bool g58)) (by decide) ?_
    refine U.p rfl rfl (.inl rfl) (S.pickF rfl ((L 4 rfl rfl).trans (congrArg Value.bool g58)) K) ?_
    have e72 := Option.some.inj h71
    subst e72
    exact kk [(23, .bool false), (22, .tuple #[]), (21, .tuple #[]), (20, .tuple #[]), (19, .tuple #[])] _ ⟨.tuple #[], .tuple #[], .tuple #[], .tuple #[], V18, rfl, (.refl _), rfl, ow20⟩
 ·have h73 := ifF c26 h25
  refine WP.exit ?_
  refine sqE (sqE (blkE (sqN ?_)))
  have h74 := exitS h73 e23
  refine WP.usreg rfl ?_
  refine U.p rfl rfl (.inl rfl) (S.assign rfl K) ?_
  refine U.done (nr rfl) ?_
  refine WP.ret ?_
  refine fin.slot (.inr rfl) rfl (L 0 rfl rfl) ⟨V18, rfl, (le9.trans le19), ?_⟩
  have ow75 := ow20.drop 1 rfl
  have e76 := Option.some.inj h74
  subst e76
  exact ⟨rfl, ow75⟩
set_option maxHeartbeats 4000000 in
set_option maxRecDepth 10000 in
theorem wk_order_Run_Serial (V : Vw) (Rs : List At) (p0 : List (List TEvent)) (v1 : Value) (hs2 : List Value) (ow : Ow V (.oss (RO.os RT_TEvent) v1 hs2 p0 :: Rs)) (r : Bool) (h : order_Run_Serial p0 = some r) : ∃ v V', Cl Try.prog 0 14 #[v1] V.H v V'.H ∧ V.le V' ∧ (v = .bool r ∧ Ow V' (.oss (RO.os RT_TEvent) v1 hs2 p0 :: Rs)) := by
 refine Ct.of (Nat.zero_le _) Try.func14 rfl (nr rfl) ?_
 unfold order_Run_Serial at h
 refine WP.usreg rfl ?_
 refine U.p rfl rfl (.inl rfl) (S.assign rfl K) ?_
 refine U.done (nr rfl) ?_
 refine WP.usreg rfl ?_
 refine U.p rfl rfl (.inl rfl) (S.move rfl (L 1 rfl rfl)) ?_
 obtain ⟨x4, hx5, h6⟩ := bindS h
 refine O.call (V := V) rfl rfl (.inl rfl) rfl en23 (aC (L 0 rfl rfl) (aC Fu aN)) (wk_order_Run_nodes V _ p0 v1 hs2 ow _ hx5) (fun _ _ _ _ => nd) (fun v7 V8 le9 hp10 => ?_)
 obtain ⟨_, rfl, ow11⟩ := hp10
 refine O.lit (R := (RT.fn fnt46)) ow11 rfl rfl (.inl rfl) rfl Try.underlying66 ti46 rfl rfl rfl (nr rfl) rfl (aC Fu (aC Fu (aC Fu (aC Fu aN)))) (.cons _ _ 1 _ (by simp [topV]) ⟨_, rfl, rfl, _, rfl⟩ (.cons _ _ 2 _ (by simp [topV]) ⟨_, rfl, rfl, _, rfl⟩ (.cons _ _ 3 _ (by simp [topV]) ⟨_, rfl, rfl, _, rfl⟩ (.cons _ _ 4 _ (by simp [topV]) ⟨_, rfl, rfl, _, rfl⟩ .nil)))) (fun _ => nd) (fun v14 V15 le16 ow17 => ?_)
 have ow19 := ow17.pick 1 rfl
 obtain ⟨x20, hx21, h22⟩ := bindS h6
 refine O.call (V := V15) rfl rfl (.inl rfl) rfl en25 (aC (L 1 rfl rfl) (aC (L 0 rfl rfl) aN)) (wk_order_join V15 _ x4 [1, 2, 3, 4] v7 v14 ow19 _ hx21) (fun _ _ _ _ => nd) (fun v23 V24 le25 hp26 => ?_)
 obtain ⟨_, hs29, rfl, ow27⟩ := hp26
 obtain ⟨x31, hx32, h33⟩ := bindS h22
 refine O.call (V := V24) rfl rfl (.inl rfl) rfl en31 (aC (L 0 rfl rfl) aN) (wk_order_graph_cyclic V24 _ x20 v23 hs29 ow27 _ hx32) (fun _ _ _ _ => nd) (fun v34 V35 le36 hp37 => ?_)
 obtain ⟨rfl, ow38⟩ := hp37
 refine U.p rfl rfl (.inl rfl) (S.not rfl (L 0 rfl rfl)) ?_
 refine U.p rfl rfl (.inl rfl) (S.assign rfl (L 0 rfl rfl)) ?_
 refine U.done (nr rfl) ?_
 refine WP.ret ?_
 refine fin.slot (.inr rfl) rfl (L 0 rfl rfl) ⟨V35, rfl, (((le9.trans le16).trans le25).trans le36), ?_⟩
 have ow39 := ow38.drop 0 rfl
 have ow40 := ow39.drop 0 rfl
 have ow41 := ow40.drop 0 rfl
 have e42 := Option.some.inj h33
 subst e42
 exact ⟨rfl, ow41⟩
set_option maxHeartbeats 4000000 in
set_option maxRecDepth 10000 in
theorem wk_order_Run_Coherent (V : Vw) (Rs : List At) (p0 : List (List TEvent)) (v1 : Value) (hs2 : List Value) (ow : Ow V (.oss (RO.os RT_TEvent) v1 hs2 p0 :: Rs)) (r : Bool) (h : order_Run_Coherent p0 = some r) : ∃ v V', Cl Try.prog 0 11 #[v1] V.H v V'.H ∧ V.le V' ∧ (v = .bool r ∧ Ow V' (.oss (RO.os RT_TEvent) v1 hs2 p0 :: Rs)) := by
 refine Ct.of (Nat.zero_le _) Try.func11 rfl (nr rfl) ?_
 unfold order_Run_Coherent at h
 refine WP.usreg rfl ?_
 refine U.p rfl rfl (.inl rfl) (S.assign rfl K) ?_
 refine U.done (nr rfl) ?_
 refine WP.usreg rfl ?_
 refine U.p rfl rfl (.inl rfl) (S.move rfl (L 1 rfl rfl)) ?_
 obtain ⟨x4, hx5, h6⟩ := bindS h
 refine O.call (V := V) rfl rfl (.inl rfl) rfl en23 (aC (L 0 rfl rfl) (aC Fu aN)) (wk_order_Run_nodes V _ p0 v1 hs2 ow _ hx5) (fun _ _ _ _ => nd) (fun v7 V8 le9 hp10 => ?_)
 obtain ⟨_, rfl, ow11⟩ := hp10
 refine U.p rfl rfl (.inl rfl) (S.assign rfl (L 0 rfl rfl)) ?_
 refine U.done (nr rfl) ?_
 refine WP.usreg rfl ?_
 refine U.p rfl rfl (.inl rfl) (S.move rfl (L 0 rfl rfl)) ?_
 refine O.lit (R := (RT.fn fnt46)) ow11 rfl rfl (.inl rfl) rfl Try.underlying66 ti46 rfl rfl rfl (nr rfl) rfl (aC Fu (aC Fu (aC Fu (aC Fu aN)))) (.cons _ _ 0 _ (by simp [topV]) ⟨_, rfl, rfl, _, rfl⟩ (.cons _ _ 2 _ (by simp [topV]) ⟨_, rfl, rfl, _, rfl⟩ (.cons _ _ 3 _ (by simp [topV]) ⟨_, rfl, rfl, _, rfl⟩ (.cons _ _ 4 _ (by simp [topV]) ⟨_, rfl, rfl, _, rfl⟩ .nil)))) (fun _ => nd) (fun v14 V15 le16 ow17 => ?_)
 have ow19 := ow17.pick 1 rfl
 obtain ⟨x20, hx21, h22⟩ := bindS h6
 refine O.call (V := V15) rfl rfl (.inl rfl) rfl en25 (aC (L 1 rfl rfl) (aC (L 0 rfl rfl) aN)) (wk_order_join V15 _ x4 [0, 2, 3, 4] v7 v14 ow19 _ hx21) (fun _ _ _ _ => nd) (fun v23 V24 le25 hp26 => ?_)
 obtain ⟨_, hs29, rfl, ow27⟩ := hp26
 obtain ⟨x31, hx32, h33⟩ := bindS h22
 refine O.call (V := V24) rfl rfl (.inl rfl) rfl en31 (aC (L 0 rfl rfl) aN) (wk_order_graph_cyclic V24 _ x20 v23 hs29 ow27 _ hx32) (fun _ _ _ _ => nd) (fun v34 V35 le36 hp37 => ?_)
 obtain ⟨rfl, ow38⟩ := hp37
 refine U.p rfl rfl (.inl rfl) (S.not rfl (L 0 rfl rfl)) ?_
 refine U.p rfl rfl (.inl rfl) (S.assign rfl (L 0 rfl rfl)) ?_
 refine U.done (nr rfl) ?_
 refine WP.ret ?_
 refine fin.slot (.inr rfl) rfl (L 0 rfl rfl) ⟨V35, rfl, (((le9.trans le16).trans le25).trans le36), ?_⟩
 have ow39 := ow38.drop 0 rfl
 have ow40 := ow39.drop 0 rfl
 have ow41 := ow40.drop 0 rfl
 have e42 := Option.some.inj h33
 subst e42
 exact ⟨rfl, ow41⟩
set_option maxHeartbeats 4000000 in
set_option maxRecDepth 10000 in
theorem wk_order_graph_closed (V : Vw) (Rs : List At) (p0 : List (List Bool)) (v1 : Value) (hs2 : List Value) (ow : Ow V (.oss (RO.os RT.bool) v1 hs2 p0 :: Rs)) (r : List (List Bool)) (h : order_graph_closed p0 = some r) : ∃ v V', Cl Try.prog 0 55 #[v1] V.H v V'.H ∧ V.le V' ∧ (∃ (v4 : Value) (hs5 : List Value), v = v4 ∧ Ow V' (.oss (RO.os RT.bool) v4 hs5 r :: .oss (RO.os RT.bool) v1 hs2 p0 :: Rs)) := by
 refine Ct.of (Nat.zero_le _) Try.func55 rfl (nr rfl) ?_
 unfold order_graph_closed at h
 refine WP.usreg rfl ?_
 refine U.p rfl rfl (.inl rfl) (S.assign rfl K) ?_
 refine U.done (nr rfl) ?_
 refine WP.usreg rfl ?_
 refine U.p rfl rfl (.inl rfl) (S.move rfl (L 1 rfl rfl)) ?_
 refine U.p rfl rfl (.inl rfl) (ow.sslen (k := 0) rfl rfl (L 0 rfl rfl) Try.underlying42) ?_
 obtain ⟨xs7, hx8, h9⟩ := bindS h
 refine O.makeS (RO.os RT.bool) ow rfl rfl (.inl rfl) rfl (L 0 rfl rfl) (L 0 rfl rfl) Try.underlying42 ti53 rfl rfl (nr rfl) ⟨Nat.zero_le _, .inl ⟨rfl, rfl, rfl⟩⟩ hx8 (fun _ => nd) (fun v10 hs11 V12 le13 ow14 => ?_)
 refine U.p rfl rfl (.inl rfl) (S.assign rfl (L 0 rfl rfl)) ?_
 refine U.done (nr rfl) ?_
 refine WP.seq ?_
 refine WP.usreg rfl ?_
 refine U.p rfl rfl (.inl rfl) (S.move rfl (L 5 rfl rfl)) ?_
 refine U.p rfl rfl (.inl rfl) (ow14.sslen (k := 1) rfl rfl (L 0 rfl rfl) Try.underlying42) ?_
 refine U.p rfl rfl (.inl rfl) (S.move rfl K) ?_
 refine U.done (nr rfl) ?_
 refine WP.blk ?_
 have ow19 := ow14.pick 0 rfl
 have ow20 := ow19.pick 1 rfl
 unfold order_graph_closed_l1 at h9
 obtain ⟨n22, hn21⟩ := loopO_some.1 h9
 refine WP.loopI2 (fun n l V' => ∃ (hs16 : List Value) (xs17 : List (List Bool)) (x18 : Int), l = [(0, v1), (3, v10), (12, .int .i64 (p0.length : Int)), (13, .int .i64 x18)] ∧ V12.le V' ∧ Ow V' (.oss (RO.os RT.bool) v1 hs2 p0 :: .oss (RO.os RT.bool) v10 hs16 xs17 :: Rs) ∧ itO (fun s => order_graph_closed_l1b p0 s.1 s.2) n (xs17, x18) = some r) n22 _ ⟨hs11, xs7, 0, rfl, .refl _, ow20, hn21⟩ (allCons (L 8 rfl rfl) (allCons (L 3 rfl rfl) (allCons (L 1 rfl rfl) (allCons (L 0 rfl rfl) allNil)))) ?_
 rintro _ _ V23 ⟨hs16, xs17, x18, rfl, le24, ow25, h29⟩
 obtain ⟨m26, q27, rfl, h30, e28⟩ := itS h29
 replace h30 : order_graph_closed_l1b p0 xs17 x18 = some q27 := h30
 unfold order_graph_closed_l1b at h30
 refine WP.usreg rfl ?_
 refine U.p rfl rfl (.inl rfl) (S.lss rfl (L 3 rfl rfl) (L 2 rfl rfl)) ?_
 refine U.done (nr rfl) ?_
 refine WP.seq ?_
 refine WP.cond _ (L 0 rfl rfl) rfl (fun c31 => ?_) (fun c31 => ?_)
 ·have h32 := ifT c31 h30
  refine WP.skip ?_
  refine sqN ?_
  refine WP.seq ?_
  refine WP.blk ?_
  refine WP.usreg rfl ?_
  refine U.p rfl rfl (.inl rfl) (S.move rfl (L 4 rfl rfl)) ?_
  refine U.p rfl rfl (.inl rfl) (S.assign rfl (L 0 rfl rfl)) ?_
  refine U.done (nr rfl) ?_
  refine WP.usreg rfl ?_
  refine U.p rfl rfl (.inl rfl) (S.move rfl (L 4 rfl rfl)) ?_
  refine U.p rfl rfl (.inl rfl) (S.move rfl (L 1 rfl rfl)) ?_
  refine U.p rfl rfl (.inl rfl) (S.move rfl (L 5 rfl rfl)) ?_
  refine U.p rfl rfl (.inl rfl) (ow25.sslen (k := 0) rfl rfl (L 0 rfl rfl) Try.underlying42) ?_
  obtain ⟨xs33, hx34, h35⟩ := bindS h32
  refine O.make (R := RT.bool) ow25 rfl rfl (.inl rfl) rfl (L 0 rfl rfl) (L 0 rfl rfl) Try.underlying53 ti4 rfl rfl rfl (nr rfl) rfl hx34 (fun _ => nd) (fun v36 V37 le38 ow39 => ?_)
  obtain ⟨x41, hx42, h43⟩ := bindS h35
  obtain ⟨b44, o45, n46, c47, hv48⟩ := ow39.sspt (k := 2) rfl hx42
  refine U.p rfl rfl (.inl rfl) (S.index rfl ((L 4 rfl rfl).trans (ow39.sslen' (k := 2) rfl hv48)) (L 3 rfl rfl) Try.underlying42 ti53 (ix_ge hx42) (ix_lt hx42)) ?_
  obtain ⟨h49, hh50, ow51⟩ := ow39.ssopen (k := 2) rfl hx42
  have ow53 := ow51.drop 0 rfl
  refine O.storeH (k := 2) ow53 rfl hv48 rfl rfl (.inl rfl) rfl (L 0 rfl rfl) (L 1 rfl rfl) ti53 (ow53.osne (k := 0) rfl) (by rw [ow53.oscells (k := 0) rfl]) (ow53.osone (k := 0) rfl) (fun _ _ => nd) (fun V54 le55 ow56 => ?_)
  have hh57 := ow56.shset (k := 2) rfl
  refine U.done (nr rfl) ?_
  refine WP.usreg rfl ?_
  refine U.p rfl rfl (.inl rfl) (S.move rfl (L 6 rfl rfl)) ?_
  refine O.lit (R := (RT.int .i64)) ow56 rfl rfl (.inl rfl) rfl Try.underlying32 ti3 rfl rfl rfl (nr rfl) rfl (aC (L 0 rfl rfl) aN) (.cons _ _ x18 _ (by simp [topV]) rfl .nil) (fun _ => nd) (fun v58 V59 le60 ow61 => ?_)
  refine U.p rfl rfl (.inl rfl) (S.assign rfl (L 0 rfl rfl)) ?_
  refine U.done (nr rfl) ?_
  refine WP.blk ?_
  have ow63 := ow61.ssclose (k := 3) (j := 1) rfl rfl (by decide) hh57
  have ow68 := ow63.pick 0 rfl
  have ow69 := ow68.pick 2 rfl
  have ow70 := ow69.pick 2 rfl
  unfold order_graph_closed_l2 at h43
  obtain ⟨n72, hn71⟩ := loopO_some.1 h43
  refine WP.loopI2 (fun n l V' => ∃ (xs64 : List (List Bool)) (v66 : Value) (xs67 : List Int), l = [(0, v1), (3, v10), (4, .int .i64 x18), (5, v66), (12, .int .i64 (p0.length : Int)), (13, .int .i64 x18)] ∧ V59.le V' ∧ Ow V' (.oss (RO.os RT.bool) v1 hs2 p0 :: .oss (RO.os RT.bool) v10 (hs16.set (Int.toNat x18) v36) xs64 :: .os (RT.int .i64) v66 xs67 :: Rs) ∧ itO (fun s => order_graph_closed_l2b p0 x18 s.1 s.2) n (xs64, xs67) = some q27) n72 _ ⟨xs17.set (Int.toNat x18) xs33, v58, [x18], rfl, .refl _, ow70, hn71⟩ (allCons (L 12 rfl rfl) (allCons (L 13 rfl rfl) (allCons (L 9 rfl rfl) (allCons (L 0 rfl rfl) (allCons (L 14 rfl rfl) (allCons (L 15 rfl rfl) allNil)))))) ?_
  rintro _ _ V73 ⟨xs64, v66, xs67, rfl, le74, ow75, h79⟩
  obtain ⟨m76, q77, rfl, h80, e78⟩ := itS h79
  replace h80 : order_graph_closed_l2b p0 x18 xs64 xs67 = some q77 := h80
  unfold order_graph_closed_l2b at h80
  refine WP.seq ?_
  refine WP.usreg rfl ?_
  refine U.p rfl rfl (.inl rfl) (S.move rfl (L 3 rfl rfl)) ?_
  refine U.p rfl rfl (.inl rfl) (ow75.oslen (k := 2) rfl rfl (L 0 rfl rfl) Try.underlying32) ?_
  refine U.p rfl rfl (.inl rfl) (S.gtr rfl (L 0 rfl rfl) K) ?_
  refine U.done (nr rfl) ?_
  refine WP.cond _ (L 0 rfl rfl) rfl (fun c81 => ?_) (fun c81 => ?_)
  ·have h82 := ifT c81 h80
   refine WP.skip ?_
   refine sqN ?_
   refine WP.seq ?_
   refine WP.blk ?_
   refine WP.usreg rfl ?_
   refine U.p rfl rfl (.inl rfl) (S.move rfl (L 3 rfl rfl)) ?_
   refine U.p rfl rfl (.inl rfl) (S.move rfl (L 7 rfl rfl)) ?_
   obtain ⟨x83, hx84, h85⟩ := bindS h82
   obtain ⟨b86, o87, n88, c89, hv90⟩ := ow75.ospt (k := 2) rfl hx84
   obtain ⟨_, hv91, _⟩ := ow75.osel (k := 2) rfl hv90 hx84
   refine U.p rfl rfl (.inl rfl) (S.index rfl ((L 0 rfl rfl).trans hv91) K Try.underlying32 ti3 (ix_ge hx84) (ix_lt hx84)) ?_
   obtain ⟨cs92, hv93, hlt94, hr95, hc96⟩ := ow75.osel (k := 2) rfl hv90 hx84
   obtain rfl : cs92 = [.int .i64 x83] := hr95
   refine U.k rfl rfl (.inl rfl) (S.load rfl (L 0 rfl rfl) Try.underlying3 rfl (hc96 0 _ rfl)) nd ?_
   obtain ⟨x97, hx98, h99⟩ := bindS h85
   obtain ⟨b100, o101, n102, c103, hv104⟩ := ow75.sspt (k := 0) rfl hx98
   refine U.p rfl rfl (.inl rfl) (S.index rfl ((L 3 rfl rfl).trans (ow75.sslen' (k := 0) rfl hv104)) (L 0 rfl rfl) Try.underlying42 ti53 (ix_ge hx98) (ix_lt hx98)) ?_
   obtain ⟨h105, hh106, ow107⟩ := ow75.ssopen (k := 0) rfl hx98
   have hcl109 := ow107.shcell (k := 1) rfl hv104 hh106
   refine U.k rfl rfl (.inl rfl) (S.load rfl (L 0 rfl rfl) Try.underlying53 rfl hcl109.2) nd ?_
   refine U.p rfl rfl (.inl rfl) (ow107.oslen (k := 0) rfl rfl (L 0 rfl rfl) Try.underlying53) ?_
   refine U.p rfl rfl (.inl rfl) (S.move rfl K) ?_
   refine U.done (nr rfl) ?_
   refine WP.blk ?_
   have ow110 := ow107.ssclose' (k := 1) (j := 0) rfl rfl (by decide) hh106 hx98
   unfold order_graph_closed_l3 at h99
   obtain ⟨n117, hn116⟩ := loopO_some.1 h99
   refine WP.loopI2 (fun n l V' => ∃ (xs111 : List (List Bool)) (v113 : Value) (xs114 : List Int) (x115 : Int), l = [(0, v1), (3, v10), (4, .int .i64 x18), (5, v113), (12, .int .i64 (p0.length : Int)), (13, .int .i64 x18), (34, h105), (35, .int .i64 (x97.length : Int)), (36, .int .i64 x115)] ∧ V73.le V' ∧ Ow V' (.oss (RO.os RT.bool) v1 hs2 p0 :: .oss (RO.os RT.bool) v10 (hs16.set (Int.toNat x18) v36) xs111 :: .os (RT.int .i64) v113 xs114 :: Rs) ∧ itO (fun s => order_graph_closed_l3b p0 x18 x83 x97 s.1 s.2.1 s.2.2) n (xs111, xs114, x115) = some q77) n117 _ ⟨xs64, v66, xs67, 0, rfl, .refl _, ow110, hn116⟩ (allCons (L 11 rfl rfl) (allCons (L 12 rfl rfl) (allCons (L 13 rfl rfl) (allCons (L 14 rfl rfl) (allCons (L 15 rfl rfl) (allCons (L 16 rfl rfl) (allCons (L 2 rfl rfl) (allCons (L 1 rfl rfl) (allCons (L 0 rfl rfl) allNil))))))))) ?_
   rintro _ _ V118 ⟨xs111, v113, xs114, x115, rfl, le119, ow120, h124⟩
   obtain ⟨m121, q122, rfl, h125, e123⟩ := itS h124
   replace h125 : order_graph_closed_l3b p0 x18 x83 x97 xs111 xs114 x115 = some q122 := h125
   unfold order_graph_closed_l3b at h125
   refine WP.usreg rfl ?_
   refine U.p rfl rfl (.inl rfl) (S.lss rfl (L 8 rfl rfl) (L 7 rfl rfl)) ?_
   refine U.done (nr rfl) ?_
   refine WP.seq ?_
   refine WP.cond _ (L 0 rfl rfl) rfl (fun c126 => ?_) (fun c126 => ?_)
   ·have h127 := ifT c126 h125
    refine WP.skip ?_
    refine sqN ?_
    refine WP.seqI (fun l V' => ∃ (xs128 : List (List Bool)) (v130 : Value) (xs131 : List Int), l = [(0, v1), (3, v10), (4, .int .i64 x18), (5, v130), (12, .int .i64 (p0.length : Int)), (13, .int .i64 x18), (34, h105), (35, .int .i64 (x97.length : Int)), (36, .int .i64 x115)] ∧ V118.le V' ∧ Ow V' (.oss (RO.os RT.bool) v1 hs2 p0 :: .oss (RO.os RT.bool) v10 (hs16.set (Int.toNat x18) v36) xs128 :: .os (RT.int .i64) v130 xs131 :: Rs) ∧ order_graph_closed_k1 x115 xs128 xs131 = some q122) ?_ ?_
    ·rintro _ V132 ⟨xs128, v130, xs131, rfl, le133, ow134, h135⟩
     unfold order_graph_closed_k1 at h135
     refine WP.ureg rfl ?_
     refine U.p rfl rfl (.inl rfl) (S.add rfl (L 8 rfl rfl) K) ?_
     refine U.p rfl rfl (.inl rfl) (S.move rfl (L 0 rfl rfl)) ?_
     refine U.done (nr rfl) ?_
     refine sqN ?_
     exact ⟨_, V132, rfl, ⟨m121, Nat.lt_succ_self _, xs128, v130, xs131, w64 (x115 + 1), rfl, (le119.trans le133), ow134, backS h135 e123⟩, (allCons (L 2 rfl rfl) (allCons (L 3 rfl rfl) (allCons (L 4 rfl rfl) (allCons (L 5 rfl rfl) (allCons (L 6 rfl rfl) (allCons (L 7 rfl rfl) (allCons (L 8 rfl rfl) (allCons (L 9 rfl rfl) (allCons (L 0 rfl rfl) allNil)))))))))⟩
    ·skip
     refine WP.blk ?_
     refine WP.usreg rfl ?_
     refine U.p rfl rfl (.inl rfl) (S.move rfl (L 9 rfl rfl)) ?_
     obtain ⟨x136, hx137, h138⟩ := bindS h127
     obtain ⟨h139, hh140, ow141⟩ := ow120.ssopen (k := 0) rfl hx137
     obtain rfl : h139 = h105 := Option.some.inj (hh140.symm.trans hh106)
     obtain ⟨x143, hx144, h145⟩ := bindS h138
     obtain ⟨b146, o147, n148, c149, hv150⟩ := ow141.ospt (k := 0) rfl hx144
     obtain ⟨_, hv151, _⟩ := ow141.osel (k := 0) rfl hv150 hx144
     refine U.p rfl rfl (.inl rfl) (S.index rfl ((L 8 rfl rfl).trans hv151) (L 10 rfl rfl) Try.underlying53 ti4 (ix_ge hx144) (ix_lt hx144)) ?_
     obtain ⟨cs152, hv153, hlt154, hr155, hc156⟩ := ow141.osel (k := 0) rfl hv150 hx144
     obtain rfl : cs152 = [.bool x143] := hr155
     refine U.k rfl rfl (.inl rfl) (S.load rfl (L 0 rfl rfl) Try.underlying4 rfl (hc156 0 _ rfl)) nd ?_
     refine U.p rfl rfl (.inl rfl) (S.assign rfl (L 2 rfl rfl)) ?_
     refine U.p rfl rfl (.inl rfl) (S.assign rfl (L 1 rfl rfl)) ?_
     refine U.done (nr rfl) ?_
     refine WP.usreg rfl ?_
     refine U.p rfl rfl (.inl rfl) (S.move rfl (L 0 rfl rfl)) ?_
     refine U.p rfl rfl (.inl rfl) (S.move rfl (L 0 rfl rfl)) ?_
     have ow157 := ow141.ssclose' (k := 1) (j := 0) rfl rfl (by decide) hh106 hx137
     obtain ⟨y158, hy159, h160⟩ := bindS h145
     refine U.joinX 11 (fun e H => ∃ (u161 u162 u163 u164 u165 u166 u167 u168 : Value), H = V118.H ∧ e = [(51, .bool y158), (50, u161), (49, u162), (48, u163), (47, u164), (46, u165), (45, u166), (44, u167), (43, u168)]) ?_ ?_
     ·rintro _ _ ⟨u161, u162, u163, u164, u165, u166, u167, u168, rfl, rfl⟩
      refine U.done (nr rfl) ?_
      refine WP.cond _ (L 0 rfl rfl) rfl (fun c172 => ?_) (fun c172 => ?_)
      ·have h173 := ifT c172 h160
       refine WP.usreg rfl ?_
       refine U.p rfl rfl (.inl rfl) (S.move rfl (L 18 rfl rfl)) ?_
       refine U.p rfl rfl (.inl rfl) (S.move rfl (L 20 rfl rfl)) ?_
       obtain ⟨x174, hx175, h176⟩ := bindS h173
       refine U.p rfl rfl (.inl rfl) (S.index rfl ((L 1 rfl rfl).trans (ow157.sslen' (k := 1) rfl hv48)) (L 0 rfl rfl) Try.underlying42 ti53 (ix_ge hx175) (ix_lt hx175)) ?_
       obtain ⟨h177, hh178, ow179⟩ := ow157.ssopen (k := 1) rfl hx175
       have hcl181 := ow179.shcell (k := 2) rfl hv48 hh178
       refine U.k rfl rfl (.inl rfl) (S.load rfl (L 0 rfl rfl) Try.underlying53 rfl hcl181.2) nd ?_
       refine U.p rfl rfl (.inl rfl) (S.move rfl (L 16 rfl rfl)) ?_
       obtain ⟨x182, hx183, h184⟩ := bindS h176
       obtain ⟨b185, o186, n187, c188, hv189⟩ := ow179.ospt (k := 0) rfl hx183
       obtain ⟨_, hv190, _⟩ := ow179.osel (k := 0) rfl hv189 hx183
       refine U.p rfl rfl (.inl rfl) (S.index rfl ((L 1 rfl rfl).trans hv190) (L 0 rfl rfl) Try.underlying53 ti4 (ix_ge hx183) (ix_lt hx183)) ?_
       obtain ⟨cs191, hv192, hlt193, hr194, hc195⟩ := ow179.osel (k := 0) rfl hv189 hx183
       obtain rfl : cs191 = [.bool x182] := hr194
       refine O.storeE (k := 0) (R := RT.bool) (j := 0) (y := true) (cs := [.bool true]) ow179 rfl hv192 rfl rfl (.inl rfl) rfl (L 0 rfl rfl) K ti4 hx183 (by simp [topV]) rfl rfl rfl (full rfl) (fun _ _ => nd) (fun V196 le197 ow198 => ?_)
       refine U.done (nr rfl) ?_
       refine WP.ureg rfl ?_
       refine U.p rfl rfl (.inl rfl) (S.move rfl (L 26 rfl rfl)) ?_
       refine U.p rfl rfl (.inl rfl) (S.move rfl (L 19 rfl rfl)) ?_
       refine O.lit (R := (RT.int .i64)) ow198 rfl rfl (.inl rfl) rfl Try.underlying32 ti3 rfl rfl rfl (nr rfl) rfl (aC (L 0 rfl rfl) aN) (.cons _ _ x115 _ (by simp [topV]) rfl .nil) (fun _ => nd) (fun v199 V200 le201 ow202 => ?_)
       obtain ⟨xs204, hx205, h206⟩ := bindS h184
       refine O.append (k := 4) ow202 rfl rfl rfl (.inl rfl) rfl (L 2 rfl rfl) (L 0 rfl rfl) Try.underlying32 ti3 rfl rfl (nr rfl) (ow202.src (k := 0) rfl Try.underlying32) hx205 (fun _ _ => nd) (fun v207 V208 le209 ow210 => ?_)
       refine U.p rfl rfl (.inl rfl) (S.assign rfl (L 0 rfl rfl)) ?_
       refine U.done (nr rfl) ?_
       refine blkN (sqN ?_)
       have ow212 := ow210.ssclose (k := 3) (j := 1) rfl rfl (by decide) hh178
       have ow213 := ow212.drop 0 rfl
       exact ⟨_, V208, rfl, ⟨xs111.set (Int.toNat x18) (x174.set (Int.toNat x115) true), v207, xs204, rfl, ((le197.trans le201).trans le209), ow213, h206⟩, (allCons (L 28 rfl rfl) (allCons (L 29 rfl rfl) (allCons (L 30 rfl rfl) (allCons (L 0 rfl rfl) (allCons (L 32 rfl rfl) (allCons (L 33 rfl rfl) (allCons (L 34 rfl rfl) (allCons (L 35 rfl rfl) (allCons (L 36 rfl rfl) allNil)))))))))⟩
      ·have h214 := ifF c172 h160
       refine WP.skip ?_
       refine blkN (sqN ?_)
       exact ⟨_, V118, rfl, ⟨xs111, v113, xs114, rfl, (.refl _), ow157, h214⟩, (allCons (L 17 rfl rfl) (allCons (L 18 rfl rfl) (allCons (L 19 rfl rfl) (allCons (L 20 rfl rfl) (allCons (L 21 rfl rfl) (allCons (L 22 rfl rfl) (allCons (L 23 rfl rfl) (allCons (L 24 rfl rfl) (allCons (L 25 rfl rfl) allNil)))))))))⟩
     ·intro kk
      refine bcase (b := x143) (fun g215 => ?_) (fun g215 => ?_)
      ·have h216 := ifT g215 hy159
       refine U.p rfl rfl (.inr ⟨_, _, _, rfl, rfl, ((L 0 rfl rfl).trans (congrArg Value.bool g215))⟩) (S.move rfl (L 9 rfl rfl)) ?_
       refine U.p rfl rfl (.inr ⟨_, _, _, rfl, rfl, ((L 1 rfl rfl).trans (congrArg Value.bool g215))⟩) (S.move rfl (L 11 rfl rfl)) ?_
       obtain ⟨x217, hx218, h219⟩ := bindS h216
       refine U.p rfl rfl (.inr ⟨_, _, _, rfl, rfl, ((L 2 rfl rfl).trans (congrArg Value.bool g215))⟩) (S.index rfl ((L 1 rfl rfl).trans (ow157.sslen' (k := 1) rfl hv48)) (L 0 rfl rfl) Try.underlying42 ti53 (ix_ge hx218) (ix_lt hx218)) ?_
       obtain ⟨h220, hh221, ow222⟩ := ow157.ssopen (k := 1) rfl hx218
       have hcl224 := ow222.shcell (k := 2) rfl hv48 hh221
       refine U.k rfl rfl (.inr ⟨_, _, _, rfl, rfl, ((L 3 rfl rfl).trans (congrArg Value.bool g215))⟩) (S.load rfl (L 0 rfl rfl) Try.underlying53 rfl hcl224.2) nd ?_
       refine U.p rfl rfl (.inr ⟨_, _, _, rfl, rfl, ((L 4 rfl rfl).trans (congrArg Value.bool g215))⟩) (S.move rfl (L 7 rfl rfl)) ?_
       obtain ⟨x225, hx226, h227⟩ := bindS h219
       obtain ⟨b228, o229, n230, c231, hv232⟩ := ow222.ospt (k := 0) rfl hx226
       obtain ⟨_, hv233, _⟩ := ow222.osel (k := 0) rfl hv232 hx226
       refine U.p rfl rfl (.inr ⟨_, _, _, rfl, rfl, ((L 5 rfl rfl).trans (congrArg Value.bool g215))⟩) (S.index rfl ((L 1 rfl rfl).trans hv233) (L 0 rfl rfl) Try.underlying53 ti4 (ix_ge hx226) (ix_lt hx226)) ?_
       obtain ⟨cs234, hv235, hlt236, hr237, hc238⟩ := ow222.osel (k := 0) rfl hv232 hx226
       obtain rfl : cs234 = [.bool x225] := hr237
       refine U.k rfl rfl (.inr ⟨_, _, _, rfl, rfl, ((L 6 rfl rfl).trans (congrArg Value.bool g215))⟩) (S.load rfl (L 0 rfl rfl) Try.underlying4 rfl (hc238 0 _ rfl)) nd ?_
       refine U.p rfl rfl (.inr ⟨_, _, _, rfl, rfl, ((L 7 rfl rfl).trans (congrArg Value.bool g215))⟩) (S.not rfl (L 0 rfl rfl)) ?_
       refine U.p rfl rfl (.inl rfl) (S.pickT rfl ((L 8 rfl rfl).trans (congrArg Value.bool g215)) (L 0 rfl rfl)) ?_
       have ow239 := ow222.ssclose' (k := 2) (j := 0) rfl rfl (by decide) hh221 hx218
       have e240 := Option.some.inj h227
       subst e240
       exact kk [(51, .bool (!x225)), (50, .bool (!x225)), (49, .bool x225), (48, .pointer (some ⟨b228, o229 + Int.toNat x115 * 1, none⟩)), (47, .int .i64 x115), (46, h220), (45, .pointer (some ⟨b44, o45 + Int.toNat x18 * 1, none⟩)), (44, .int .i64 x18), (43, v10)] _ ⟨.bool (!x225), .bool x225, .pointer (some ⟨b228, o229 + Int.toNat x115 * 1, none⟩), .int .i64 x115, h220, .pointer (some ⟨b44, o45 + Int.toNat x18 * 1, none⟩), .int .i64 x18, v10, rfl, rfl⟩
      ·have h241 := ifF g215 hy159
       refine U.x rfl rfl rfl rfl ((L 0 rfl rfl).trans (congrArg Value.bool g215)) (by decide) ?_
       refine U.x rfl rfl rfl rfl ((L 1 rfl rfl).trans (congrArg Value.bool g215)) (by decide) ?_
       refine U.x rfl rfl rfl rfl ((L 2 rfl rfl).trans (congrArg Value.bool g215)) (by decide) ?_
       refine U.x rfl rfl rfl rfl ((L 3 rfl rfl).trans (congrArg Value.bool g215)) (by decide) ?_
       refine U.x rfl rfl rfl rfl ((L 4 rfl rfl).trans (congrArg Value.bool g215)) (by decide) ?_
       refine U.x rfl rfl rfl rfl ((L 5 rfl rfl).trans (congrArg Value.bool g215)) (by decide) ?_
       refine U.x rfl rfl rfl rfl ((L 6 rfl rfl).trans (congrArg Value.bool g215)) (by decide) ?_
       refine U.x rfl rfl rfl rfl ((L 7 rfl rfl).trans (congrArg Value.bool g215)) (by decide) ?_
       refine U.p rfl rfl (.inl rfl) (S.pickF rfl ((L 8 rfl rfl).trans (congrArg Value.bool g215)) K) ?_
       have e242 := Option.some.inj h241
       subst e242
       exact kk [(51, .bool false), (50, .tuple #[]), (49, .tuple #[]), (48, .tuple #[]), (47, .tuple #[]), (46, .tuple #[]), (45, .tuple #[]), (44, .tuple #[]), (43, .tuple #[])] _ ⟨.tuple #[], .tuple #[], .tuple #[], .tuple #[], .tuple #[], .tuple #[], .tuple #[], .tuple #[], rfl, rfl⟩
   ·have h243 := ifF c126 h125
    refine WP.exit ?_
    refine sqE (sqE (blkE (blkN (sqN ?_))))
    have h244 := exitS h243 e123
    refine WP.ureg rfl ?_
    refine U.p rfl rfl (.inl rfl) (S.move rfl (L 4 rfl rfl)) ?_
    obtain ⟨xs245, hx246, h247⟩ := bindS h244
    refine O.subO (k := 2) ow120 rfl hx246 rfl rfl (.inl rfl) rfl (L 0 rfl rfl) Try.underlying32 ti3 ⟨.inr ⟨_, _, rfl, K⟩, .inl ⟨rfl, rfl⟩, .inl rfl⟩ (fun v248 ow251 => ?_)
    refine U.p rfl rfl (.inl rfl) (S.assign rfl (L 0 rfl rfl)) ?_
    refine U.done (nr rfl) ?_
    refine sqN ?_
    exact ⟨_, V118, rfl, ⟨m76, Nat.lt_succ_self _, xs111, v248, xs245, rfl, (le74.trans le119), ow251, backS h247 e78⟩, (allCons (L 4 rfl rfl) (allCons (L 5 rfl rfl) (allCons (L 6 rfl rfl) (allCons (L 0 rfl rfl) (allCons (L 8 rfl rfl) (allCons (L 9 rfl rfl) allNil))))))⟩
  ·have h253 := ifF c81 h80
   refine WP.exit ?_
   refine sqE (sqE (blkE (blkN (sqN ?_))))
   have h254 := exitS h253 e78
   refine WP.ureg rfl ?_
   refine U.p rfl rfl (.inl rfl) (S.add rfl (L 8 rfl rfl) K) ?_
   refine U.p rfl rfl (.inl rfl) (S.move rfl (L 0 rfl rfl)) ?_
   refine U.done (nr rfl) ?_
   refine sqN ?_
   have ow255 := ow75.drop 2 rfl
   exact ⟨_, V73, rfl, ⟨m26, Nat.lt_succ_self _, hs16.set (Int.toNat x18) v36, xs64, w64 (x18 + 1), rfl, ((((le24.trans le38).trans le55).trans le60).trans le74), ow255, backS h254 e28⟩, (allCons (L 5 rfl rfl) (allCons (L 6 rfl rfl) (allCons (L 9 rfl rfl) (allCons (L 0 rfl rfl) allNil))))⟩
 ·have h256 := ifF c31 h30
  refine WP.exit ?_
  refine sqE (sqE (blkE (sqN ?_)))
  have h257 := exitS h256 e28
  refine WP.usreg rfl ?_
  refine U.p rfl rfl (.inl rfl) (S.move rfl (L 2 rfl rfl)) ?_
  refine U.p rfl rfl (.inl rfl) (S.assign rfl (L 0 rfl rfl)) ?_
  refine U.done (nr rfl) ?_
  refine WP.ret ?_
  refine fin.slot (.inr rfl) rfl (L 0 rfl rfl) ⟨V23, rfl, (le13.trans le24), ?_⟩
  have ow258 := ow25.pick 0 rfl
  have ow259 := ow258.pick 1 rfl
  have e260 := Option.some.inj h257
  subst e260
  exact ⟨v10, hs16, rfl, ow259⟩
set_option maxHeartbeats 4000000 in
set_option maxRecDepth 10000 in
theorem wk_order_Run_happens (V : Vw) (Rs : List At) (p0 : List (List TEvent)) (p1 : List Tnd) (v1 : Value) (hs2 : List Value) (v4 : Value) (ow : Ow V (.oss (RO.os RT_TEvent) v1 hs2 p0 :: .os RT_Tnd v4 p1 :: Rs)) (r : List (List Bool)) (h : order_Run_happens p0 p1 = some r) : ∃ v V', Cl Try.prog 0 37 #[v1, v4] V.H v V'.H ∧ V.le V' ∧ (∃ (v6 : Value) (hs7 : List Value), v = v6 ∧ Ow V' (.oss (RO.os RT.bool) v6 hs7 r :: .oss (RO.os RT_TEvent) v1 hs2 p0 :: .os RT_Tnd v4 p1 :: Rs)) := by
 refine Ct.of (Nat.zero_le _) Try.func37 rfl (nr rfl) ?_
 unfold order_Run_happens at h
 refine WP.usreg rfl ?_
 refine U.p rfl rfl (.inl rfl) (S.assign rfl K) ?_
 refine U.done (nr rfl) ?_
 refine WP.usreg rfl ?_
 refine U.p rfl rfl (.inl rfl) (S.move rfl (L 2 rfl rfl)) ?_
 refine O.lit (R := (RT.fn fnt46)) ow rfl rfl (.inl rfl) rfl Try.underlying66 ti46 rfl rfl rfl (nr rfl) rfl (aC Fu (aC Fu aN)) (.cons _ _ 1 _ (by simp [topV]) ⟨_, rfl, rfl, _, rfl⟩ (.cons _ _ 5 _ (by simp [topV]) ⟨_, rfl, rfl, _, rfl⟩ .nil)) (fun _ => nd) (fun v9 V10 le11 ow12 => ?_)
 have ow14 := ow12.pick 2 rfl
 obtain ⟨x15, hx16, h17⟩ := bindS h
 refine O.call (V := V10) rfl rfl (.inl rfl) rfl en25 (aC (L 1 rfl rfl) (aC (L 0 rfl rfl) aN)) (wk_order_join V10 _ p1 [1, 5] v4 v9 ow14 _ hx16) (fun _ _ _ _ => nd) (fun v18 V19 le20 hp21 => ?_)
 obtain ⟨_, hs24, rfl, ow22⟩ := hp21
 obtain ⟨x26, hx27, h28⟩ := bindS h17
 refine O.call (V := V19) rfl rfl (.inl rfl) rfl en55 (aC (L 0 rfl rfl) aN) (wk_order_graph_closed V19 _ x15 v18 hs24 ow22 _ hx27) (fun _ _ _ _ => nd) (fun v29 V30 le31 hp32 => ?_)
 obtain ⟨_, hs35, rfl, ow33⟩ := hp32
 refine U.p rfl rfl (.inl rfl) (S.assign rfl (L 0 rfl rfl)) ?_
 refine U.done (nr rfl) ?_
 refine WP.ret ?_
 refine fin.slot (.inr rfl) rfl (L 0 rfl rfl) ⟨V30, rfl, ((le11.trans le20).trans le31), ?_⟩
 have ow37 := ow33.drop 1 rfl
 have ow38 := ow37.drop 2 rfl
 have ow39 := ow38.pick 1 rfl
 have ow40 := ow39.pick 2 rfl
 have ow41 := ow40.pick 2 rfl
 have e42 := Option.some.inj h28
 subst e42
 exact ⟨v29, hs35, rfl, ow41⟩
set_option maxHeartbeats 4000000 in
set_option maxRecDepth 10000 in
theorem wk_order_syncs (V : Vw) (Rs : List At) (p0 : TAct) (ow : Ow V (Rs)) (r : Bool) (h : order_syncs p0 = some r) : ∃ v V', Cl Try.prog 0 36 #[.agg #[.int .i64 p0.kind, .int .i64 p0.at_, .int .i64 p0.val, .int .i64 p0.what, .bool p0.volatile, .bool p0.final]] V.H v V'.H ∧ V.le V' ∧ (v = .bool r ∧ Ow V' (Rs)) := by
 refine Ct.of (Nat.zero_le _) Try.func36 rfl (nr rfl) ?_
 unfold order_syncs at h
 refine WP.usreg rfl ?_
 refine O.box ow rfl rfl (.inl rfl) rfl (L 0 rfl rfl) (by simp [topV]) rfl nd (fun b1 V2 le3 ow4 => ?_)
 refine U.p rfl rfl (.inl rfl) (S.assign rfl K) ?_
 refine U.done (nr rfl) ?_
 refine WP.usreg rfl ?_
 refine U.p (v := .pointer (some ⟨b1, 4, none⟩)) rfl rfl (.inl rfl) (S.fieldAddr rfl (L 1 rfl rfl) Try.underlying29 rfl ti4 rfl rfl) ?_
 refine U.k rfl rfl (.inl rfl) (S.load rfl (L 0 rfl rfl) Try.underlying4 rfl ((ow4.own (k := 0) rfl).cell rfl)) nd ?_
 refine U.p rfl rfl (.inl rfl) (S.move rfl (L 0 rfl rfl)) ?_
 refine U.joinX 12 (fun e H => ∃ (u6 u7 u8 u9 u10 u11 u12 u13 : Value), H = V2.H ∧ e = [(14, .bool (p0.volatile && ((decide (p0.kind = 1)) || (decide (p0.kind = 2))))), (13, u6), (12, u7), (11, u8), (10, u9), (9, u10), (8, u11), (7, u12), (6, u13)]) ?_ ?_
 ·rintro _ _ ⟨u6, u7, u8, u9, u10, u11, u12, u13, rfl, rfl⟩
  refine U.p rfl rfl (.inl rfl) (S.move rfl (L 0 rfl rfl)) ?_
  refine U.joinX 17 (fun e H => ∃ (u17 u18 u19 : Value), H = V2.H ∧ e = [(19, .bool ((p0.volatile && ((decide (p0.kind = 1)) || (decide (p0.kind = 2)))) || (decide (p0.kind = 5)))), (18, u17), (17, u18), (16, u19)]) ?_ ?_
  ·rintro _ _ ⟨u17, u18, u19, rfl, rfl⟩
   refine U.p rfl rfl (.inl rfl) (S.move rfl (L 0 rfl rfl)) ?_
   refine U.joinX 22 (fun e H => ∃ (u23 u24 u25 : Value), H = V2.H ∧ e = [(24, .bool (((p0.volatile && ((decide (p0.kind = 1)) || (decide (p0.kind = 2)))) || (decide (p0.kind = 5))) || (decide (p0.kind = 6)))), (23, u23), (22, u24), (21, u25)]) ?_ ?_
   ·rintro _ _ ⟨u23, u24, u25, rfl, rfl⟩
    refine U.p rfl rfl (.inl rfl) (S.assign rfl (L 0 rfl rfl)) ?_
    refine U.done (nr rfl) ?_
    refine WP.ret ?_
    refine fin.slot (.inr rfl) rfl (L 0 rfl rfl) ⟨V2, rfl, le3, ?_⟩
    have ow29 := ow4.drop 0 rfl
    have e30 := Option.some.inj h
    subst e30
    exact ⟨rfl, ow29⟩
   ·intro kk
    refine bcase (b := (p0.volatile && ((decide (p0.kind = 1)) || (decide (p0.kind = 2)))) || (decide (p0.kind = 5))) (fun g31 => ?_) (fun g31 => ?_)
    ·skip
     refine U.x rfl rfl rfl rfl ((L 0 rfl rfl).trans (congrArg Value.bool g31)) (by decide) ?_
     refine U.x rfl rfl rfl rfl ((L 1 rfl rfl).trans (congrArg Value.bool g31)) (by decide) ?_
     refine U.x rfl rfl rfl rfl ((L 2 rfl rfl).trans (congrArg Value.bool g31)) (by decide) ?_
     refine U.p rfl rfl (.inl rfl) (S.pickT rfl ((L 3 rfl rfl).trans (congrArg Value.bool g31)) K) ?_
     exact kk [(24, .bool true), (23, .tuple #[]), (22, .tuple #[]), (21, .tuple #[])] _ ⟨.tuple #[], .tuple #[], .tuple #[], rfl, (by rw [g31, Bool.true_or])⟩
    ·skip
     refine U.p (v := .pointer (some ⟨b1, 0, none⟩)) rfl rfl (.inr ⟨_, _, _, rfl, rfl, ((L 0 rfl rfl).trans (congrArg Value.bool g31))⟩) (S.fieldAddr rfl (L 19 rfl rfl) Try.underlying29 rfl ti3 rfl rfl) ?_
     refine U.k rfl rfl (.inr ⟨_, _, _, rfl, rfl, ((L 1 rfl rfl).trans (congrArg Value.bool g31))⟩) (S.load rfl (L 0 rfl rfl) Try.underlying3 rfl ((ow4.own (k := 0) rfl).cell rfl)) nd ?_
     refine U.p rfl rfl (.inr ⟨_, _, _, rfl, rfl, ((L 2 rfl rfl).trans (congrArg Value.bool g31))⟩) (S.eqlI rfl (L 0 rfl rfl) K) ?_
     refine U.p rfl rfl (.inl rfl) (S.pickF rfl ((L 3 rfl rfl).trans (congrArg Value.bool g31)) (L 0 rfl rfl)) ?_
     exact kk [(24, .bool (decide (p0.kind = 6))), (23, .bool (decide (p0.kind = 6))), (22, .int .i64 p0.kind), (21, .pointer (some ⟨b1, 0, none⟩))] _ ⟨.bool (decide (p0.kind = 6)), .int .i64 p0.kind, .pointer (some ⟨b1, 0, none⟩), rfl, (by rw [g31, Bool.false_or])⟩
  ·intro kk
   refine bcase (b := p0.volatile && ((decide (p0.kind = 1)) || (decide (p0.kind = 2)))) (fun g32 => ?_) (fun g32 => ?_)
   ·skip
    refine U.x rfl rfl rfl rfl ((L 0 rfl rfl).trans (congrArg Value.bool g32)) (by decide) ?_
    refine U.x rfl rfl rfl rfl ((L 1 rfl rfl).trans (congrArg Value.bool g32)) (by decide) ?_
    refine U.x rfl rfl rfl rfl ((L 2 rfl rfl).trans (congrArg Value.bool g32)) (by decide) ?_
    refine U.p rfl rfl (.inl rfl) (S.pickT rfl ((L 3 rfl rfl).trans (congrArg Value.bool g32)) K) ?_
    exact kk [(19, .bool true), (18, .tuple #[]), (17, .tuple #[]), (16, .tuple #[])] _ ⟨.tuple #[], .tuple #[], .tuple #[], rfl, (by rw [g32, Bool.true_or])⟩
   ·skip
    refine U.p (v := .pointer (some ⟨b1, 0, none⟩)) rfl rfl (.inr ⟨_, _, _, rfl, rfl, ((L 0 rfl rfl).trans (congrArg Value.bool g32))⟩) (S.fieldAddr rfl (L 14 rfl rfl) Try.underlying29 rfl ti3 rfl rfl) ?_
    refine U.k rfl rfl (.inr ⟨_, _, _, rfl, rfl, ((L 1 rfl rfl).trans (congrArg Value.bool g32))⟩) (S.load rfl (L 0 rfl rfl) Try.underlying3 rfl ((ow4.own (k := 0) rfl).cell rfl)) nd ?_
    refine U.p rfl rfl (.inr ⟨_, _, _, rfl, rfl, ((L 2 rfl rfl).trans (congrArg Value.bool g32))⟩) (S.eqlI rfl (L 0 rfl rfl) K) ?_
    refine U.p rfl rfl (.inl rfl) (S.pickF rfl ((L 3 rfl rfl).trans (congrArg Value.bool g32)) (L 0 rfl rfl)) ?_
    exact kk [(19, .bool (decide (p0.kind = 5))), (18, .bool (decide (p0.kind = 5))), (17, .int .i64 p0.kind), (16, .pointer (some ⟨b1, 0, none⟩))] _ ⟨.bool (decide (p0.kind = 5)), .int .i64 p0.kind, .pointer (some ⟨b1, 0, none⟩), rfl, (by rw [g32, Bool.false_or])⟩
 ·intro kk
  refine bcase (b := p0.volatile) (fun g33 => ?_) (fun g33 => ?_)
  ·skip
   refine U.p (v := .pointer (some ⟨b1, 0, none⟩)) rfl rfl (.inr ⟨_, _, _, rfl, rfl, ((L 0 rfl rfl).trans (congrArg Value.bool g33))⟩) (S.fieldAddr rfl (L 4 rfl rfl) Try.underlying29 rfl ti3 rfl rfl) ?_
   refine U.k rfl rfl (.inr ⟨_, _, _, rfl, rfl, ((L 1 rfl rfl).trans (congrArg Value.bool g33))⟩) (S.load rfl (L 0 rfl rfl) Try.underlying3 rfl ((ow4.own (k := 0) rfl).cell rfl)) nd ?_
   refine U.p rfl rfl (.inr ⟨_, _, _, rfl, rfl, ((L 2 rfl rfl).trans (congrArg Value.bool g33))⟩) (S.eqlI rfl (L 0 rfl rfl) K) ?_
   refine U.p rfl rfl (.inr ⟨_, _, _, rfl, rfl, ((L 3 rfl rfl).trans (congrArg Value.bool g33))⟩) (S.move rfl (L 0 rfl rfl)) ?_
   refine U.joinX 11 (fun e H => ∃ (u34 u35 u36 : Value), H = V2.H ∧ e = [(13, .bool ((decide (p0.kind = 1)) || (decide (p0.kind = 2)))), (12, u34), (11, u35), (10, u36)]) ?_ ?_
   ·rintro _ _ ⟨u34, u35, u36, rfl, rfl⟩
    refine U.p rfl rfl (.inl rfl) (S.pickT rfl ((L 8 rfl rfl).trans (congrArg Value.bool g33)) (L 0 rfl rfl)) ?_
    exact kk [(14, .bool ((decide (p0.kind = 1)) || (decide (p0.kind = 2)))), (13, .bool ((decide (p0.kind = 1)) || (decide (p0.kind = 2)))), (12, u34), (11, u35), (10, u36), (9, .bool (decide (p0.kind = 1))), (8, .bool (decide (p0.kind = 1))), (7, .int .i64 p0.kind), (6, .pointer (some ⟨b1, 0, none⟩))] _ ⟨.bool ((decide (p0.kind = 1)) || (decide (p0.kind = 2))), u34, u35, u36, .bool (decide (p0.kind = 1)), .bool (decide (p0.kind = 1)), .int .i64 p0.kind, .pointer (some ⟨b1, 0, none⟩), rfl, (by rw [g33, Bool.true_and])⟩
   ·intro kk
    refine bcase (b := decide (p0.kind = 1)) (fun g40 => ?_) (fun g40 => ?_)
    ·skip
     refine U.x rfl rfl rfl rfl ((L 0 rfl rfl).trans (congrArg Value.bool g40)) (by decide) ?_
     refine U.x rfl rfl rfl rfl ((L 1 rfl rfl).trans (congrArg Value.bool g40)) (by decide) ?_
     refine U.x rfl rfl rfl rfl ((L 2 rfl rfl).trans (congrArg Value.bool g40)) (by decide) ?_
     refine U.p rfl rfl (.inr ⟨_, _, _, rfl, rfl, ((L 7 rfl rfl).trans (congrArg Value.bool g33))⟩) (S.pickT rfl ((L 3 rfl rfl).trans (congrArg Value.bool g40)) K) ?_
     exact kk [(13, .bool true), (12, .tuple #[]), (11, .tuple #[]), (10, .tuple #[])] _ ⟨.tuple #[], .tuple #[], .tuple #[], rfl, (by rw [g40, Bool.true_or])⟩
    ·skip
     refine U.p (v := .pointer (some ⟨b1, 0, none⟩)) rfl rfl (.inr ⟨_, _, _, rfl, rfl, ((L 0 rfl rfl).trans (congrArg Value.bool g40))⟩) (S.fieldAddr rfl (L 8 rfl rfl) Try.underlying29 rfl ti3 rfl rfl) ?_
     refine U.k rfl rfl (.inr ⟨_, _, _, rfl, rfl, ((L 1 rfl rfl).trans (congrArg Value.bool g40))⟩) (S.load rfl (L 0 rfl rfl) Try.underlying3 rfl ((ow4.own (k := 0) rfl).cell rfl)) nd ?_
     refine U.p rfl rfl (.inr ⟨_, _, _, rfl, rfl, ((L 2 rfl rfl).trans (congrArg Value.bool g40))⟩) (S.eqlI rfl (L 0 rfl rfl) K) ?_
     refine U.p rfl rfl (.inr ⟨_, _, _, rfl, rfl, ((L 7 rfl rfl).trans (congrArg Value.bool g33))⟩) (S.pickF rfl ((L 3 rfl rfl).trans (congrArg Value.bool g40)) (L 0 rfl rfl)) ?_
     exact kk [(13, .bool (decide (p0.kind = 2))), (12, .bool (decide (p0.kind = 2))), (11, .int .i64 p0.kind), (10, .pointer (some ⟨b1, 0, none⟩))] _ ⟨.bool (decide (p0.kind = 2)), .int .i64 p0.kind, .pointer (some ⟨b1, 0, none⟩), rfl, (by rw [g40, Bool.false_or])⟩
  ·skip
   refine U.x rfl rfl rfl rfl ((L 0 rfl rfl).trans (congrArg Value.bool g33)) (by decide) ?_
   refine U.x rfl rfl rfl rfl ((L 1 rfl rfl).trans (congrArg Value.bool g33)) (by decide) ?_
   refine U.x rfl rfl rfl rfl ((L 2 rfl rfl).trans (congrArg Value.bool g33)) (by decide) ?_
   refine U.x rfl rfl rfl rfl ((L 3 rfl rfl).trans (congrArg Value.bool g33)) (by decide) ?_
   refine U.z rfl rfl rfl rfl (L 0 rfl rfl) ?_
   refine U.z rfl rfl rfl rfl (L 1 rfl rfl) ?_
   refine U.z rfl rfl rfl rfl (L 2 rfl rfl) ?_
   refine U.x rfl rfl rfl rfl ((L 7 rfl rfl).trans (congrArg Value.bool g33)) (by decide) ?_
   refine U.p rfl rfl (.inl rfl) (S.pickF rfl ((L 8 rfl rfl).trans (congrArg Value.bool g33)) K) ?_
   exact kk [(14, .bool false), (13, .tuple #[]), (12, .tuple #[]), (11, .tuple #[]), (10, .tuple #[]), (9, .tuple #[]), (8, .tuple #[]), (7, .tuple #[]), (6, .tuple #[])] _ ⟨.tuple #[], .tuple #[], .tuple #[], .tuple #[], .tuple #[], .tuple #[], .tuple #[], .tuple #[], rfl, (by rw [g33, Bool.false_and])⟩
end Go.Vm.GA21
