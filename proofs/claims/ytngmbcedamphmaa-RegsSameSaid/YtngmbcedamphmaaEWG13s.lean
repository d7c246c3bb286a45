/-
  What the functions compute is what the plain ones say, for all inputs at which those answer.
-/
import Derived.Test.YtngmbcedamphmaaEDG13s
import Derived.Test.YtngmbcedamphmaaProg
set_option linter.unusedSimpArgs false
set_option linter.unusedVariables false
namespace Go.Vm.G13s
open Go Go.Proofs
set_option maxHeartbeats 4000000
set_option maxRecDepth 10000
theorem ti3 : tinfo Try.prog 3 (.int .i64 0) 1 8 := by unfold tinfo; kernel_rfl
theorem ti4 : tinfo Try.prog 4 (.bool false) 1 1 := by unfold tinfo; kernel_rfl
theorem ti9 : tinfo Try.prog 9 (.string ByteArray.empty) 1 16 := by unfold tinfo; kernel_rfl
theorem ti22 : tinfo Try.prog 22 (.slice none 0 0) 1 24 := by unfold tinfo; kernel_rfl
theorem ti24 : tinfo Try.prog 24 (.agg #[.string ByteArray.empty, .int .i64 0, .int .i64 0, .slice none 0 0]) 4 56 := by unfold tinfo; kernel_rfl
theorem ti27 : tinfo Try.prog 27 (.slice none 0 0) 1 24 := by unfold tinfo; kernel_rfl
theorem ti29 : tinfo Try.prog 29 (.agg #[.int .i64 0, .int .i64 0, .int .i64 0, .int .i64 0, .int .i64 0, .slice none 0 0, .int .i64 0, .bool false, .bool false]) 9 80 := by unfold tinfo; kernel_rfl
theorem ti31 : tinfo Try.prog 31 (.agg #[.slice none 0 0, .int .i64 0]) 2 32 := by unfold tinfo; kernel_rfl
theorem ti43 : tinfo Try.prog 43 (.slice none 0 0) 1 24 := by unfold tinfo; kernel_rfl
theorem ti44 : tinfo Try.prog 44 (.slice none 0 0) 1 24 := by unfold tinfo; kernel_rfl
theorem ti46 : tinfo Try.prog 46 (.agg #[.slice none 0 0, .slice none 0 0, .slice none 0 0, .int .i64 0]) 4 80 := by unfold tinfo; kernel_rfl
theorem ti49 : tinfo Try.prog 49 (.agg #[.int .i64 0, .int .i64 0, .int .i64 0]) 3 24 := by unfold tinfo; kernel_rfl
theorem ti77 : tinfo Try.prog 77 (.slice none 0 0) 1 24 := by unfold tinfo; kernel_rfl
theorem ti99 : tinfo Try.prog 99 (.int .u64 0) 1 8 := by unfold tinfo; kernel_rfl
theorem pl24 : placesAre Try.prog 24 #[(0, 1), (1, 1), (2, 1), (3, 1)] := ⟨_, Try.underlying24, by kernel_rfl⟩
theorem pl29 : placesAre Try.prog 29 #[(0, 1), (1, 1), (2, 1), (3, 1), (4, 1), (5, 1), (6, 1), (7, 1), (8, 1)] := ⟨_, Try.underlying29, by kernel_rfl⟩
theorem pl31 : placesAre Try.prog 31 #[(0, 1), (1, 1)] := ⟨_, Try.underlying31, by kernel_rfl⟩
theorem pl46 : placesAre Try.prog 46 #[(0, 1), (1, 1), (2, 1), (3, 1)] := ⟨_, Try.underlying46, by kernel_rfl⟩
theorem pl49 : placesAre Try.prog 49 #[(0, 1), (1, 1), (2, 1)] := ⟨_, Try.underlying49, by kernel_rfl⟩
theorem en6 : enterable Try.prog 6 := ⟨Try.f6, Try.func6, by kernel_rfl, Z⟩
theorem en7 : enterable Try.prog 7 := ⟨Try.f7, Try.func7, by kernel_rfl, Z⟩
theorem en8 : enterable Try.prog 8 := ⟨Try.f8, Try.func8, by kernel_rfl, Z⟩
theorem en10 : enterable Try.prog 10 := ⟨Try.f10, Try.func10, by kernel_rfl, Z⟩
theorem en14 : enterable Try.prog 14 := ⟨Try.f14, Try.func14, by kernel_rfl, Z⟩
theorem en15 : enterable Try.prog 15 := ⟨Try.f15, Try.func15, by kernel_rfl, Z⟩
theorem en16 : enterable Try.prog 16 := ⟨Try.f16, Try.func16, by kernel_rfl, Z⟩
theorem en17 : enterable Try.prog 17 := ⟨Try.f17, Try.func17, by kernel_rfl, Z⟩
theorem en18 : enterable Try.prog 18 := ⟨Try.f18, Try.func18, by kernel_rfl, Z⟩
theorem en20 : enterable Try.prog 20 := ⟨Try.f20, Try.func20, by kernel_rfl, Z⟩
theorem en21 : enterable Try.prog 21 := ⟨Try.f21, Try.func21, by kernel_rfl, Z⟩
theorem en23 : enterable Try.prog 23 := ⟨Try.f23, Try.func23, by kernel_rfl, Z⟩
theorem en24 : enterable Try.prog 24 := ⟨Try.f24, Try.func24, by kernel_rfl, Z⟩
theorem en25 : enterable Try.prog 25 := ⟨Try.f25, Try.func25, by kernel_rfl, Z⟩
theorem en26 : enterable Try.prog 26 := ⟨Try.f26, Try.func26, by kernel_rfl, Z⟩
theorem en27 : enterable Try.prog 27 := ⟨Try.f27, Try.func27, by kernel_rfl, Z⟩
theorem en28 : enterable Try.prog 28 := ⟨Try.f28, Try.func28, by kernel_rfl, Z⟩
theorem en29 : enterable Try.prog 29 := ⟨Try.f29, Try.func29, by kernel_rfl, Z⟩
theorem en30 : enterable Try.prog 30 := ⟨Try.f30, Try.func30, by kernel_rfl, Z⟩
theorem en31 : enterable Try.prog 31 := ⟨Try.f31, Try.func31, by kernel_rfl, Z⟩
theorem en32 : enterable Try.prog 32 := ⟨Try.f32, Try.func32, by kernel_rfl, Z⟩
theorem en33 : enterable Try.prog 33 := ⟨Try.f33, Try.func33, by kernel_rfl, Z⟩
theorem en34 : enterable Try.prog 34 := ⟨Try.f34, Try.func34, by kernel_rfl, Z⟩
theorem en35 : enterable Try.prog 35 := ⟨Try.f35, Try.func35, by kernel_rfl, Z⟩
theorem en38 : enterable Try.prog 38 := ⟨Try.f38, Try.func38, by kernel_rfl, Z⟩
theorem en39 : enterable Try.prog 39 := ⟨Try.f39, Try.func39, by kernel_rfl, Z⟩
theorem en40 : enterable Try.prog 40 := ⟨Try.f40, Try.func40, by kernel_rfl, Z⟩
theorem en41 : enterable Try.prog 41 := ⟨Try.f41, Try.func41, by kernel_rfl, Z⟩
theorem en42 : enterable Try.prog 42 := ⟨Try.f42, Try.func42, by kernel_rfl, Z⟩
theorem en43 : enterable Try.prog 43 := ⟨Try.f43, Try.func43, by kernel_rfl, Z⟩
theorem en44 : enterable Try.prog 44 := ⟨Try.f44, Try.func44, by kernel_rfl, Z⟩
theorem en45 : enterable Try.prog 45 := ⟨Try.f45, Try.func45, by kernel_rfl, Z⟩
theorem en47 : enterable Try.prog 47 := ⟨Try.f47, Try.func47, by kernel_rfl, Z⟩
theorem en48 : enterable Try.prog 48 := ⟨Try.f48, Try.func48, by kernel_rfl, Z⟩
theorem en49 : enterable Try.prog 49 := ⟨Try.f49, Try.func49, by kernel_rfl, Z⟩
theorem en50 : enterable Try.prog 50 := ⟨Try.f50, Try.func50, by kernel_rfl, Z⟩
theorem en51 : enterable Try.prog 51 := ⟨Try.f51, Try.func51, by kernel_rfl, Z⟩
theorem en52 : enterable Try.prog 52 := ⟨Try.f52, Try.func52, by kernel_rfl, Z⟩
theorem en53 : enterable Try.prog 53 := ⟨Try.f53, Try.func53, by kernel_rfl, Z⟩
theorem en54 : enterable Try.prog 54 := ⟨Try.f54, Try.func54, by kernel_rfl, Z⟩
theorem en55 : enterable Try.prog 55 := ⟨Try.f55, Try.func55, by kernel_rfl, Z⟩
theorem en56 : enterable Try.prog 56 := ⟨Try.f56, Try.func56, by kernel_rfl, Z⟩
theorem en58 : enterable Try.prog 58 := ⟨Try.f58, Try.func58, by kernel_rfl, Z⟩
theorem en59 : enterable Try.prog 59 := ⟨Try.f59, Try.func59, by kernel_rfl, Z⟩
theorem en60 : enterable Try.prog 60 := ⟨Try.f60, Try.func60, by kernel_rfl, Z⟩
theorem en61 : enterable Try.prog 61 := ⟨Try.f61, Try.func61, by kernel_rfl, Z⟩
theorem en62 : enterable Try.prog 62 := ⟨Try.f62, Try.func62, by kernel_rfl, Z⟩
theorem en63 : enterable Try.prog 63 := ⟨Try.f63, Try.func63, by kernel_rfl, Z⟩
theorem en64 : enterable Try.prog 64 := ⟨Try.f64, Try.func64, by kernel_rfl, Z⟩
theorem en65 : enterable Try.prog 65 := ⟨Try.f65, Try.func65, by kernel_rfl, Z⟩
theorem en66 : enterable Try.prog 66 := ⟨Try.f66, Try.func66, by kernel_rfl, Z⟩
theorem wk_flow_grow_c1 (V : Vw) (Rs : List At) (p0 : Tflow_Span) (p1 : Int) (b1 : Nat) (z2 : Nat) (ow : Ow V (.pt b1 (.cells z2 [.int .i64 p1]) :: Rs)) (r : Bool) (h : flow_grow_c1 p0 p1 = some r) : ∃ v V', Cl Try.prog 0 40 #[.agg #[.int .i64 p0.reg, .int .i64 p0.from_, .int .i64 p0.to_], .pointer (some ⟨b1, 0, none⟩)] V.H v V'.H ∧ V.le V' ∧ (v = .bool r ∧ Ow V' (.pt b1 (.cells z2 [.int .i64 p1]) :: Rs)) := by
 refine Ct.of (Nat.zero_le _) Try.func40 Z (nr Z) ?_
 unfold flow_grow_c1 at h
 refine WP.usreg Z ?_
 refine O.box ow Z Z (.inl Z) Z (L 0 Z Z) (by simp [topV]) Z nd (fun b4 V5 le6 ow7 => ?_)
 refine U.p Z Z (.inl Z) (S.assign Z K) ?_
 refine U.done (nr Z) ?_
 refine WP.usreg Z ?_
 refine U.p (v := .pointer (some ⟨b4, 0, none⟩)) Z Z (.inl Z) (S.fieldAddr Z (L 1 Z Z) Try.underlying49 Z ti3 Z Z) ?_
 refine U.k Z Z (.inl Z) (S.load Z (L 0 Z Z) Try.underlying3 Z ((ow7.own (k := 0) Z).cell Z)) nd ?_
 refine U.k Z Z (.inl Z) (S.load Z (L 5 Z Z) Try.underlying3 Z ((ow7.own (k := 1) Z).cell Z)) nd ?_
 refine U.p Z Z (.inl Z) (S.eqlI Z (L 1 Z Z) (L 0 Z Z)) ?_
 refine U.p Z Z (.inl Z) (S.assign Z (L 0 Z Z)) ?_
 refine U.done (nr Z) ?_
 refine WP.ret ?_
 refine fin.slot (.inr Z) Z (L 0 Z Z) ⟨V5, Z, le6, ?_⟩
 have ow9 := ow7.drop 0 Z
 have e10 := Option.some.inj h
 subst e10
 exact ⟨rfl, ow9⟩
theorem wk_slices_IndexFunc_2 (V : Vw) (Rs : List At) (p0 : List Tflow_Span) (p1_10 : Int) (v1 : Value) (b3 : Nat) (z4 : Nat) (ow : Ow V (.os RT_Tflow_Span v1 p0 :: .pt b3 (.cells z4 [.int .i64 p1_10]) :: Rs)) (r : Int) (h : slices_IndexFunc_2 p0 p1_10 = some r) : ∃ v V', Cl Try.prog 0 39 #[v1, .func (.func 40) #[] #[.pointer (some ⟨b3, 0, none⟩)]] V.H v V'.H ∧ V.le V' ∧ (v = .int .i64 r ∧ Ow V' (.os RT_Tflow_Span v1 p0 :: .pt b3 (.cells z4 [.int .i64 p1_10]) :: Rs)) := by
 refine Ct.of (Nat.zero_le _) Try.func39 Z (nr Z) ?_
 unfold slices_IndexFunc_2 at h
 refine WP.usreg Z ?_
 refine U.p Z Z (.inl Z) (S.assign Z K) ?_
 refine U.done (nr Z) ?_
 refine WP.seq ?_
 refine WP.usreg Z ?_
 refine U.p Z Z (.inl Z) (S.move Z (L 1 Z Z)) ?_
 refine U.p Z Z (.inl Z) (ow.oslen (k := 0) Z Z (L 0 Z Z) Try.underlying44) ?_
 refine U.p Z Z (.inl Z) (S.move Z K) ?_
 refine U.done (nr Z) ?_
 refine WP.blk ?_
 unfold slices_IndexFunc_2_l1 at h
 obtain ⟨n8, hn7⟩ := loopO_some.1 h
 refine WP.loopI2 (fun n l V' => ∃ (x6 : Int), l = [(0, v1), (1, .func (.func 40) #[] #[.pointer (some ⟨b3, 0, none⟩)]), (7, .int .i64 (p0.length : Int)), (8, .int .i64 x6)] ∧ V.le V' ∧ Ow V' (.os RT_Tflow_Span v1 p0 :: .pt b3 (.cells z4 [.int .i64 p1_10]) :: Rs) ∧ itO (fun s => slices_IndexFunc_2_l1b p0 p1_10 s) n x6 = some r) n8 _ ⟨0, Z, .refl _, ow, hn7⟩ (allCons (L 4 Z Z) (allCons (L 5 Z Z) (allCons (L 1 Z Z) (allCons (L 0 Z Z) allNil)))) ?_
 rintro _ _ V9 ⟨x6, rfl, le10, ow11, h15⟩
 obtain ⟨m12, q13, rfl, h16, e14⟩ := itS h15
 replace h16 : slices_IndexFunc_2_l1b p0 p1_10 x6 = some q13 := h16
 unfold slices_IndexFunc_2_l1b at h16
 refine WP.usreg Z ?_
 refine U.p Z Z (.inl Z) (S.lss Z (L 3 Z Z) (L 2 Z Z)) ?_
 refine U.done (nr Z) ?_
 refine WP.seq ?_
 refine WP.cond _ (L 0 Z Z) Z (fun c17 => ?_) (fun c17 => ?_)
 ·have h18 := ifT c17 h16
  refine WP.skip ?_
  refine sqN ?_
  refine WP.seq ?_
  refine WP.blk ?_
  refine WP.usreg Z ?_
  refine U.p Z Z (.inl Z) (S.move Z (L 4 Z Z)) ?_
  refine U.p Z Z (.inl Z) (S.assign Z (L 0 Z Z)) ?_
  refine U.done (nr Z) ?_
  refine WP.usreg Z ?_
  refine U.p Z Z (.inl Z) (S.move Z (L 4 Z Z)) ?_
  refine U.p Z Z (.inl Z) (S.move Z (L 4 Z Z)) ?_
  refine U.p Z Z (.inl Z) (S.move Z (L 2 Z Z)) ?_
  obtain ⟨x19, hx20, h21⟩ := bindS h18
  obtain ⟨b22, o23, n24, c25, hv26⟩ := ow11.ospt (k := 0) Z hx20
  obtain ⟨_, hv27, _⟩ := ow11.osel (k := 0) Z hv26 hx20
  refine U.p Z Z (.inl Z) (S.index Z ((L 1 Z Z).trans hv27) (L 0 Z Z) Try.underlying44 ti49 (ix_ge hx20) (ix_lt hx20)) ?_
  obtain ⟨cs28, hv29, hlt30, hr31, hc32⟩ := ow11.osel (k := 0) Z hv26 hx20
  obtain rfl : cs28 = [.int .i64 x19.reg, .int .i64 x19.from_, .int .i64 x19.to_] := hr31
  refine U.k Z Z (.inl Z) (S.loadN (cs := [.int .i64 x19.reg, .int .i64 x19.from_, .int .i64 x19.to_]) Z (L 0 Z Z) Try.underlying49 Z ti49 Z hc32) nd ?_
  have ow33 := ow11.pick 1 Z
  obtain ⟨x34, hx35, h36⟩ := bindS h21
  refine O.callv (V := V9) Z Z (.inl Z) Z (L 4 Z Z) en40 (aC (L 0 Z Z) aN) (wk_flow_grow_c1 V9 _ x19 p1_10 b3 z4 ow33 _ hx35) (fun _ _ _ _ => nd) (fun v37 V38 le39 hp40 => ?_)
  obtain ⟨rfl, ow41⟩ := hp40
  refine U.done (nr Z) ?_
  refine WP.cond _ (L 0 Z Z) Z (fun c42 => ?_) (fun c42 => ?_)
  ·have h43 := ifT c42 h36
   refine WP.usreg Z ?_
   refine U.p Z Z (.inl Z) (S.move Z (L 6 Z Z)) ?_
   refine U.p Z Z (.inl Z) (S.assign Z (L 0 Z Z)) ?_
   refine U.done (nr Z) ?_
   refine WP.ret ?_
   refine blkR (sqR (sqR (blkR (sqR ?_))))
   have h44 := exitS h43 e14
   refine fin.slot (.inr Z) Z (L 0 Z Z) ⟨V38, Z, (le10.trans le39), ?_⟩
   have ow45 := ow41.pick 0 Z
   have ow46 := ow45.pick 1 Z
   have e47 := Option.some.inj h44
   subst e47
   exact ⟨rfl, ow46⟩
  ·have h48 := ifF c42 h36
   refine WP.skip ?_
   refine blkN (sqN ?_)
   refine WP.ureg Z ?_
   refine U.p Z Z (.inl Z) (S.add Z (L 12 Z Z) K) ?_
   refine U.p Z Z (.inl Z) (S.move Z (L 0 Z Z)) ?_
   refine U.done (nr Z) ?_
   refine sqN ?_
   have ow49 := ow41.pick 0 Z
   have ow50 := ow49.pick 1 Z
   exact ⟨_, V38, Z, ⟨m12, Nat.lt_succ_self _, w64 (x6 + 1), Z, (le10.trans le39), ow50, backS h48 e14⟩, (allCons (L 11 Z Z) (allCons (L 12 Z Z) (allCons (L 13 Z Z) (allCons (L 0 Z Z) allNil))))⟩
 ·have h51 := ifF c17 h16
  refine WP.exit ?_
  refine sqE (sqE (blkE (sqN ?_)))
  have h52 := exitS h51 e14
  refine WP.usreg Z ?_
  refine U.p Z Z (.inl Z) (S.assign Z K) ?_
  refine U.done (nr Z) ?_
  refine WP.ret ?_
  refine fin.slot (.inr Z) Z (L 0 Z Z) ⟨V9, Z, le10, ?_⟩
  have e53 := Option.some.inj h52
  subst e53
  exact ⟨rfl, ow11⟩
theorem wk_flow_grow (V : Vw) (Rs : List At) (p0 : List Tflow_Span) (p1 : Int) (p2 : Int) (v1 : Value) (ow : Ow V (.os RT_Tflow_Span v1 p0 :: Rs)) (r : List Tflow_Span) (h : flow_grow p0 p1 p2 = some r) : ∃ v V', Cl Try.prog 0 26 #[v1, .int .i64 p1, .int .i64 p2] V.H v V'.H ∧ V.le V' ∧ (∃ (v3 : Value), v = v3 ∧ Ow V' (.os RT_Tflow_Span v3 r :: Rs)) := by
 refine Ct.of (Nat.zero_le _) Try.func26 Z (nr Z) ?_
 unfold flow_grow at h
 refine WP.usreg Z ?_
 refine O.box ow Z Z (.inl Z) Z (L 1 Z Z) (by simp [topV]) Z nd (fun b5 V6 le7 ow8 => ?_)
 refine U.p Z Z (.inl Z) (S.assign Z K) ?_
 refine U.done (nr Z) ?_
 refine WP.usreg Z ?_
 refine U.p Z Z (.inl Z) (S.move Z (L 2 Z Z)) ?_
 refine U.p (v := .func (.func 40) #[] #[.pointer (some ⟨b5, 0, none⟩)]) Z Z (.inl Z) (S.makeFunc' Z (amN) (am1 (L 2 Z Z))) ?_
 have ow10 := ow8.pick 1 Z
 obtain ⟨x11, hx12, h13⟩ := bindS h
 refine O.call (V := V6) Z Z (.inl Z) Z en39 (aC (L 1 Z Z) (aC (L 0 Z Z) aN)) (wk_slices_IndexFunc_2 V6 _ p0 p1 v1 b5 0 ow10 _ hx12) (fun _ _ _ _ => nd) (fun v14 V15 le16 hp17 => ?_)
 obtain ⟨rfl, ow18⟩ := hp17
 refine U.p Z Z (.inl Z) (S.assign Z (L 0 Z Z)) ?_
 refine U.done (nr Z) ?_
 refine WP.seq ?_
 refine WP.usreg Z ?_
 refine U.p Z Z (.inl Z) (S.move Z (L 0 Z Z)) ?_
 refine U.p Z Z (.inl Z) (S.lss Z (L 0 Z Z) K) ?_
 refine U.done (nr Z) ?_
 refine WP.cond _ (L 0 Z Z) Z (fun c19 => ?_) (fun c19 => ?_)
 ·have h20 := ifT c19 h13
  refine WP.usreg Z ?_
  refine U.p Z Z (.inl Z) (S.move Z (L 8 Z Z)) ?_
  refine U.k Z Z (.inl Z) (S.load Z (L 8 Z Z) Try.underlying3 Z ((ow18.own (k := 1) Z).cell Z)) nd ?_
  refine U.p Z Z (.inl Z) (S.move Z (L 12 Z Z)) ?_
  refine U.p Z Z (.inl Z) (S.move Z (L 13 Z Z)) ?_
  refine U.p (v := .agg #[.int .i64 p1, .int .i64 p2, .int .i64 p2]) Z Z (.inl Z) (S.build (vs := [.int .i64 p1, .int .i64 p2, .int .i64 p2]) Z ti49 Z pl49 (aC (L 2 Z Z) (aC (L 1 Z Z) (aC (L 0 Z Z) aN))) (allC (by simp [topV]) (allC (by simp [topV]) (allC (by simp [topV]) allN))) Z) ?_
  refine O.lit (R := RT_Tflow_Span) ow18 Z Z (.inl Z) Z Try.underlying44 ti49 Z Z Z (nr Z) Z (aC (L 0 Z Z) aN) (.cons _ _ (⟨p1, p2, p2⟩ : Tflow_Span) _ (by simp [topV]) Z .nil) (fun _ => nd) (fun v21 V22 le23 ow24 => ?_)
  obtain ⟨xs26, hx27, h28⟩ := bindS h20
  refine O.append (k := 1) ow24 Z Z Z (.inl Z) Z (L 5 Z Z) (L 0 Z Z) Try.underlying44 ti49 Z Z (nr Z) (ow24.src (k := 0) Z Try.underlying44) hx27 (fun _ _ => nd) (fun v29 V30 le31 ow32 => ?_)
  refine U.p Z Z (.inl Z) (S.assign Z (L 0 Z Z)) ?_
  refine U.done (nr Z) ?_
  refine WP.ret ?_
  refine sqR ?_
  refine fin.slot (.inr Z) Z (L 0 Z Z) ⟨V30, Z, (((le7.trans le16).trans le23).trans le31), ?_⟩
  have ow34 := ow32.drop 0 Z
  have ow35 := ow34.drop 1 Z
  have e36 := Option.some.inj h28
  subst e36
  exact ⟨v29, Z, ow35⟩
 ·have h37 := ifF c19 h13
  refine WP.skip ?_
  refine sqN ?_
  refine WP.usdreg Z Z Z ?_
  refine U.p Z Z (.inl Z) (S.move Z (L 8 Z Z)) ?_
  refine U.p Z Z (.inl Z) (S.move Z (L 3 Z Z)) ?_
  refine U.p Z Z (.inl Z) (S.move Z (L 10 Z Z)) ?_
  refine U.p Z Z (.inl Z) (S.move Z (L 5 Z Z)) ?_
  refine U.p Z Z (.inl Z) (S.move Z (L 12 Z Z)) ?_
  refine U.p Z Z (.inl Z) (S.move Z (L 7 Z Z)) ?_
  obtain ⟨x38, hx39, h40⟩ := bindS h37
  obtain ⟨b41, o42, n43, c44, hv45⟩ := ow18.ospt (k := 0) Z hx39
  obtain ⟨_, hv46, _⟩ := ow18.osel (k := 0) Z hv45 hx39
  refine U.p Z Z (.inl Z) (S.index Z ((L 1 Z Z).trans hv46) (L 0 Z Z) Try.underlying44 ti49 (ix_ge hx39) (ix_lt hx39)) ?_
  refine U.p (v := .pointer (some ⟨b41, o42 + Int.toNat x11 * 3 + 1, none⟩)) Z Z (.inl Z) (S.fieldAddr Z (L 0 Z Z) Try.underlying49 Z ti3 Z Z) ?_
  obtain ⟨cs47, hv48, hlt49, hr50, hc51⟩ := ow18.osel (k := 0) Z hv45 hx39
  obtain rfl : cs47 = [.int .i64 x38.reg, .int .i64 x38.from_, .int .i64 x38.to_] := hr50
  refine U.k Z Z (.inl Z) (S.load Z (L 0 Z Z) Try.underlying3 Z (hc51 1 _ Z)) (fun _ => (okH.nil (fun r h => by cases h; exact hlt49))) ?_
  refine U.p Z Z (.inl Z) (S.move Z (L 19 Z Z)) ?_
  refine U.p Z Z (.inl Z) (S.minI Z (L 1 Z Z) (L 0 Z Z)) ?_
  refine U.p Z Z (.inl Z) (S.move Z (L 19 Z Z)) ?_
  refine U.p Z Z (.inl Z) (S.move Z (L 14 Z Z)) ?_
  obtain ⟨x52, hx53, h54⟩ := bindS h40
  obtain ⟨_, hv55, _⟩ := ow18.osel (k := 0) Z hv45 hx53
  refine U.p Z Z (.inl Z) (S.index Z ((L 1 Z Z).trans hv55) (L 0 Z Z) Try.underlying44 ti49 (ix_ge hx53) (ix_lt hx53)) ?_
  refine U.p (v := .pointer (some ⟨b41, o42 + Int.toNat x11 * 3 + 2, none⟩)) Z Z (.inl Z) (S.fieldAddr Z (L 0 Z Z) Try.underlying49 Z ti3 Z Z) ?_
  obtain ⟨cs56, hv57, hlt58, hr59, hc60⟩ := ow18.osel (k := 0) Z hv45 hx53
  obtain rfl : cs56 = [.int .i64 x52.reg, .int .i64 x52.from_, .int .i64 x52.to_] := hr59
  refine U.k Z Z (.inl Z) (S.load Z (L 0 Z Z) Try.underlying3 Z (hc60 2 _ Z)) (fun _ => (okH.cons trivial (okH.nil (fun r h => by cases h; exact hlt58)))) ?_
  refine U.p Z Z (.inl Z) (S.move Z (L 26 Z Z)) ?_
  refine U.p Z Z (.inl Z) (S.maxI Z (L 1 Z Z) (L 0 Z Z)) ?_
  obtain ⟨x61, hx62, h63⟩ := bindS h54
  obtain ⟨_, hv64, _⟩ := ow18.osel (k := 0) Z hv45 hx62
  refine U.p Z Z (.inl Z) (S.index Z ((L 17 Z Z).trans hv64) (L 16 Z Z) Try.underlying44 ti49 (ix_ge hx62) (ix_lt hx62)) ?_
  refine U.p (v := .pointer (some ⟨b41, o42 + Int.toNat x11 * 3 + 1, none⟩)) Z Z (.inl Z) (S.fieldAddr Z (L 0 Z Z) Try.underlying49 Z ti3 Z Z) ?_
  obtain ⟨cs65, hv66, hlt67, hr68, hc69⟩ := ow18.osel (k := 0) Z hv45 hx62
  obtain rfl : cs65 = [.int .i64 x61.reg, .int .i64 x61.from_, .int .i64 x61.to_] := hr68
  refine O.storeE (k := 0) (R := RT_Tflow_Span) (j := 1) (y := (⟨x61.reg, min x38.from_ p2, x61.to_⟩ : Tflow_Span)) (cs := [.int .i64 (min x38.from_ p2)]) ow18 Z hv66 Z Z (.inl Z) Z (L 0 Z Z) (L 9 Z Z) ti3 hx62 (by simp [topV]) Z Z Z (fun r hr => by obtain rfl : r = _ := hr; exact ⟨nr Z, Z⟩) (fun H1 hs => (fun _ => (okH.cons (Or.inl Z) (okH.cons (Or.inl Z) (okH.nil (fun r h => nomatch h)))))) (fun V70 le71 ow72 => ?_)
  obtain ⟨x73, hx74, h75⟩ := bindS h63
  obtain ⟨_, hv76, _⟩ := ow72.osel (k := 0) Z hv45 hx74
  refine U.p Z Z (.inl Z) (S.index Z ((L 17 Z Z).trans hv76) (L 16 Z Z) Try.underlying44 ti49 (ix_ge hx74) (ix_lt hx74)) ?_
  refine U.p (v := .pointer (some ⟨b41, o42 + Int.toNat x11 * 3 + 2, none⟩)) Z Z (.inl Z) (S.fieldAddr Z (L 0 Z Z) Try.underlying49 Z ti3 Z Z) ?_
  obtain ⟨cs77, hv78, hlt79, hr80, hc81⟩ := ow72.osel (k := 0) Z hv45 hx74
  obtain rfl : cs77 = [.int .i64 x73.reg, .int .i64 x73.from_, .int .i64 x73.to_] := hr80
  refine O.storeE (k := 0) (R := RT_Tflow_Span) (j := 2) (y := (⟨x73.reg, x73.from_, max x52.to_ p2⟩ : Tflow_Span)) (cs := [.int .i64 (max x52.to_ p2)]) ow72 Z hv78 Z Z (.inl Z) Z (L 0 Z Z) (L 4 Z Z) ti3 hx74 (by simp [topV]) Z Z Z (fun r hr => by obtain rfl : r = _ := hr; exact ⟨nr Z, Z⟩) (fun H1 hs => (fun _ => (okH.cons Z (okH.cons (Or.inl Z) (okH.cons (Or.inl Z) (okH.nil (fun r h => nomatch h))))))) (fun V82 le83 ow84 => ?_)
  refine U.done (nr Z) ?_
  refine WP.usreg Z ?_
  refine U.p Z Z (.inl Z) (S.move Z (L 30 Z Z)) ?_
  refine U.p Z Z (.inl Z) (S.assign Z (L 0 Z Z)) ?_
  refine U.done (nr Z) ?_
  refine WP.ret ?_
  refine fin.slot (.inr Z) Z (L 0 Z Z) ⟨V82, Z, (((le7.trans le16).trans le71).trans le83), ?_⟩
  have ow85 := ow84.drop 1 Z
  have e86 := Option.some.inj h75
  subst e86
  exact ⟨v1, Z, ow85⟩
theorem wk_flow_place_c1 (V : Vw) (Rs : List At) (p0 : TIns) (p1 : Int) (v1 : Value) (b3 : Nat) (z4 : Nat) (f2 : Fz (RT.int .i64) V v1 p0.args) (ow : Ow V (.pt b3 (.cells z4 [.int .i64 p1]) :: Rs)) (r : Bool) (h : flow_place_c1 p0 p1 = some r) : ∃ v V', Cl Try.prog 0 60 #[.agg #[.int .i64 p0.op, .int .i64 p0.d, .int .i64 p0.a, .int .i64 p0.b, .int .i64 p0.imm, v1, .int .i64 p0.what, .bool p0.volatile, .bool p0.final], .pointer (some ⟨b3, 0, none⟩)] V.H v V'.H ∧ V.le V' ∧ (v = .bool r ∧ Ow V' (.pt b3 (.cells z4 [.int .i64 p1]) :: Rs)) := by
 refine Ct.of (Nat.zero_le _) Try.func60 Z (nr Z) ?_
 unfold flow_place_c1 at h
 refine WP.usreg Z ?_
 refine O.box ow Z Z (.inl Z) Z (L 0 Z Z) (by simp [topV]) Z nd (fun b6 V7 le8 ow9 => ?_)
 refine U.p Z Z (.inl Z) (S.assign Z K) ?_
 refine U.done (nr Z) ?_
 refine WP.usreg Z ?_
 refine U.p (v := .pointer (some ⟨b6, 0, none⟩)) Z Z (.inl Z) (S.fieldAddr Z (L 1 Z Z) Try.underlying29 Z ti3 Z Z) ?_
 refine U.k Z Z (.inl Z) (S.load Z (L 0 Z Z) Try.underlying3 Z ((ow9.own (k := 0) Z).cell Z)) nd ?_
 refine U.p Z Z (.inl Z) (S.eqlI Z (L 0 Z Z) K) ?_
 refine U.p Z Z (.inl Z) (S.move Z (L 0 Z Z)) ?_
 refine U.joinX 9 (fun e H => ∃ (u11 u12 u13 u14 : Value), H = V7.H ∧ e = [(12, .bool ((decide (p0.op = 11)) && (decide (p0.imm = p1)))), (11, u11), (10, u12), (9, u13), (8, u14)]) ?_ ?_
 ·rintro _ _ ⟨u11, u12, u13, u14, rfl, rfl⟩
  refine U.p Z Z (.inl Z) (S.assign Z (L 0 Z Z)) ?_
  refine U.done (nr Z) ?_
  refine WP.ret ?_
  refine fin.slot (.inr Z) Z (L 0 Z Z) ⟨V7, Z, le8, ?_⟩
  have ow18 := ow9.drop 0 Z
  have e19 := Option.some.inj h
  subst e19
  exact ⟨rfl, ow18⟩
 ·intro kk
  refine bcase (b := decide (p0.op = 11)) (fun g20 => ?_) (fun g20 => ?_)
  ·skip
   refine U.p (v := .pointer (some ⟨b6, 4, none⟩)) Z Z (.inr ⟨_, _, _, Z, Z, ((L 0 Z Z).trans (cB g20))⟩) (S.fieldAddr Z (L 5 Z Z) Try.underlying29 Z ti3 Z Z) ?_
   refine U.k Z Z (.inr ⟨_, _, _, Z, Z, ((L 1 Z Z).trans (cB g20))⟩) (S.load Z (L 0 Z Z) Try.underlying3 Z ((ow9.own (k := 0) Z).cell Z)) nd ?_
   refine U.k Z Z (.inr ⟨_, _, _, Z, Z, ((L 2 Z Z).trans (cB g20))⟩) (S.load Z (L 9 Z Z) Try.underlying3 Z ((ow9.own (k := 1) Z).cell Z)) nd ?_
   refine U.p Z Z (.inr ⟨_, _, _, Z, Z, ((L 3 Z Z).trans (cB g20))⟩) (S.eqlI Z (L 1 Z Z) (L 0 Z Z)) ?_
   refine U.p Z Z (.inl Z) (S.pickT Z ((L 4 Z Z).trans (cB g20)) (L 0 Z Z)) ?_
   exact kk [(12, .bool (decide (p0.imm = p1))), (11, .bool (decide (p0.imm = p1))), (10, .int .i64 p1), (9, .int .i64 p0.imm), (8, .pointer (some ⟨b6, 4, none⟩))] _ ⟨.bool (decide (p0.imm = p1)), .int .i64 p1, .int .i64 p0.imm, .pointer (some ⟨b6, 4, none⟩), Z, (by rw [g20, Bool.true_and])⟩
  ·skip
   refine U.x Z Z Z Z ((L 0 Z Z).trans (cB g20)) (by decide) ?_
   refine U.x Z Z Z Z ((L 1 Z Z).trans (cB g20)) (by decide) ?_
   refine U.x Z Z Z Z ((L 2 Z Z).trans (cB g20)) (by decide) ?_
   refine U.x Z Z Z Z ((L 3 Z Z).trans (cB g20)) (by decide) ?_
   refine U.p Z Z (.inl Z) (S.pickF Z ((L 4 Z Z).trans (cB g20)) K) ?_
   exact kk [(12, .bool false), (11, .tuple #[]), (10, .tuple #[]), (9, .tuple #[]), (8, .tuple #[])] _ ⟨.tuple #[], .tuple #[], .tuple #[], .tuple #[], Z, (by rw [g20, Bool.false_and])⟩
theorem wk_slices_IndexFunc_3 (V : Vw) (Rs : List At) (p0 : List TIns) (p1_10 : Int) (v1 : Value) (b3 : Nat) (z4 : Nat) (f2 : Fz RT_TIns V v1 p0) (ow : Ow V (.pt b3 (.cells z4 [.int .i64 p1_10]) :: Rs)) (r : Int) (h : slices_IndexFunc_3 p0 p1_10 = some r) : ∃ v V', Cl Try.prog 0 59 #[v1, .func (.func 60) #[] #[.pointer (some ⟨b3, 0, none⟩)]] V.H v V'.H ∧ V.le V' ∧ (v = .int .i64 r ∧ Ow V' (.pt b3 (.cells z4 [.int .i64 p1_10]) :: Rs)) := by
 refine Ct.of (Nat.zero_le _) Try.func59 Z (nr Z) ?_
 unfold slices_IndexFunc_3 at h
 refine WP.usreg Z ?_
 refine U.p Z Z (.inl Z) (S.assign Z K) ?_
 refine U.done (nr Z) ?_
 refine WP.seq ?_
 refine WP.usreg Z ?_
 refine U.p Z Z (.inl Z) (S.move Z (L 1 Z Z)) ?_
 refine U.p Z Z (.inl Z) (f2.1.len Z (L 0 Z Z) Try.underlying22) ?_
 refine U.p Z Z (.inl Z) (S.move Z K) ?_
 refine U.done (nr Z) ?_
 refine WP.blk ?_
 unfold slices_IndexFunc_3_l1 at h
 obtain ⟨n8, hn7⟩ := loopO_some.1 h
 refine WP.loopI2 (fun n l V' => ∃ (x6 : Int), l = [(0, v1), (1, .func (.func 60) #[] #[.pointer (some ⟨b3, 0, none⟩)]), (7, .int .i64 (p0.length : Int)), (8, .int .i64 x6)] ∧ V.le V' ∧ Ow V' (.pt b3 (.cells z4 [.int .i64 p1_10]) :: Rs) ∧ itO (fun s => slices_IndexFunc_3_l1b p0 p1_10 s) n x6 = some r) n8 _ ⟨0, Z, .refl _, ow, hn7⟩ (allCons (L 4 Z Z) (allCons (L 5 Z Z) (allCons (L 1 Z Z) (allCons (L 0 Z Z) allNil)))) ?_
 rintro _ _ V9 ⟨x6, rfl, le10, ow11, h15⟩
 obtain ⟨m12, q13, rfl, h16, e14⟩ := itS h15
 replace h16 : slices_IndexFunc_3_l1b p0 p1_10 x6 = some q13 := h16
 unfold slices_IndexFunc_3_l1b at h16
 refine WP.usreg Z ?_
 refine U.p Z Z (.inl Z) (S.lss Z (L 3 Z Z) (L 2 Z Z)) ?_
 refine U.done (nr Z) ?_
 refine WP.seq ?_
 refine WP.cond _ (L 0 Z Z) Z (fun c17 => ?_) (fun c17 => ?_)
 ·have h18 := ifT c17 h16
  refine WP.skip ?_
  refine sqN ?_
  refine WP.seq ?_
  refine WP.blk ?_
  refine WP.usreg Z ?_
  refine U.p Z Z (.inl Z) (S.move Z (L 4 Z Z)) ?_
  refine U.p Z Z (.inl Z) (S.assign Z (L 0 Z Z)) ?_
  refine U.done (nr Z) ?_
  refine WP.usreg Z ?_
  refine U.p Z Z (.inl Z) (S.move Z (L 4 Z Z)) ?_
  refine U.p Z Z (.inl Z) (S.move Z (L 4 Z Z)) ?_
  refine U.p Z Z (.inl Z) (S.move Z (L 2 Z Z)) ?_
  obtain ⟨x19, hx20, h21⟩ := bindS h18
  obtain ⟨b22, o23, c24, cs25, hv26, hf27, hr28, hc29⟩ := f2.at hx20
  obtain ⟨v30, rfl, f31⟩ := hr28
  refine U.p Z Z (.inl Z) (S.index Z ((L 1 Z Z).trans hv26) (L 0 Z Z) Try.underlying22 ti29 (ix_ge hx20) (ix_lt hx20)) ?_
  refine U.k Z Z (.inl Z) (S.loadN (cs := [.int .i64 x19.op, .int .i64 x19.d, .int .i64 x19.a, .int .i64 x19.b, .int .i64 x19.imm, v30, .int .i64 x19.what, .bool x19.volatile, .bool x19.final]) Z (L 0 Z Z) Try.underlying29 Z ti29 Z (fun j v hj => le10.cell hf27 (hc29 j v hj))) nd ?_
  have f32 := f31.up le10
  obtain ⟨x33, hx34, h35⟩ := bindS h21
  refine O.callv (V := V9) Z Z (.inl Z) Z (L 4 Z Z) en60 (aC (L 0 Z Z) aN) (wk_flow_place_c1 V9 _ x19 p1_10 v30 b3 z4 f32 ow11 _ hx34) (fun _ _ _ _ => nd) (fun v36 V37 le38 hp39 => ?_)
  obtain ⟨rfl, ow40⟩ := hp39
  refine U.done (nr Z) ?_
  refine WP.cond _ (L 0 Z Z) Z (fun c41 => ?_) (fun c41 => ?_)
  ·have h42 := ifT c41 h35
   refine WP.usreg Z ?_
   refine U.p Z Z (.inl Z) (S.move Z (L 6 Z Z)) ?_
   refine U.p Z Z (.inl Z) (S.assign Z (L 0 Z Z)) ?_
   refine U.done (nr Z) ?_
   refine WP.ret ?_
   refine blkR (sqR (sqR (blkR (sqR ?_))))
   have h43 := exitS h42 e14
   refine fin.slot (.inr Z) Z (L 0 Z Z) ⟨V37, Z, (le10.trans le38), ?_⟩
   have e44 := Option.some.inj h43
   subst e44
   exact ⟨rfl, ow40⟩
  ·have h45 := ifF c41 h35
   refine WP.skip ?_
   refine blkN (sqN ?_)
   refine WP.ureg Z ?_
   refine U.p Z Z (.inl Z) (S.add Z (L 12 Z Z) K) ?_
   refine U.p Z Z (.inl Z) (S.move Z (L 0 Z Z)) ?_
   refine U.done (nr Z) ?_
   refine sqN ?_
   exact ⟨_, V37, Z, ⟨m12, Nat.lt_succ_self _, w64 (x6 + 1), Z, (le10.trans le38), ow40, backS h45 e14⟩, (allCons (L 11 Z Z) (allCons (L 12 Z Z) (allCons (L 13 Z Z) (allCons (L 0 Z Z) allNil))))⟩
 ·have h46 := ifF c17 h16
  refine WP.exit ?_
  refine sqE (sqE (blkE (sqN ?_)))
  have h47 := exitS h46 e14
  refine WP.usreg Z ?_
  refine U.p Z Z (.inl Z) (S.assign Z K) ?_
  refine U.done (nr Z) ?_
  refine WP.ret ?_
  refine fin.slot (.inr Z) Z (L 0 Z Z) ⟨V9, Z, le10, ?_⟩
  have e48 := Option.some.inj h47
  subst e48
  exact ⟨rfl, ow11⟩
theorem wk_flow_place (V : Vw) (Rs : List At) (p0 : TFunc) (p1 : Int) (v1 : Value) (f2 : Fz RT_TIns V v1 p0.code) (ow : Ow V (Rs)) (r : Int) (h : flow_place p0 p1 = some r) : ∃ v V', Cl Try.prog 0 47 #[.agg #[.string p0.name, .int .i64 p0.params, .int .i64 p0.regs, v1], .int .i64 p1] V.H v V'.H ∧ V.le V' ∧ (v = .int .i64 r ∧ Ow V' (Rs)) := by
 refine Ct.of (Nat.zero_le _) Try.func47 Z (nr Z) ?_
 unfold flow_place at h
 refine WP.usreg Z ?_
 refine O.box ow Z Z (.inl Z) Z (L 0 Z Z) (by simp [topV]) Z nd (fun b3 V4 le5 ow6 => ?_)
 refine O.box ow6 Z Z (.inl Z) Z (L 2 Z Z) (by simp [topV]) Z nd (fun b8 V9 le10 ow11 => ?_)
 refine U.p Z Z (.inl Z) (S.assign Z K) ?_
 refine U.done (nr Z) ?_
 refine WP.usreg Z ?_
 refine U.p (v := .pointer (some ⟨b3, 3, none⟩)) Z Z (.inl Z) (S.fieldAddr Z (L 2 Z Z) Try.underlying24 Z ti22 Z Z) ?_
 refine U.k Z Z (.inl Z) (S.load Z (L 0 Z Z) Try.underlying22 Z ((ow11.own (k := 1) Z).cell Z)) nd ?_
 refine U.p (v := .func (.func 60) #[] #[.pointer (some ⟨b8, 0, none⟩)]) Z Z (.inl Z) (S.makeFunc' Z (amN) (am1 (L 3 Z Z))) ?_
 have f13 := f2.up (le5.trans le10)
 obtain ⟨x14, hx15, h16⟩ := bindS h
 refine O.call (V := V9) Z Z (.inl Z) Z en59 (aC (L 1 Z Z) (aC (L 0 Z Z) aN)) (wk_slices_IndexFunc_3 V9 _ p0.code p1 v1 b8 0 f13 ow11 _ hx15) (fun _ _ _ _ => nd) (fun v17 V18 le19 hp20 => ?_)
 obtain ⟨rfl, ow21⟩ := hp20
 refine U.p Z Z (.inl Z) (S.assign Z (L 0 Z Z)) ?_
 refine U.done (nr Z) ?_
 refine WP.ret ?_
 refine fin.slot (.inr Z) Z (L 0 Z Z) ⟨V18, Z, ((le5.trans le10).trans le19), ?_⟩
 have ow22 := ow21.drop 0 Z
 have ow23 := ow22.drop 0 Z
 have e24 := Option.some.inj h16
 subst e24
 exact ⟨rfl, ow23⟩
theorem wk_slices_Index (V : Vw) (Rs : List At) (p0 : List Int) (p1 : Int) (v1 : Value) (ow : Ow V (.os (RT.int .i64) v1 p0 :: Rs)) (r : Int) (h : slices_Index p0 p1 = some r) : ∃ v V', Cl Try.prog 0 38 #[v1, .int .i64 p1] V.H v V'.H ∧ V.le V' ∧ (v = .int .i64 r ∧ Ow V' (.os (RT.int .i64) v1 p0 :: Rs)) := by
 refine Ct.of (Nat.zero_le _) Try.func38 Z (nr Z) ?_
 unfold slices_Index at h
 refine WP.usreg Z ?_
 refine U.p Z Z (.inl Z) (S.assign Z K) ?_
 refine U.done (nr Z) ?_
 refine WP.seq ?_
 refine WP.usreg Z ?_
 refine U.p Z Z (.inl Z) (S.move Z (L 1 Z Z)) ?_
 refine U.p Z Z (.inl Z) (ow.oslen (k := 0) Z Z (L 0 Z Z) Try.underlying27) ?_
 refine U.p Z Z (.inl Z) (S.move Z K) ?_
 refine U.done (nr Z) ?_
 refine WP.blk ?_
 unfold slices_Index_l1 at h
 obtain ⟨n5, hn4⟩ := loopO_some.1 h
 refine WP.loopI2 (fun n l V' => ∃ (x3 : Int), l = [(0, v1), (1, .int .i64 p1), (7, .int .i64 (p0.length : Int)), (8, .int .i64 x3)] ∧ V.le V' ∧ Ow V' (.os (RT.int .i64) v1 p0 :: Rs) ∧ itO (fun s => slices_Index_l1b p0 p1 s) n x3 = some r) n5 _ ⟨0, Z, .refl _, ow, hn4⟩ (allCons (L 4 Z Z) (allCons (L 5 Z Z) (allCons (L 1 Z Z) (allCons (L 0 Z Z) allNil)))) ?_
 rintro _ _ V6 ⟨x3, rfl, le7, ow8, h12⟩
 obtain ⟨m9, q10, rfl, h13, e11⟩ := itS h12
 replace h13 : slices_Index_l1b p0 p1 x3 = some q10 := h13
 unfold slices_Index_l1b at h13
 refine WP.usreg Z ?_
 refine U.p Z Z (.inl Z) (S.lss Z (L 3 Z Z) (L 2 Z Z)) ?_
 refine U.done (nr Z) ?_
 refine WP.seq ?_
 refine WP.cond _ (L 0 Z Z) Z (fun c14 => ?_) (fun c14 => ?_)
 ·have h15 := ifT c14 h13
  refine WP.skip ?_
  refine sqN ?_
  refine WP.seq ?_
  refine WP.blk ?_
  refine WP.usreg Z ?_
  refine U.p Z Z (.inl Z) (S.move Z (L 4 Z Z)) ?_
  refine U.p Z Z (.inl Z) (S.assign Z (L 0 Z Z)) ?_
  refine U.done (nr Z) ?_
  refine WP.usreg Z ?_
  refine U.p Z Z (.inl Z) (S.move Z (L 4 Z Z)) ?_
  refine U.p Z Z (.inl Z) (S.move Z (L 4 Z Z)) ?_
  refine U.p Z Z (.inl Z) (S.move Z (L 2 Z Z)) ?_
  obtain ⟨x16, hx17, h18⟩ := bindS h15
  obtain ⟨b19, o20, n21, c22, hv23⟩ := ow8.ospt (k := 0) Z hx17
  obtain ⟨_, hv24, _⟩ := ow8.osel (k := 0) Z hv23 hx17
  refine U.p Z Z (.inl Z) (S.index Z ((L 1 Z Z).trans hv24) (L 0 Z Z) Try.underlying27 ti3 (ix_ge hx17) (ix_lt hx17)) ?_
  obtain ⟨cs25, hv26, hlt27, hr28, hc29⟩ := ow8.osel (k := 0) Z hv23 hx17
  obtain rfl : cs25 = [.int .i64 x16] := hr28
  refine U.k Z Z (.inl Z) (S.load Z (L 0 Z Z) Try.underlying3 Z (hc29 0 _ Z)) nd ?_
  refine U.p Z Z (.inl Z) (S.eqlI Z (L 4 Z Z) (L 0 Z Z)) ?_
  refine U.done (nr Z) ?_
  refine WP.cond _ (L 0 Z Z) Z (fun c30 => ?_) (fun c30 => ?_)
  ·have h31 := ifT c30 h18
   refine WP.usreg Z ?_
   refine U.p Z Z (.inl Z) (S.move Z (L 6 Z Z)) ?_
   refine U.p Z Z (.inl Z) (S.assign Z (L 0 Z Z)) ?_
   refine U.done (nr Z) ?_
   refine WP.ret ?_
   refine blkR (sqR (sqR (blkR (sqR ?_))))
   have h32 := exitS h31 e11
   refine fin.slot (.inr Z) Z (L 0 Z Z) ⟨V6, Z, le7, ?_⟩
   have e33 := Option.some.inj h32
   subst e33
   exact ⟨rfl, ow8⟩
  ·have h34 := ifF c30 h18
   refine WP.skip ?_
   refine blkN (sqN ?_)
   refine WP.ureg Z ?_
   refine U.p Z Z (.inl Z) (S.add Z (L 12 Z Z) K) ?_
   refine U.p Z Z (.inl Z) (S.move Z (L 0 Z Z)) ?_
   refine U.done (nr Z) ?_
   refine sqN ?_
   exact ⟨_, V6, Z, ⟨m9, Nat.lt_succ_self _, w64 (x3 + 1), Z, le7, ow8, backS h34 e11⟩, (allCons (L 11 Z Z) (allCons (L 12 Z Z) (allCons (L 13 Z Z) (allCons (L 0 Z Z) allNil))))⟩
 ·have h35 := ifF c14 h13
  refine WP.exit ?_
  refine sqE (sqE (blkE (sqN ?_)))
  have h36 := exitS h35 e11
  refine WP.usreg Z ?_
  refine U.p Z Z (.inl Z) (S.assign Z K) ?_
  refine U.done (nr Z) ?_
  refine WP.ret ?_
  refine fin.slot (.inr Z) Z (L 0 Z Z) ⟨V6, Z, le7, ?_⟩
  have e37 := Option.some.inj h36
  subst e37
  exact ⟨rfl, ow8⟩
theorem wk_slices_Contains (V : Vw) (Rs : List At) (p0 : List Int) (p1 : Int) (v1 : Value) (ow : Ow V (.os (RT.int .i64) v1 p0 :: Rs)) (r : Bool) (h : slices_Contains p0 p1 = some r) : ∃ v V', Cl Try.prog 0 23 #[v1, .int .i64 p1] V.H v V'.H ∧ V.le V' ∧ (v = .bool r ∧ Ow V' (.os (RT.int .i64) v1 p0 :: Rs)) := by
 refine Ct.of (Nat.zero_le _) Try.func23 Z (nr Z) ?_
 unfold slices_Contains at h
 refine WP.usreg Z ?_
 refine U.p Z Z (.inl Z) (S.assign Z K) ?_
 refine U.done (nr Z) ?_
 refine WP.usreg Z ?_
 refine U.p Z Z (.inl Z) (S.move Z (L 1 Z Z)) ?_
 refine U.p Z Z (.inl Z) (S.move Z (L 3 Z Z)) ?_
 obtain ⟨x3, hx4, h5⟩ := bindS h
 refine O.call (V := V) Z Z (.inl Z) Z en38 (aC (L 1 Z Z) (aC (L 0 Z Z) aN)) (wk_slices_Index V _ p0 p1 v1 ow _ hx4) (fun _ _ _ _ => nd) (fun v6 V7 le8 hp9 => ?_)
 obtain ⟨rfl, ow10⟩ := hp9
 refine U.p Z Z (.inl Z) (S.geq Z (L 0 Z Z) K) ?_
 refine U.p Z Z (.inl Z) (S.assign Z (L 0 Z Z)) ?_
 refine U.done (nr Z) ?_
 refine WP.ret ?_
 refine fin.slot (.inr Z) Z (L 0 Z Z) ⟨V7, Z, le8, ?_⟩
 have e11 := Option.some.inj h5
 subst e11
 exact ⟨rfl, ow10⟩
theorem wk_flow_Next (V : Vw) (Rs : List At) (p0 : TFunc) (p1 : Int) (v1 : Value) (f2 : Fz RT_TIns V v1 p0.code) (ow : Ow V (Rs)) (r : List Int) (h : flow_Next p0 p1 = some r) : ∃ v V', Cl Try.prog 0 41 #[.agg #[.string p0.name, .int .i64 p0.params, .int .i64 p0.regs, v1], .int .i64 p1] V.H v V'.H ∧ V.le V' ∧ (∃ (v3 : Value), v = v3 ∧ Ow V' (.os (RT.int .i64) v3 r :: Rs)) := by
 refine Ct.of (Nat.zero_le _) Try.func41 Z (nr Z) ?_
 unfold flow_Next at h
 refine WP.usreg Z ?_
 refine O.box ow Z Z (.inl Z) Z (L 0 Z Z) (by simp [topV]) Z nd (fun b5 V6 le7 ow8 => ?_)
 refine U.p Z Z (.inl Z) (S.assign Z K) ?_
 refine U.done (nr Z) ?_
 refine WP.seq ?_
 refine WP.usreg Z ?_
 refine U.p Z Z (.inl Z) (S.move Z (L 3 Z Z)) ?_
 refine U.p Z Z (.inl Z) (S.lss Z (L 0 Z Z) K) ?_
 refine U.p Z Z (.inl Z) (S.move Z (L 0 Z Z)) ?_
 refine U.joinX 9 (fun e H => ∃ (u10 u11 u12 u13 u14 : Value), H = V6.H ∧ e = [(16, .bool ((decide (p1 < 0)) || (decide ((p0.code.length : Int) ≤ p1)))), (15, u10), (14, u11), (13, u12), (12, u13), (11, u14)]) ?_ ?_
 ·rintro _ _ ⟨u10, u11, u12, u13, u14, rfl, rfl⟩
  refine U.done (nr Z) ?_
  refine WP.cond _ (L 0 Z Z) Z (fun c18 => ?_) (fun c18 => ?_)
  ·have h19 := ifT c18 h
   refine WP.usreg Z ?_
   refine U.p Z Z (.inl Z) (S.assign Z K) ?_
   refine U.done (nr Z) ?_
   refine WP.ret ?_
   refine sqR ?_
   have ow20 := ow8.nil (RT.int .i64)
   refine fin.slot (.inr Z) Z (L 0 Z Z) ⟨V6, Z, le7, ?_⟩
   have ow22 := ow20.drop 1 Z
   have e23 := Option.some.inj h19
   subst e23
   exact ⟨(.slice none 0 0), Z, ow22⟩
  ·have h24 := ifF c18 h
   refine WP.skip ?_
   refine sqN ?_
   refine WP.usreg Z ?_
   refine U.p (v := .pointer (some ⟨b5, 3, none⟩)) Z Z (.inl Z) (S.fieldAddr Z (L 10 Z Z) Try.underlying24 Z ti22 Z Z) ?_
   refine U.k Z Z (.inl Z) (S.load Z (L 0 Z Z) Try.underlying22 Z ((ow8.own (k := 0) Z).cell Z)) nd ?_
   refine U.p Z Z (.inl Z) (S.move Z (L 14 Z Z)) ?_
   obtain ⟨x25, hx26, h27⟩ := bindS h24
   obtain ⟨b28, o29, c30, cs31, hv32, hf33, hr34, hc35⟩ := f2.at hx26
   obtain ⟨v36, rfl, f37⟩ := hr34
   refine U.p Z Z (.inl Z) (S.index Z ((L 1 Z Z).trans hv32) (L 0 Z Z) Try.underlying22 ti29 (ix_ge hx26) (ix_lt hx26)) ?_
   refine U.k Z Z (.inl Z) (S.loadN (cs := [.int .i64 x25.op, .int .i64 x25.d, .int .i64 x25.a, .int .i64 x25.b, .int .i64 x25.imm, v36, .int .i64 x25.what, .bool x25.volatile, .bool x25.final]) Z (L 0 Z Z) Try.underlying29 Z ti29 Z (fun j v hj => le7.cell hf33 (hc35 j v hj))) nd ?_
   refine O.alloc ow8 Z Z (.inl Z) Z ti29 Z Z nd (fun b38 V39 le40 ow41 => ?_)
   refine O.store (k := 0) (cs := [.int .i64 x25.op, .int .i64 x25.d, .int .i64 x25.a, .int .i64 x25.b, .int .i64 x25.imm, v36, .int .i64 x25.what, .bool x25.volatile, .bool x25.final]) (c' := [.int .i64 x25.op, .int .i64 x25.d, .int .i64 x25.a, .int .i64 x25.b, .int .i64 x25.imm, v36, .int .i64 x25.what, .bool x25.volatile, .bool x25.final]) ow41 Z Z Z (.inl Z) Z (L 0 Z Z) (L 1 Z Z) ti29 (by simp [topV]) Z Z (nr Z) (by have q0 := f37.one; simp only [List.all_cons, List.all_nil, q0]; rfl) Z nd (fun V43 le44 ow45 => ?_)
   refine U.done (nr Z) ?_
   refine WP.usreg Z ?_
   refine U.p Z Z (.inl Z) (S.assign Z K) ?_
   refine U.done (nr Z) ?_
   refine WP.seqI (fun l V' => ∃ (v47 : Value) (xs48 : List Int), l = [(2, .pointer (some ⟨b5, 0, none⟩)), (5, .pointer (some ⟨b38, 0, none⟩)), (6, v47)] ∧ V43.le V' ∧ Ow V' (.pt b5 (.cells 0 [.string p0.name, .int .i64 p0.params, .int .i64 p0.regs, v1]) :: .pt b38 (.cells 9 [.int .i64 x25.op, .int .i64 x25.d, .int .i64 x25.a, .int .i64 x25.b, .int .i64 x25.imm, v36, .int .i64 x25.what, .bool x25.volatile, .bool x25.final]) :: .os (RT.int .i64) v47 xs48 :: Rs) ∧ flow_Next_k1 p0 x25 xs48 = some r) ?_ ?_
   ·rintro _ V49 ⟨v47, xs48, rfl, le50, ow51, h52⟩
    unfold flow_Next_k1 at h52
    refine WP.seqI (fun l V' => ∃ (v54 : Value) (xs55 : List Int), l = [(6, v54)] ∧ V49.le V' ∧ Ow V' (.os (RT.int .i64) v54 xs55 :: Rs) ∧ flow_Next_k2 xs55 = some r) ?_ ?_
    ·rintro _ V56 ⟨v54, xs55, rfl, le57, ow58, h59⟩
     unfold flow_Next_k2 at h59
     refine WP.usreg Z ?_
     refine U.p Z Z (.inl Z) (S.move Z (L 0 Z Z)) ?_
     refine U.p Z Z (.inl Z) (S.assign Z (L 0 Z Z)) ?_
     refine U.done (nr Z) ?_
     refine WP.ret ?_
     refine fin.slot (.inr Z) Z (L 0 Z Z) ⟨V56, Z, ((((le7.trans le40).trans le44).trans le50).trans le57), ?_⟩
     have e60 := Option.some.inj h59
     subst e60
     exact ⟨v54, Z, ow58⟩
    ·skip
     refine WP.usreg Z ?_
     refine U.p (v := .pointer (some ⟨b38, 0, none⟩)) Z Z (.inl Z) (S.fieldAddr Z (L 1 Z Z) Try.underlying29 Z ti3 Z Z) ?_
     refine U.k Z Z (.inl Z) (S.load Z (L 0 Z Z) Try.underlying3 Z ((ow51.own (k := 1) Z).cell Z)) nd ?_
     refine U.p Z Z (.inl Z) (S.eqlI Z (L 0 Z Z) K) ?_
     refine U.p Z Z (.inl Z) (S.move Z (L 0 Z Z)) ?_
     refine U.joinX 8 (fun e H => ∃ (u61 u62 u63 : Value), H = V49.H ∧ e = [(55, .bool ((decide (x25.op = 12)) || (decide (x25.op = 13)))), (54, u61), (53, u62), (52, u63)]) ?_ ?_
     ·rintro _ _ ⟨u61, u62, u63, rfl, rfl⟩
      refine U.p Z Z (.inl Z) (S.move Z (L 0 Z Z)) ?_
      refine U.joinX 13 (fun e H => ∃ (u67 u68 u69 : Value), H = V49.H ∧ e = [(60, .bool (((decide (x25.op = 12)) || (decide (x25.op = 13))) || (decide (x25.op = 17)))), (59, u67), (58, u68), (57, u69)]) ?_ ?_
      ·rintro _ _ ⟨u67, u68, u69, rfl, rfl⟩
       refine U.done (nr Z) ?_
       refine WP.cond _ (L 0 Z Z) Z (fun c73 => ?_) (fun c73 => ?_)
       ·have h74 := ifT c73 h52
        refine WP.usreg Z ?_
        refine U.k Z Z (.inl Z) (S.loadB Z (L 13 Z Z) Try.underlying24 Z ti24 (ow51.own (k := 0) Z).get Z) nd ?_
        refine U.p (v := .pointer (some ⟨b38, 4, none⟩)) Z Z (.inl Z) (S.fieldAddr Z (L 15 Z Z) Try.underlying29 Z ti3 Z Z) ?_
        refine U.k Z Z (.inl Z) (S.load Z (L 0 Z Z) Try.underlying3 Z ((ow51.own (k := 1) Z).cell Z)) nd ?_
        have f75 := f2.up (((le7.trans le40).trans le44).trans le50)
        obtain ⟨x76, hx77, h78⟩ := bindS h74
        refine O.call (V := V49) Z Z (.inl Z) Z en47 (aC (L 2 Z Z) (aC (L 0 Z Z) aN)) (wk_flow_place V49 _ p0 x25.imm v1 f75 ow51 _ hx77) (fun _ _ _ _ => nd) (fun v79 V80 le81 hp82 => ?_)
        obtain ⟨rfl, ow83⟩ := hp82
        refine U.p Z Z (.inl Z) (S.assign Z (L 0 Z Z)) ?_
        refine U.done (nr Z) ?_
        refine WP.usreg Z ?_
        refine U.p Z Z (.inl Z) (S.move Z (L 0 Z Z)) ?_
        refine U.p Z Z (.inl Z) (S.geq Z (L 0 Z Z) K) ?_
        refine U.p Z Z (.inl Z) (S.move Z (L 0 Z Z)) ?_
        obtain ⟨y84, hy85, h86⟩ := bindS h78
        refine U.joinX 8 (fun e H => ∃ (u87 u88 u89 u90 : Value), ∃ V' : Vw, H = V'.H ∧ V80.le V' ∧ e = [(72, .bool y84), (71, u87), (70, u88), (69, u89), (68, u90)] ∧ Ow V' (.pt b5 (.cells 0 [.string p0.name, .int .i64 p0.params, .int .i64 p0.regs, v1]) :: .pt b38 (.cells 9 [.int .i64 x25.op, .int .i64 x25.d, .int .i64 x25.a, .int .i64 x25.b, .int .i64 x25.imm, v36, .int .i64 x25.what, .bool x25.volatile, .bool x25.final]) :: .os (RT.int .i64) v47 xs48 :: Rs)) ?_ ?_
        ·rintro _ _ ⟨u87, u88, u89, u90, V91, rfl, le92, rfl, ow93⟩
         refine U.done (nr Z) ?_
         refine WP.cond _ (L 0 Z Z) Z (fun c94 => ?_) (fun c94 => ?_)
         ·have h95 := ifT c94 h86
          refine WP.ureg Z ?_
          refine U.p Z Z (.inl Z) (S.move Z (L 28 Z Z)) ?_
          refine U.p Z Z (.inl Z) (S.move Z (L 9 Z Z)) ?_
          refine O.lit (R := (RT.int .i64)) ow93 Z Z (.inl Z) Z Try.underlying27 ti3 Z Z Z (nr Z) Z (aC (L 0 Z Z) aN) (.cons _ _ x76 _ (by simp [topV]) Z .nil) (fun _ => nd) (fun v96 V97 le98 ow99 => ?_)
          obtain ⟨xs101, hx102, h103⟩ := bindS h95
          refine O.appendW (k := 3) ow99 Z Z Z (.inl Z) Z (L 2 Z Z) (L 0 Z Z) Try.underlying27 ti3 Z Z (nr Z) (ow99.src (k := 0) Z Try.underlying27) hx102 (fun _ _ => nd) (fun v104 V105 le106 ow107 => ?_)
          refine U.p Z Z (.inl Z) (S.assign Z (L 0 Z Z)) ?_
          refine U.done (nr Z) ?_
          refine sqN ?_
          have ow109 := ow107.drop 0 Z
          have ow110 := ow109.drop 0 Z
          have ow111 := ow110.drop 0 Z
          exact ⟨_, V105, Z, ⟨v104, xs101, Z, (((le81.trans le92).trans le98).trans le106), ow111, h103⟩, (allCons (L 0 Z Z) allNil)⟩
         ·have h112 := ifF c94 h86
          refine WP.skip ?_
          refine sqN ?_
          have ow113 := ow93.drop 0 Z
          have ow114 := ow113.drop 0 Z
          exact ⟨_, V91, Z, ⟨v47, xs48, Z, (le81.trans le92), ow114, h112⟩, (allCons (L 28 Z Z) allNil)⟩
        ·intro kk
         refine bcase (b := decide (0 ≤ x76)) (fun g115 => ?_) (fun g115 => ?_)
         ·have h116 := ifT g115 hy85
          refine U.p Z Z (.inr ⟨_, _, _, Z, Z, ((L 0 Z Z).trans (cB g115))⟩) (S.move Z (L 23 Z Z)) ?_
          refine U.p Z Z (.inr ⟨_, _, _, Z, Z, ((L 1 Z Z).trans (cB g115))⟩) (S.move Z (L 4 Z Z)) ?_
          have ow117 := ow83.pick 2 Z
          obtain ⟨x118, hx119, h120⟩ := bindS h116
          refine O.call (V := V80) Z Z (.inr ⟨_, _, _, Z, Z, ((L 2 Z Z).trans (cB g115))⟩) Z en23 (aC (L 1 Z Z) (aC (L 0 Z Z) aN)) (wk_slices_Contains V80 _ xs48 x76 v47 ow117 _ hx119) (fun _ _ _ _ => nd) (fun v121 V122 le123 hp124 => ?_)
          obtain ⟨rfl, ow125⟩ := hp124
          refine U.p Z Z (.inr ⟨_, _, _, Z, Z, ((L 3 Z Z).trans (cB g115))⟩) (S.not Z (L 0 Z Z)) ?_
          refine U.p Z Z (.inl Z) (S.pickT Z ((L 4 Z Z).trans (cB g115)) (L 0 Z Z)) ?_
          have e126 := Option.some.inj h120
          subst e126
          have ow127 := ow125.pick 0 Z
          have ow128 := ow127.pick 2 Z
          have ow129 := ow128.pick 2 Z
          exact kk [(72, .bool (!x118)), (71, .bool (!x118)), (70, .bool x118), (69, .int .i64 x76), (68, v47)] _ ⟨.bool (!x118), .bool x118, .int .i64 x76, v47, V122, Z, le123, Z, ow129⟩
         ·have h130 := ifF g115 hy85
          refine U.x Z Z Z Z ((L 0 Z Z).trans (cB g115)) (by decide) ?_
          refine U.x Z Z Z Z ((L 1 Z Z).trans (cB g115)) (by decide) ?_
          refine U.x Z Z Z Z ((L 2 Z Z).trans (cB g115)) (by decide) ?_
          refine U.x Z Z Z Z ((L 3 Z Z).trans (cB g115)) (by decide) ?_
          refine U.p Z Z (.inl Z) (S.pickF Z ((L 4 Z Z).trans (cB g115)) K) ?_
          have e131 := Option.some.inj h130
          subst e131
          exact kk [(72, .bool false), (71, .tuple #[]), (70, .tuple #[]), (69, .tuple #[]), (68, .tuple #[])] _ ⟨.tuple #[], .tuple #[], .tuple #[], .tuple #[], V80, Z, (.refl _), Z, ow83⟩
       ·have h132 := ifF c73 h52
        refine WP.skip ?_
        refine sqN ?_
        have ow133 := ow51.drop 0 Z
        have ow134 := ow133.drop 0 Z
        exact ⟨_, V49, Z, ⟨v47, xs48, Z, (.refl _), ow134, h132⟩, (allCons (L 15 Z Z) allNil)⟩
      ·intro kk
       refine bcase (b := (decide (x25.op = 12)) || (decide (x25.op = 13))) (fun g135 => ?_) (fun g135 => ?_)
       ·skip
        refine U.x Z Z Z Z ((L 0 Z Z).trans (cB g135)) (by decide) ?_
        refine U.x Z Z Z Z ((L 1 Z Z).trans (cB g135)) (by decide) ?_
        refine U.x Z Z Z Z ((L 2 Z Z).trans (cB g135)) (by decide) ?_
        refine U.p Z Z (.inl Z) (S.pickT Z ((L 3 Z Z).trans (cB g135)) K) ?_
        exact kk [(60, .bool true), (59, .tuple #[]), (58, .tuple #[]), (57, .tuple #[])] _ ⟨.tuple #[], .tuple #[], .tuple #[], Z, (by rw [g135, Bool.true_or])⟩
       ·skip
        refine U.p (v := .pointer (some ⟨b38, 0, none⟩)) Z Z (.inr ⟨_, _, _, Z, Z, ((L 0 Z Z).trans (cB g135))⟩) (S.fieldAddr Z (L 10 Z Z) Try.underlying29 Z ti3 Z Z) ?_
        refine U.k Z Z (.inr ⟨_, _, _, Z, Z, ((L 1 Z Z).trans (cB g135))⟩) (S.load Z (L 0 Z Z) Try.underlying3 Z ((ow51.own (k := 1) Z).cell Z)) nd ?_
        refine U.p Z Z (.inr ⟨_, _, _, Z, Z, ((L 2 Z Z).trans (cB g135))⟩) (S.eqlI Z (L 0 Z Z) K) ?_
        refine U.p Z Z (.inl Z) (S.pickF Z ((L 3 Z Z).trans (cB g135)) (L 0 Z Z)) ?_
        exact kk [(60, .bool (decide (x25.op = 17))), (59, .bool (decide (x25.op = 17))), (58, .int .i64 x25.op), (57, .pointer (some ⟨b38, 0, none⟩))] _ ⟨.bool (decide (x25.op = 17)), .int .i64 x25.op, .pointer (some ⟨b38, 0, none⟩), Z, (by rw [g135, Bool.false_or])⟩
     ·intro kk
      refine bcase (b := decide (x25.op = 12)) (fun g136 => ?_) (fun g136 => ?_)
      ·skip
       refine U.x Z Z Z Z ((L 0 Z Z).trans (cB g136)) (by decide) ?_
       refine U.x Z Z Z Z ((L 1 Z Z).trans (cB g136)) (by decide) ?_
       refine U.x Z Z Z Z ((L 2 Z Z).trans (cB g136)) (by decide) ?_
       refine U.p Z Z (.inl Z) (S.pickT Z ((L 3 Z Z).trans (cB g136)) K) ?_
       exact kk [(55, .bool true), (54, .tuple #[]), (53, .tuple #[]), (52, .tuple #[])] _ ⟨.tuple #[], .tuple #[], .tuple #[], Z, (by rw [g136, Bool.true_or])⟩
      ·skip
       refine U.p (v := .pointer (some ⟨b38, 0, none⟩)) Z Z (.inr ⟨_, _, _, Z, Z, ((L 0 Z Z).trans (cB g136))⟩) (S.fieldAddr Z (L 5 Z Z) Try.underlying29 Z ti3 Z Z) ?_
       refine U.k Z Z (.inr ⟨_, _, _, Z, Z, ((L 1 Z Z).trans (cB g136))⟩) (S.load Z (L 0 Z Z) Try.underlying3 Z ((ow51.own (k := 1) Z).cell Z)) nd ?_
       refine U.p Z Z (.inr ⟨_, _, _, Z, Z, ((L 2 Z Z).trans (cB g136))⟩) (S.eqlI Z (L 0 Z Z) K) ?_
       refine U.p Z Z (.inl Z) (S.pickF Z ((L 3 Z Z).trans (cB g136)) (L 0 Z Z)) ?_
       exact kk [(55, .bool (decide (x25.op = 13))), (54, .bool (decide (x25.op = 13))), (53, .int .i64 x25.op), (52, .pointer (some ⟨b38, 0, none⟩))] _ ⟨.bool (decide (x25.op = 13)), .int .i64 x25.op, .pointer (some ⟨b38, 0, none⟩), Z, (by rw [g136, Bool.false_or])⟩
   ·skip
    refine WP.usreg Z ?_
    refine U.p (v := .pointer (some ⟨b38, 0, none⟩)) Z Z (.inl Z) (S.fieldAddr Z (L 1 Z Z) Try.underlying29 Z ti3 Z Z) ?_
    refine U.k Z Z (.inl Z) (S.load Z (L 0 Z Z) Try.underlying3 Z ((ow45.own (k := 0) Z).cell Z)) nd ?_
    refine U.p Z Z (.inl Z) (S.neqI Z (L 0 Z Z) K) ?_
    refine U.p Z Z (.inl Z) (S.move Z (L 0 Z Z)) ?_
    refine U.joinX 8 (fun e H => ∃ (u137 u138 u139 : Value), H = V43.H ∧ e = [(29, .bool ((decide (x25.op ≠ 12)) && (decide (x25.op ≠ 15)))), (28, u137), (27, u138), (26, u139)]) ?_ ?_
    ·rintro _ _ ⟨u137, u138, u139, rfl, rfl⟩
     refine U.p Z Z (.inl Z) (S.move Z (L 0 Z Z)) ?_
     refine U.joinX 13 (fun e H => ∃ (u143 u144 u145 : Value), H = V43.H ∧ e = [(34, .bool (((decide (x25.op ≠ 12)) && (decide (x25.op ≠ 15))) && (decide (x25.op ≠ 16)))), (33, u143), (32, u144), (31, u145)]) ?_ ?_
     ·rintro _ _ ⟨u143, u144, u145, rfl, rfl⟩
      refine U.p Z Z (.inl Z) (S.move Z (L 0 Z Z)) ?_
      refine U.joinX 21 (fun e H => ∃ (u149 u150 u151 u152 u153 u154 : Value), H = V43.H ∧ e = [(42, .bool ((((decide (x25.op ≠ 12)) && (decide (x25.op ≠ 15))) && (decide (x25.op ≠ 16))) && (decide ((w64 (p1 + 1)) < (p0.code.length : Int))))), (41, u149), (40, u150), (39, u151), (38, u152), (37, u153), (36, u154)]) ?_ ?_
      ·rintro _ _ ⟨u149, u150, u151, u152, u153, u154, rfl, rfl⟩
       refine U.done (nr Z) ?_
       refine WP.cond _ (L 0 Z Z) Z (fun c158 => ?_) (fun c158 => ?_)
       ·have h159 := ifT c158 h27
        refine WP.ureg Z ?_
        refine U.p Z Z (.inl Z) (S.move Z (L 21 Z Z)) ?_
        refine U.p Z Z (.inl Z) (S.move Z (L 41 Z Z)) ?_
        refine U.p Z Z (.inl Z) (S.add Z (L 0 Z Z) K) ?_
        refine O.lit (R := (RT.int .i64)) ow45 Z Z (.inl Z) Z Try.underlying27 ti3 Z Z Z (nr Z) Z (aC (L 0 Z Z) aN) (.cons _ _ (w64 (p1 + 1)) _ (by simp [topV]) Z .nil) (fun _ => nd) (fun v160 V161 le162 ow163 => ?_)
        have ow165 := ow163.nil (RT.int .i64)
        obtain ⟨xs167, hx168, h169⟩ := bindS h159
        refine O.appendW (k := 0) ow165 Z Z Z (.inl Z) Z (L 3 Z Z) (L 0 Z Z) Try.underlying27 ti3 Z Z (nr Z) (ow165.src (k := 1) Z Try.underlying27) hx168 (fun _ _ => nd) (fun v170 V171 le172 ow173 => ?_)
        refine U.p Z Z (.inl Z) (S.assign Z (L 0 Z Z)) ?_
        refine U.done (nr Z) ?_
        refine sqN ?_
        have ow175 := ow173.drop 1 Z
        have ow176 := ow175.pick 0 Z
        have ow177 := ow176.pick 1 Z
        have ow178 := ow177.pick 2 Z
        exact ⟨_, V171, Z, ⟨v170, xs167, Z, (le162.trans le172), ow178, h169⟩, (allCons (L 44 Z Z) (allCons (L 28 Z Z) (allCons (L 0 Z Z) allNil)))⟩
       ·have h179 := ifF c158 h27
        refine WP.skip ?_
        refine sqN ?_
        have ow180 := ow45.nil (RT.int .i64)
        have ow182 := ow180.pick 0 Z
        have ow183 := ow182.pick 1 Z
        have ow184 := ow183.pick 2 Z
        exact ⟨_, V43, Z, ⟨(.slice none 0 0), [], Z, (.refl _), ow184, h179⟩, (allCons (L 38 Z Z) (allCons (L 22 Z Z) (allCons (L 21 Z Z) allNil)))⟩
      ·intro kk
       refine bcase (b := ((decide (x25.op ≠ 12)) && (decide (x25.op ≠ 15))) && (decide (x25.op ≠ 16))) (fun g185 => ?_) (fun g185 => ?_)
       ·skip
        refine U.p Z Z (.inr ⟨_, _, _, Z, Z, ((L 0 Z Z).trans (cB g185))⟩) (S.move Z (L 33 Z Z)) ?_
        refine U.p Z Z (.inr ⟨_, _, _, Z, Z, ((L 1 Z Z).trans (cB g185))⟩) (S.add Z (L 0 Z Z) K) ?_
        refine U.p (v := .pointer (some ⟨b5, 3, none⟩)) Z Z (.inr ⟨_, _, _, Z, Z, ((L 2 Z Z).trans (cB g185))⟩) (S.fieldAddr Z (L 33 Z Z) Try.underlying24 Z ti22 Z Z) ?_
        refine U.k Z Z (.inr ⟨_, _, _, Z, Z, ((L 3 Z Z).trans (cB g185))⟩) (S.load Z (L 0 Z Z) Try.underlying22 Z ((ow45.own (k := 1) Z).cell Z)) nd ?_
        refine U.p Z Z (.inr ⟨_, _, _, Z, Z, ((L 4 Z Z).trans (cB g185))⟩) (f2.1.len Z (L 0 Z Z) Try.underlying22) ?_
        refine U.p Z Z (.inr ⟨_, _, _, Z, Z, ((L 5 Z Z).trans (cB g185))⟩) (S.lss Z (L 3 Z Z) (L 0 Z Z)) ?_
        refine U.p Z Z (.inl Z) (S.pickT Z ((L 6 Z Z).trans (cB g185)) (L 0 Z Z)) ?_
        exact kk [(42, .bool (decide ((w64 (p1 + 1)) < (p0.code.length : Int)))), (41, .bool (decide ((w64 (p1 + 1)) < (p0.code.length : Int)))), (40, .int .i64 (p0.code.length : Int)), (39, v1), (38, .pointer (some ⟨b5, 3, none⟩)), (37, .int .i64 (w64 (p1 + 1))), (36, .int .i64 p1)] _ ⟨.bool (decide ((w64 (p1 + 1)) < (p0.code.length : Int))), .int .i64 (p0.code.length : Int), v1, .pointer (some ⟨b5, 3, none⟩), .int .i64 (w64 (p1 + 1)), .int .i64 p1, Z, (by rw [g185, Bool.true_and])⟩
       ·skip
        refine U.x Z Z Z Z ((L 0 Z Z).trans (cB g185)) (by decide) ?_
        refine U.x Z Z Z Z ((L 1 Z Z).trans (cB g185)) (by decide) ?_
        refine U.x Z Z Z Z ((L 2 Z Z).trans (cB g185)) (by decide) ?_
        refine U.x Z Z Z Z ((L 3 Z Z).trans (cB g185)) (by decide) ?_
        refine U.x Z Z Z Z ((L 4 Z Z).trans (cB g185)) (by decide) ?_
        refine U.x Z Z Z Z ((L 5 Z Z).trans (cB g185)) (by decide) ?_
        refine U.p Z Z (.inl Z) (S.pickF Z ((L 6 Z Z).trans (cB g185)) K) ?_
        exact kk [(42, .bool false), (41, .tuple #[]), (40, .tuple #[]), (39, .tuple #[]), (38, .tuple #[]), (37, .tuple #[]), (36, .tuple #[])] _ ⟨.tuple #[], .tuple #[], .tuple #[], .tuple #[], .tuple #[], .tuple #[], Z, (by rw [g185, Bool.false_and])⟩
     ·intro kk
      refine bcase (b := (decide (x25.op ≠ 12)) && (decide (x25.op ≠ 15))) (fun g186 => ?_) (fun g186 => ?_)
      ·skip
       refine U.p (v := .pointer (some ⟨b38, 0, none⟩)) Z Z (.inr ⟨_, _, _, Z, Z, ((L 0 Z Z).trans (cB g186))⟩) (S.fieldAddr Z (L 10 Z Z) Try.underlying29 Z ti3 Z Z) ?_
       refine U.k Z Z (.inr ⟨_, _, _, Z, Z, ((L 1 Z Z).trans (cB g186))⟩) (S.load Z (L 0 Z Z) Try.underlying3 Z ((ow45.own (k := 0) Z).cell Z)) nd ?_
       refine U.p Z Z (.inr ⟨_, _, _, Z, Z, ((L 2 Z Z).trans (cB g186))⟩) (S.neqI Z (L 0 Z Z) K) ?_
       refine U.p Z Z (.inl Z) (S.pickT Z ((L 3 Z Z).trans (cB g186)) (L 0 Z Z)) ?_
       exact kk [(34, .bool (decide (x25.op ≠ 16))), (33, .bool (decide (x25.op ≠ 16))), (32, .int .i64 x25.op), (31, .pointer (some ⟨b38, 0, none⟩))] _ ⟨.bool (decide (x25.op ≠ 16)), .int .i64 x25.op, .pointer (some ⟨b38, 0, none⟩), Z, (by rw [g186, Bool.true_and])⟩
      ·skip
       refine U.x Z Z Z Z ((L 0 Z Z).trans (cB g186)) (by decide) ?_
       refine U.x Z Z Z Z ((L 1 Z Z).trans (cB g186)) (by decide) ?_
       refine U.x Z Z Z Z ((L 2 Z Z).trans (cB g186)) (by decide) ?_
       refine U.p Z Z (.inl Z) (S.pickF Z ((L 3 Z Z).trans (cB g186)) K) ?_
       exact kk [(34, .bool false), (33, .tuple #[]), (32, .tuple #[]), (31, .tuple #[])] _ ⟨.tuple #[], .tuple #[], .tuple #[], Z, (by rw [g186, Bool.false_and])⟩
    ·intro kk
     refine bcase (b := decide (x25.op ≠ 12)) (fun g187 => ?_) (fun g187 => ?_)
     ·skip
      refine U.p (v := .pointer (some ⟨b38, 0, none⟩)) Z Z (.inr ⟨_, _, _, Z, Z, ((L 0 Z Z).trans (cB g187))⟩) (S.fieldAddr Z (L 5 Z Z) Try.underlying29 Z ti3 Z Z) ?_
      refine U.k Z Z (.inr ⟨_, _, _, Z, Z, ((L 1 Z Z).trans (cB g187))⟩) (S.load Z (L 0 Z Z) Try.underlying3 Z ((ow45.own (k := 0) Z).cell Z)) nd ?_
      refine U.p Z Z (.inr ⟨_, _, _, Z, Z, ((L 2 Z Z).trans (cB g187))⟩) (S.neqI Z (L 0 Z Z) K) ?_
      refine U.p Z Z (.inl Z) (S.pickT Z ((L 3 Z Z).trans (cB g187)) (L 0 Z Z)) ?_
      exact kk [(29, .bool (decide (x25.op ≠ 15))), (28, .bool (decide (x25.op ≠ 15))), (27, .int .i64 x25.op), (26, .pointer (some ⟨b38, 0, none⟩))] _ ⟨.bool (decide (x25.op ≠ 15)), .int .i64 x25.op, .pointer (some ⟨b38, 0, none⟩), Z, (by rw [g187, Bool.true_and])⟩
     ·skip
      refine U.x Z Z Z Z ((L 0 Z Z).trans (cB g187)) (by decide) ?_
      refine U.x Z Z Z Z ((L 1 Z Z).trans (cB g187)) (by decide) ?_
      refine U.x Z Z Z Z ((L 2 Z Z).trans (cB g187)) (by decide) ?_
      refine U.p Z Z (.inl Z) (S.pickF Z ((L 3 Z Z).trans (cB g187)) K) ?_
      exact kk [(29, .bool false), (28, .tuple #[]), (27, .tuple #[]), (26, .tuple #[])] _ ⟨.tuple #[], .tuple #[], .tuple #[], Z, (by rw [g187, Bool.false_and])⟩
 ·intro kk
  refine bcase (b := decide (p1 < 0)) (fun g188 => ?_) (fun g188 => ?_)
  ·skip
   refine U.x Z Z Z Z ((L 0 Z Z).trans (cB g188)) (by decide) ?_
   refine U.x Z Z Z Z ((L 1 Z Z).trans (cB g188)) (by decide) ?_
   refine U.x Z Z Z Z ((L 2 Z Z).trans (cB g188)) (by decide) ?_
   refine U.x Z Z Z Z ((L 3 Z Z).trans (cB g188)) (by decide) ?_
   refine U.x Z Z Z Z ((L 4 Z Z).trans (cB g188)) (by decide) ?_
   refine U.p Z Z (.inl Z) (S.pickT Z ((L 5 Z Z).trans (cB g188)) K) ?_
   exact kk [(16, .bool true), (15, .tuple #[]), (14, .tuple #[]), (13, .tuple #[]), (12, .tuple #[]), (11, .tuple #[])] _ ⟨.tuple #[], .tuple #[], .tuple #[], .tuple #[], .tuple #[], Z, (by rw [g188, Bool.true_or])⟩
  ·skip
   refine U.p Z Z (.inr ⟨_, _, _, Z, Z, ((L 0 Z Z).trans (cB g188))⟩) (S.move Z (L 6 Z Z)) ?_
   refine U.p (v := .pointer (some ⟨b5, 3, none⟩)) Z Z (.inr ⟨_, _, _, Z, Z, ((L 1 Z Z).trans (cB g188))⟩) (S.fieldAddr Z (L 5 Z Z) Try.underlying24 Z ti22 Z Z) ?_
   refine U.k Z Z (.inr ⟨_, _, _, Z, Z, ((L 2 Z Z).trans (cB g188))⟩) (S.load Z (L 0 Z Z) Try.underlying22 Z ((ow8.own (k := 0) Z).cell Z)) nd ?_
   refine U.p Z Z (.inr ⟨_, _, _, Z, Z, ((L 3 Z Z).trans (cB g188))⟩) (f2.1.len Z (L 0 Z Z) Try.underlying22) ?_
   refine U.p Z Z (.inr ⟨_, _, _, Z, Z, ((L 4 Z Z).trans (cB g188))⟩) (S.geq Z (L 3 Z Z) (L 0 Z Z)) ?_
   refine U.p Z Z (.inl Z) (S.pickF Z ((L 5 Z Z).trans (cB g188)) (L 0 Z Z)) ?_
   exact kk [(16, .bool (decide ((p0.code.length : Int) ≤ p1))), (15, .bool (decide ((p0.code.length : Int) ≤ p1))), (14, .int .i64 (p0.code.length : Int)), (13, v1), (12, .pointer (some ⟨b5, 3, none⟩)), (11, .int .i64 p1)] _ ⟨.bool (decide ((p0.code.length : Int) ≤ p1)), .int .i64 (p0.code.length : Int), v1, .pointer (some ⟨b5, 3, none⟩), .int .i64 p1, Z, (by rw [g188, Bool.false_or])⟩
theorem wk_flow_set_merge (V : Vw) (Rs : List At) (p0 : List Bool) (p1 : List Bool) (v1 : Value) (v3 : Value) (ow : Ow V (.os RT.bool v1 p0 :: .os RT.bool v3 p1 :: Rs)) (r : Bool × (List Bool)) (h : flow_set_merge p0 p1 = some r) : ∃ v V', Cl Try.prog 0 42 #[v1, v3] V.H v V'.H ∧ V.le V' ∧ (v = .bool r.1 ∧ Ow V' (.os RT.bool v1 r.2 :: .os RT.bool v3 p1 :: Rs)) := by
 refine Ct.of (Nat.zero_le _) Try.func42 Z (nr Z) ?_
 unfold flow_set_merge at h
 refine WP.usreg Z ?_
 refine U.p Z Z (.inl Z) (S.assign Z K) ?_
 refine U.done (nr Z) ?_
 refine WP.usreg Z ?_
 refine U.p Z Z (.inl Z) (S.assign Z K) ?_
 refine U.done (nr Z) ?_
 refine WP.seq ?_
 refine WP.usreg Z ?_
 refine U.p Z Z (.inl Z) (S.move Z (L 3 Z Z)) ?_
 refine U.p Z Z (.inl Z) (ow.oslen (k := 1) Z Z (L 0 Z Z) Try.underlying77) ?_
 refine U.p Z Z (.inl Z) (S.move Z K) ?_
 refine U.done (nr Z) ?_
 refine WP.blk ?_
 unfold flow_set_merge_l1 at h
 obtain ⟨n9, hn8⟩ := loopO_some.1 h
 refine WP.loopI2 (fun n l V' => ∃ (xs5 : List Bool) (x6 : Bool) (x7 : Int), l = [(0, v1), (5, .bool x6), (8, v3), (9, .int .i64 (p1.length : Int)), (10, .int .i64 x7)] ∧ V.le V' ∧ Ow V' (.os RT.bool v1 xs5 :: .os RT.bool v3 p1 :: Rs) ∧ itO (fun s => flow_set_merge_l1b p1 s.1 s.2.1 s.2.2) n (xs5, x6, x7) = some r) n9 _ ⟨p0, false, 0, Z, .refl _, ow, hn8⟩ (allCons (L 5 Z Z) (allCons (L 3 Z Z) (allCons (L 2 Z Z) (allCons (L 1 Z Z) (allCons (L 0 Z Z) allNil))))) ?_
 rintro _ _ V10 ⟨xs5, x6, x7, rfl, le11, ow12, h16⟩
 obtain ⟨m13, q14, rfl, h17, e15⟩ := itS h16
 replace h17 : flow_set_merge_l1b p1 xs5 x6 x7 = some q14 := h17
 unfold flow_set_merge_l1b at h17
 refine WP.usreg Z ?_
 refine U.p Z Z (.inl Z) (S.lss Z (L 4 Z Z) (L 3 Z Z)) ?_
 refine U.done (nr Z) ?_
 refine WP.seq ?_
 refine WP.cond _ (L 0 Z Z) Z (fun c18 => ?_) (fun c18 => ?_)
 ·have h19 := ifT c18 h17
  refine WP.skip ?_
  refine sqN ?_
  refine WP.seq ?_
  refine WP.blk ?_
  refine WP.usreg Z ?_
  refine U.p Z Z (.inl Z) (S.move Z (L 5 Z Z)) ?_
  obtain ⟨x20, hx21, h22⟩ := bindS h19
  obtain ⟨b23, o24, n25, c26, hv27⟩ := ow12.ospt (k := 1) Z hx21
  obtain ⟨_, hv28, _⟩ := ow12.osel (k := 1) Z hv27 hx21
  refine U.p Z Z (.inl Z) (S.index Z ((L 4 Z Z).trans hv28) (L 6 Z Z) Try.underlying77 ti4 (ix_ge hx21) (ix_lt hx21)) ?_
  obtain ⟨cs29, hv30, hlt31, hr32, hc33⟩ := ow12.osel (k := 1) Z hv27 hx21
  obtain rfl : cs29 = [.bool x20] := hr32
  refine U.k Z Z (.inl Z) (S.load Z (L 0 Z Z) Try.underlying4 Z (hc33 0 _ Z)) nd ?_
  refine U.p Z Z (.inl Z) (S.assign Z (L 2 Z Z)) ?_
  refine U.p Z Z (.inl Z) (S.assign Z (L 1 Z Z)) ?_
  refine U.done (nr Z) ?_
  refine WP.usreg Z ?_
  refine U.p Z Z (.inl Z) (S.move Z (L 7 Z Z)) ?_
  refine U.p Z Z (.inl Z) (S.move Z (L 0 Z Z)) ?_
  obtain ⟨y34, hy35, h36⟩ := bindS h22
  refine U.joinX 11 (fun e H => ∃ (u37 u38 u39 u40 u41 u42 u43 u44 : Value), H = V10.H ∧ e = [(25, .bool y34), (24, u37), (23, u38), (22, u39), (21, u40), (20, u41), (19, u42), (18, u43), (17, u44)]) ?_ ?_
  ·rintro _ _ ⟨u37, u38, u39, u40, u41, u42, u43, u44, rfl, rfl⟩
   refine U.p Z Z (.inl Z) (S.assign Z (L 0 Z Z)) ?_
   refine U.done (nr Z) ?_
   refine WP.ureg Z ?_
   refine U.p Z Z (.inl Z) (S.move Z (L 18 Z Z)) ?_
   refine U.p Z Z (.inl Z) (S.move Z (L 14 Z Z)) ?_
   refine U.p Z Z (.inl Z) (S.move Z (L 20 Z Z)) ?_
   refine U.p Z Z (.inl Z) (S.move Z (L 16 Z Z)) ?_
   obtain ⟨x48, hx49, h50⟩ := bindS h36
   obtain ⟨b51, o52, n53, c54, hv55⟩ := ow12.ospt (k := 0) Z hx49
   obtain ⟨_, hv56, _⟩ := ow12.osel (k := 0) Z hv55 hx49
   refine U.p Z Z (.inl Z) (S.index Z ((L 1 Z Z).trans hv56) (L 0 Z Z) Try.underlying77 ti4 (ix_ge hx49) (ix_lt hx49)) ?_
   obtain ⟨cs57, hv58, hlt59, hr60, hc61⟩ := ow12.osel (k := 0) Z hv55 hx49
   obtain rfl : cs57 = [.bool x48] := hr60
   refine U.k Z Z (.inl Z) (S.load Z (L 0 Z Z) Try.underlying4 Z (hc61 0 _ Z)) nd ?_
   refine U.p Z Z (.inl Z) (S.move Z (L 0 Z Z)) ?_
   refine U.joinX 9 (fun e H => ∃ (u62 : Value), H = V10.H ∧ e = [(34, .bool (x48 || x20)), (33, u62)]) ?_ ?_
   ·rintro _ _ ⟨u62, rfl, rfl⟩
    obtain ⟨x66, hx67, h68⟩ := bindS h50
    obtain ⟨_, hv69, _⟩ := ow12.osel (k := 0) Z hv55 hx67
    refine U.p Z Z (.inl Z) (S.index Z ((L 8 Z Z).trans hv69) (L 7 Z Z) Try.underlying77 ti4 (ix_ge hx67) (ix_lt hx67)) ?_
    obtain ⟨cs70, hv71, hlt72, hr73, hc74⟩ := ow12.osel (k := 0) Z hv55 hx67
    obtain rfl : cs70 = [.bool x66] := hr73
    refine O.storeE (k := 0) (R := RT.bool) (j := 0) (y := x48 || x20) (cs := [.bool (x48 || x20)]) ow12 Z hv71 Z Z (.inl Z) Z (L 0 Z Z) (L 1 Z Z) ti4 hx67 (by simp [topV]) Z Z Z (full Z) (fun _ _ => nd) (fun V75 le76 ow77 => ?_)
    refine U.done (nr Z) ?_
    refine blkN (sqN ?_)
    refine WP.ureg Z ?_
    refine U.p Z Z (.inl Z) (S.add Z (L 32 Z Z) K) ?_
    refine U.p Z Z (.inl Z) (S.move Z (L 0 Z Z)) ?_
    refine U.done (nr Z) ?_
    refine sqN ?_
    exact ⟨_, V75, Z, ⟨m13, Nat.lt_succ_self _, xs5.set (Int.toNat x7) (x48 || x20), y34, w64 (x7 + 1), Z, (le11.trans le76), ow77, backS h68 e15⟩, (allCons (L 30 Z Z) (allCons (L 12 Z Z) (allCons (L 32 Z Z) (allCons (L 33 Z Z) (allCons (L 0 Z Z) allNil)))))⟩
   ·intro kk
    refine bcase (b := x48) (fun g78 => ?_) (fun g78 => ?_)
    ·skip
     refine U.x Z Z Z Z ((L 0 Z Z).trans (cB g78)) (by decide) ?_
     refine U.p Z Z (.inl Z) (S.pickT Z ((L 1 Z Z).trans (cB g78)) K) ?_
     exact kk [(34, .bool true), (33, .tuple #[])] _ ⟨.tuple #[], Z, (by rw [g78, Bool.true_or])⟩
    ·skip
     refine U.p Z Z (.inr ⟨_, _, _, Z, Z, ((L 0 Z Z).trans (cB g78))⟩) (S.move Z (L 19 Z Z)) ?_
     refine U.p Z Z (.inl Z) (S.pickF Z ((L 1 Z Z).trans (cB g78)) (L 0 Z Z)) ?_
     exact kk [(34, .bool x20), (33, .bool x20)] _ ⟨.bool x20, Z, (by rw [g78, Bool.false_or])⟩
  ·intro kk
   refine bcase (b := x6) (fun g79 => ?_) (fun g79 => ?_)
   ·have h80 := ifT g79 hy35
    refine U.x Z Z Z Z ((L 0 Z Z).trans (cB g79)) (by decide) ?_
    refine U.x Z Z Z Z ((L 1 Z Z).trans (cB g79)) (by decide) ?_
    refine U.z Z Z Z Z (L 0 Z Z) ?_
    refine U.z Z Z Z Z (L 1 Z Z) ?_
    refine U.z Z Z Z Z (L 2 Z Z) ?_
    refine U.z Z Z Z Z (L 3 Z Z) ?_
    refine U.z Z Z Z Z (L 4 Z Z) ?_
    refine U.x Z Z Z Z ((L 7 Z Z).trans (cB g79)) (by decide) ?_
    refine U.p Z Z (.inl Z) (S.pickT Z ((L 8 Z Z).trans (cB g79)) K) ?_
    have e81 := Option.some.inj h80
    subst e81
    exact kk [(25, .bool true), (24, .tuple #[]), (23, .tuple #[]), (22, .tuple #[]), (21, .tuple #[]), (20, .tuple #[]), (19, .tuple #[]), (18, .tuple #[]), (17, .tuple #[])] _ ⟨.tuple #[], .tuple #[], .tuple #[], .tuple #[], .tuple #[], .tuple #[], .tuple #[], .tuple #[], Z, Z⟩
   ·have h82 := ifF g79 hy35
    refine U.p Z Z (.inr ⟨_, _, _, Z, Z, ((L 0 Z Z).trans (cB g79))⟩) (S.move Z (L 2 Z Z)) ?_
    refine U.p Z Z (.inr ⟨_, _, _, Z, Z, ((L 1 Z Z).trans (cB g79))⟩) (S.move Z (L 0 Z Z)) ?_
    obtain ⟨y83, hy84, h85⟩ := bindS h82
    refine U.joinX 10 (fun e H => ∃ (u86 u87 u88 u89 u90 : Value), H = V10.H ∧ e = [(24, .bool y83), (23, u86), (22, u87), (21, u88), (20, u89), (19, u90)]) ?_ ?_
    ·rintro _ _ ⟨u86, u87, u88, u89, u90, rfl, rfl⟩
     refine U.p Z Z (.inl Z) (S.pickF Z ((L 8 Z Z).trans (cB g79)) (L 0 Z Z)) ?_
     have e94 := Option.some.inj h85
     subst e94
     exact kk [(25, .bool y83), (24, .bool y83), (23, u86), (22, u87), (21, u88), (20, u89), (19, u90), (18, .bool x20), (17, .bool x20)] _ ⟨.bool y83, u86, u87, u88, u89, u90, .bool x20, .bool x20, Z, Z⟩
    ·intro kk
     refine bcase (b := x20) (fun g95 => ?_) (fun g95 => ?_)
     ·have h96 := ifT g95 hy84
      refine U.p Z Z (.inr ⟨_, _, _, Z, Z, ((L 0 Z Z).trans (cB g95))⟩) (S.move Z (L 10 Z Z)) ?_
      refine U.p Z Z (.inr ⟨_, _, _, Z, Z, ((L 1 Z Z).trans (cB g95))⟩) (S.move Z (L 6 Z Z)) ?_
      obtain ⟨x97, hx98, h99⟩ := bindS h96
      obtain ⟨b100, o101, n102, c103, hv104⟩ := ow12.ospt (k := 0) Z hx98
      obtain ⟨_, hv105, _⟩ := ow12.osel (k := 0) Z hv104 hx98
      refine U.p Z Z (.inr ⟨_, _, _, Z, Z, ((L 2 Z Z).trans (cB g95))⟩) (S.index Z ((L 1 Z Z).trans hv105) (L 0 Z Z) Try.underlying77 ti4 (ix_ge hx98) (ix_lt hx98)) ?_
      obtain ⟨cs106, hv107, hlt108, hr109, hc110⟩ := ow12.osel (k := 0) Z hv104 hx98
      obtain rfl : cs106 = [.bool x97] := hr109
      refine U.k Z Z (.inr ⟨_, _, _, Z, Z, ((L 3 Z Z).trans (cB g95))⟩) (S.load Z (L 0 Z Z) Try.underlying4 Z (hc110 0 _ Z)) nd ?_
      refine U.p Z Z (.inr ⟨_, _, _, Z, Z, ((L 4 Z Z).trans (cB g95))⟩) (S.not Z (L 0 Z Z)) ?_
      refine U.p Z Z (.inr ⟨_, _, _, Z, Z, ((L 7 Z Z).trans (cB g79))⟩) (S.pickT Z ((L 5 Z Z).trans (cB g95)) (L 0 Z Z)) ?_
      have e111 := Option.some.inj h99
      subst e111
      exact kk [(24, .bool (!x97)), (23, .bool (!x97)), (22, .bool x97), (21, .pointer (some ⟨b100, o101 + Int.toNat x7 * 1, none⟩)), (20, .int .i64 x7), (19, v1)] _ ⟨.bool (!x97), .bool x97, .pointer (some ⟨b100, o101 + Int.toNat x7 * 1, none⟩), .int .i64 x7, v1, Z, Z⟩
     ·have h112 := ifF g95 hy84
      refine U.x Z Z Z Z ((L 0 Z Z).trans (cB g95)) (by decide) ?_
      refine U.x Z Z Z Z ((L 1 Z Z).trans (cB g95)) (by decide) ?_
      refine U.x Z Z Z Z ((L 2 Z Z).trans (cB g95)) (by decide) ?_
      refine U.x Z Z Z Z ((L 3 Z Z).trans (cB g95)) (by decide) ?_
      refine U.x Z Z Z Z ((L 4 Z Z).trans (cB g95)) (by decide) ?_
      refine U.p Z Z (.inr ⟨_, _, _, Z, Z, ((L 7 Z Z).trans (cB g79))⟩) (S.pickF Z ((L 5 Z Z).trans (cB g95)) K) ?_
      have e113 := Option.some.inj h112
      subst e113
      exact kk [(24, .bool false), (23, .tuple #[]), (22, .tuple #[]), (21, .tuple #[]), (20, .tuple #[]), (19, .tuple #[])] _ ⟨.tuple #[], .tuple #[], .tuple #[], .tuple #[], .tuple #[], Z, Z⟩
 ·have h114 := ifF c18 h17
  refine WP.exit ?_
  refine sqE (sqE (blkE (sqN ?_)))
  have h115 := exitS h114 e15
  refine WP.usreg Z ?_
  refine U.p Z Z (.inl Z) (S.move Z (L 2 Z Z)) ?_
  refine U.p Z Z (.inl Z) (S.assign Z (L 0 Z Z)) ?_
  refine U.done (nr Z) ?_
  refine WP.ret ?_
  refine fin.slot (.inr Z) Z (L 0 Z Z) ⟨V10, Z, le11, ?_⟩
  have e116 := Option.some.inj h115
  subst e116
  exact ⟨rfl, ow12⟩
theorem wk_slices_Clone (V : Vw) (Rs : List At) (p0 : List Bool) (v1 : Value) (ow : Ow V (.os RT.bool v1 p0 :: Rs)) (r : List Bool) (h : slices_Clone p0 = some r) : ∃ v V', Cl Try.prog 0 48 #[v1] V.H v V'.H ∧ V.le V' ∧ (∃ (v3 : Value), v = v3 ∧ Ow V' (.os RT.bool v3 r :: .os RT.bool v1 p0 :: Rs)) := by
 refine Ct.of (Nat.zero_le _) Try.func48 Z (nr Z) ?_
 unfold slices_Clone at h
 refine WP.usreg Z ?_
 refine U.p Z Z (.inl Z) (S.assign Z K) ?_
 refine U.done (nr Z) ?_
 refine WP.seq ?_
 refine WP.usreg Z ?_
 refine U.p Z Z (.inl Z) (S.move Z (L 1 Z Z)) ?_
 refine U.p Z Z (.inl Z) (ow.oseqNil (k := 0) Z Z (L 0 Z Z) K Try.underlying77) ?_
 refine U.done (nr Z) ?_
 refine WP.cond _ (L 0 Z Z) Z (fun c5 => ?_) (fun c5 => ?_)
 ·have hz := (ow.osnil_of (k := 0) Z c5)
  have h6 : (some [] : Option _) = some r := by simpa [hz, ap, apw] using h
  refine WP.usreg Z ?_
  refine U.p Z Z (.inl Z) (S.assign Z K) ?_
  refine U.done (nr Z) ?_
  refine WP.ret ?_
  refine sqR ?_
  have ow7 := ow.nil RT.bool
  refine fin.slot (.inr Z) Z (L 0 Z Z) ⟨V, Z, (.refl _), ?_⟩
  have e9 := Option.some.inj h6
  subst e9
  exact ⟨(.slice none 0 0), Z, ow7⟩
 ·skip
  refine WP.skip ?_
  refine sqN ?_
  refine WP.usreg Z ?_
  refine O.lit (R := RT.bool) ow Z Z (.inl Z) Z Try.underlying77 ti4 Z Z Z (nr Z) Z aN .nil (fun _ => nd) (fun v10 V11 le12 ow13 => ?_)
  refine U.p Z Z (.inl Z) (S.move Z (L 4 Z Z)) ?_
  obtain ⟨xs15, hx16, h17⟩ := bindS h
  refine O.append (k := 0) ow13 Z Z Z (.inl Z) Z (L 1 Z Z) (L 0 Z Z) Try.underlying77 ti4 Z Z (nr Z) (ow13.src (k := 1) Z Try.underlying77) hx16 (fun _ _ => nd) (fun v18 V19 le20 ow21 => ?_)
  refine U.p Z Z (.inl Z) (S.assign Z (L 0 Z Z)) ?_
  refine U.done (nr Z) ?_
  refine WP.ret ?_
  refine fin.slot (.inr Z) Z (L 0 Z Z) ⟨V19, Z, (le12.trans le20), ?_⟩
  have e23 := Option.some.inj h17
  subst e23
  exact ⟨v18, Z, ow21⟩
theorem wk_ir_Def (V : Vw) (Rs : List At) (p0 : TIns) (v1 : Value) (f2 : Fz (RT.int .i64) V v1 p0.args) (ow : Ow V (Rs)) (r : Int) (h : ir_Def p0 = some r) : ∃ v V', Cl Try.prog 0 29 #[.agg #[.int .i64 p0.op, .int .i64 p0.d, .int .i64 p0.a, .int .i64 p0.b, .int .i64 p0.imm, v1, .int .i64 p0.what, .bool p0.volatile, .bool p0.final]] V.H v V'.H ∧ V.le V' ∧ (v = .int .i64 r ∧ Ow V' (Rs)) := by
 refine Ct.of (Nat.zero_le _) Try.func29 Z (nr Z) ?_
 unfold ir_Def at h
 refine WP.usreg Z ?_
 refine O.box ow Z Z (.inl Z) Z (L 0 Z Z) (by simp [topV]) Z nd (fun b3 V4 le5 ow6 => ?_)
 refine U.p Z Z (.inl Z) (S.assign Z K) ?_
 refine U.done (nr Z) ?_
 refine WP.usreg Z ?_
 refine U.p (v := .pointer (some ⟨b3, 1, none⟩)) Z Z (.inl Z) (S.fieldAddr Z (L 1 Z Z) Try.underlying29 Z ti3 Z Z) ?_
 refine U.k Z Z (.inl Z) (S.load Z (L 0 Z Z) Try.underlying3 Z ((ow6.own (k := 0) Z).cell Z)) nd ?_
 refine U.p Z Z (.inl Z) (S.assign Z (L 0 Z Z)) ?_
 refine U.done (nr Z) ?_
 refine WP.ret ?_
 refine fin.slot (.inr Z) Z (L 0 Z Z) ⟨V4, Z, le5, ?_⟩
 have ow8 := ow6.drop 0 Z
 have e9 := Option.some.inj h
 subst e9
 exact ⟨rfl, ow8⟩
theorem wk_ir_Uses (V : Vw) (Rs : List At) (p0 : TIns) (v1 : Value) (f2 : Fz (RT.int .i64) V v1 p0.args) (ow : Ow V (Rs)) (r : List Int) (h : ir_Uses p0 = some r) : ∃ v V', Cl Try.prog 0 28 #[.agg #[.int .i64 p0.op, .int .i64 p0.d, .int .i64 p0.a, .int .i64 p0.b, .int .i64 p0.imm, v1, .int .i64 p0.what, .bool p0.volatile, .bool p0.final]] V.H v V'.H ∧ V.le V' ∧ (∃ (v3 : Value), v = v3 ∧ Ow V' (.os (RT.int .i64) v3 r :: Rs)) := by
 refine Ct.of (Nat.zero_le _) Try.func28 Z (nr Z) ?_
 unfold ir_Uses at h
 refine WP.usreg Z ?_
 refine O.box ow Z Z (.inl Z) Z (L 0 Z Z) (by simp [topV]) Z nd (fun b5 V6 le7 ow8 => ?_)
 refine U.p Z Z (.inl Z) (S.assign Z K) ?_
 refine U.done (nr Z) ?_
 refine WP.usreg Z ?_
 refine U.p Z Z (.inl Z) (S.assign Z K) ?_
 refine U.done (nr Z) ?_
 refine WP.seq ?_
 refine WP.usreg Z ?_
 refine U.p (v := .pointer (some ⟨b5, 2, none⟩)) Z Z (.inl Z) (S.fieldAddr Z (L 2 Z Z) Try.underlying29 Z ti3 Z Z) ?_
 refine U.k Z Z (.inl Z) (S.load Z (L 0 Z Z) Try.underlying3 Z ((ow8.own (k := 0) Z).cell Z)) nd ?_
 refine U.p (v := .pointer (some ⟨b5, 3, none⟩)) Z Z (.inl Z) (S.fieldAddr Z (L 4 Z Z) Try.underlying29 Z ti3 Z Z) ?_
 refine U.k Z Z (.inl Z) (S.load Z (L 0 Z Z) Try.underlying3 Z ((ow8.own (k := 0) Z).cell Z)) nd ?_
 refine O.lit (R := (RT.int .i64)) ow8 Z Z (.inl Z) Z Try.underlying27 ti3 Z Z Z (nr Z) Z (aC (L 2 Z Z) (aC (L 0 Z Z) aN)) (.cons _ _ p0.a _ (by simp [topV]) Z (.cons _ _ p0.b _ (by simp [topV]) Z .nil)) (fun _ => nd) (fun v10 V11 le12 ow13 => ?_)
 refine U.p (v := .pointer (some ⟨b5, 5, none⟩)) Z Z (.inl Z) (S.fieldAddr Z (L 7 Z Z) Try.underlying29 Z ti27 Z Z) ?_
 refine U.k Z Z (.inl Z) (S.load Z (L 0 Z Z) Try.underlying27 Z ((ow13.own (k := 1) Z).cell Z)) nd ?_
 have f15 := f2.up (le7.trans le12)
 obtain ⟨xs16, hx17, h18⟩ := bindS h
 refine O.appendW (k := 0) ow13 Z Z Z (.inl Z) Z (L 2 Z Z) (L 0 Z Z) Try.underlying27 ti3 Z Z (nr Z) (f15.src Try.underlying27) hx17 (fun _ _ => nd) (fun v19 V20 le21 ow22 => ?_)
 refine U.p Z Z (.inl Z) (ow22.oslen (k := 0) Z Z (L 0 Z Z) Try.underlying27) ?_
 refine U.p Z Z (.inl Z) (S.move Z K) ?_
 refine U.done (nr Z) ?_
 refine WP.blk ?_
 have ow28 := ow22.nil (RT.int .i64)
 have ow30 := ow28.drop 2 Z
 unfold ir_Uses_l1 at h18
 obtain ⟨n32, hn31⟩ := loopO_some.1 h18
 refine WP.loopI2 (fun n l V' => ∃ (v25 : Value) (xs26 : List Int) (x27 : Int), l = [(3, v25), (13, v19), (14, .int .i64 (xs16.length : Int)), (15, .int .i64 x27)] ∧ V20.le V' ∧ Ow V' (.os (RT.int .i64) v25 xs26 :: .os (RT.int .i64) v19 xs16 :: Rs) ∧ itO (fun s => ir_Uses_l1b xs16 s.1 s.2) n (xs26, x27) = some r) n32 _ ⟨(.slice none 0 0), [], 0, Z, .refl _, ow30, hn31⟩ (allCons (L 10 Z Z) (allCons (L 2 Z Z) (allCons (L 1 Z Z) (allCons (L 0 Z Z) allNil)))) ?_
 rintro _ _ V33 ⟨v25, xs26, x27, rfl, le34, ow35, h39⟩
 obtain ⟨m36, q37, rfl, h40, e38⟩ := itS h39
 replace h40 : ir_Uses_l1b xs16 xs26 x27 = some q37 := h40
 unfold ir_Uses_l1b at h40
 refine WP.usreg Z ?_
 refine U.p Z Z (.inl Z) (S.lss Z (L 3 Z Z) (L 2 Z Z)) ?_
 refine U.done (nr Z) ?_
 refine WP.seq ?_
 refine WP.cond _ (L 0 Z Z) Z (fun c41 => ?_) (fun c41 => ?_)
 ·have h42 := ifT c41 h40
  refine WP.skip ?_
  refine sqN ?_
  refine WP.seqI (fun l V' => ∃ (v44 : Value) (xs45 : List Int), l = [(3, v44), (13, v19), (14, .int .i64 (xs16.length : Int)), (15, .int .i64 x27)] ∧ V33.le V' ∧ Ow V' (.os (RT.int .i64) v44 xs45 :: .os (RT.int .i64) v19 xs16 :: Rs) ∧ ir_Uses_k1 x27 xs45 = some q37) ?_ ?_
  ·rintro _ V46 ⟨v44, xs45, rfl, le47, ow48, h49⟩
   unfold ir_Uses_k1 at h49
   refine WP.ureg Z ?_
   refine U.p Z Z (.inl Z) (S.add Z (L 3 Z Z) K) ?_
   refine U.p Z Z (.inl Z) (S.move Z (L 0 Z Z)) ?_
   refine U.done (nr Z) ?_
   refine sqN ?_
   exact ⟨_, V46, Z, ⟨m36, Nat.lt_succ_self _, v44, xs45, w64 (x27 + 1), Z, (le34.trans le47), ow48, backS h49 e38⟩, (allCons (L 2 Z Z) (allCons (L 3 Z Z) (allCons (L 4 Z Z) (allCons (L 0 Z Z) allNil))))⟩
  ·skip
   refine WP.blk ?_
   refine WP.usreg Z ?_
   obtain ⟨x50, hx51, h52⟩ := bindS h42
   obtain ⟨b53, o54, n55, c56, hv57⟩ := ow35.ospt (k := 1) Z hx51
   obtain ⟨_, hv58, _⟩ := ow35.osel (k := 1) Z hv57 hx51
   refine U.p Z Z (.inl Z) (S.index Z ((L 2 Z Z).trans hv58) (L 4 Z Z) Try.underlying27 ti3 (ix_ge hx51) (ix_lt hx51)) ?_
   obtain ⟨cs59, hv60, hlt61, hr62, hc63⟩ := ow35.osel (k := 1) Z hv57 hx51
   obtain rfl : cs59 = [.int .i64 x50] := hr62
   refine U.k Z Z (.inl Z) (S.load Z (L 0 Z Z) Try.underlying3 Z (hc63 0 _ Z)) nd ?_
   refine U.p Z Z (.inl Z) (S.assign Z (L 0 Z Z)) ?_
   refine U.done (nr Z) ?_
   refine WP.usreg Z ?_
   refine U.p Z Z (.inl Z) (S.move Z (L 0 Z Z)) ?_
   refine U.p Z Z (.inl Z) (S.geq Z (L 0 Z Z) K) ?_
   refine U.done (nr Z) ?_
   refine WP.cond _ (L 0 Z Z) Z (fun c64 => ?_) (fun c64 => ?_)
   ·have h65 := ifT c64 h52
    refine WP.ureg Z ?_
    refine U.p Z Z (.inl Z) (S.move Z (L 6 Z Z)) ?_
    refine U.p Z Z (.inl Z) (S.move Z (L 3 Z Z)) ?_
    refine O.lit (R := (RT.int .i64)) ow35 Z Z (.inl Z) Z Try.underlying27 ti3 Z Z Z (nr Z) Z (aC (L 0 Z Z) aN) (.cons _ _ x50 _ (by simp [topV]) Z .nil) (fun _ => nd) (fun v66 V67 le68 ow69 => ?_)
    obtain ⟨xs71, hx72, h73⟩ := bindS h65
    refine O.appendW (k := 1) ow69 Z Z Z (.inl Z) Z (L 2 Z Z) (L 0 Z Z) Try.underlying27 ti3 Z Z (nr Z) (ow69.src (k := 0) Z Try.underlying27) hx72 (fun _ _ => nd) (fun v74 V75 le76 ow77 => ?_)
    refine U.p Z Z (.inl Z) (S.assign Z (L 0 Z Z)) ?_
    refine U.done (nr Z) ?_
    refine blkN (sqN ?_)
    have ow79 := ow77.drop 0 Z
    exact ⟨_, V75, Z, ⟨v74, xs71, Z, (le68.trans le76), ow79, h73⟩, (allCons (L 0 Z Z) (allCons (L 12 Z Z) (allCons (L 13 Z Z) (allCons (L 14 Z Z) allNil))))⟩
   ·have h80 := ifF c64 h52
    refine WP.skip ?_
    refine blkN (sqN ?_)
    exact ⟨_, V33, Z, ⟨v25, xs26, Z, (.refl _), ow35, h80⟩, (allCons (L 6 Z Z) (allCons (L 7 Z Z) (allCons (L 8 Z Z) (allCons (L 9 Z Z) allNil))))⟩
 ·have h81 := ifF c41 h40
  refine WP.exit ?_
  refine sqE (sqE (blkE (sqN ?_)))
  have h82 := exitS h81 e38
  refine WP.usreg Z ?_
  refine U.p Z Z (.inl Z) (S.move Z (L 1 Z Z)) ?_
  refine U.p Z Z (.inl Z) (S.assign Z (L 0 Z Z)) ?_
  refine U.done (nr Z) ?_
  refine WP.ret ?_
  refine fin.slot (.inr Z) Z (L 0 Z Z) ⟨V33, Z, (((le7.trans le12).trans le21).trans le34), ?_⟩
  have ow83 := ow35.drop 1 Z
  have e84 := Option.some.inj h82
  subst e84
  exact ⟨v25, Z, ow83⟩
theorem wk_flow_step (V : Vw) (Rs : List At) (p0 : TIns) (p1 : List Bool) (v1 : Value) (v3 : Value) (f2 : Fz (RT.int .i64) V v1 p0.args) (ow : Ow V (.os RT.bool v3 p1 :: Rs)) (r : List Bool) (h : flow_step p0 p1 = some r) : ∃ v V', Cl Try.prog 0 43 #[.agg #[.int .i64 p0.op, .int .i64 p0.d, .int .i64 p0.a, .int .i64 p0.b, .int .i64 p0.imm, v1, .int .i64 p0.what, .bool p0.volatile, .bool p0.final], v3] V.H v V'.H ∧ V.le V' ∧ (∃ (v5 : Value), v = v5 ∧ Ow V' (.os RT.bool v5 r :: .os RT.bool v3 p1 :: Rs)) := by
 refine Ct.of (Nat.zero_le _) Try.func43 Z (nr Z) ?_
 unfold flow_step at h
 refine WP.usreg Z ?_
 refine O.box ow Z Z (.inl Z) Z (L 0 Z Z) (by simp [topV]) Z nd (fun b7 V8 le9 ow10 => ?_)
 refine U.p Z Z (.inl Z) (S.assign Z K) ?_
 refine U.done (nr Z) ?_
 refine WP.usreg Z ?_
 refine U.p Z Z (.inl Z) (S.move Z (L 3 Z Z)) ?_
 have ow12 := ow10.pick 1 Z
 obtain ⟨x13, hx14, h15⟩ := bindS h
 refine O.call (V := V8) Z Z (.inl Z) Z en48 (aC (L 0 Z Z) aN) (wk_slices_Clone V8 _ p1 v3 ow12 _ hx14) (fun _ _ _ _ => nd) (fun v16 V17 le18 hp19 => ?_)
 obtain ⟨_, rfl, ow20⟩ := hp19
 refine U.p Z Z (.inl Z) (S.assign Z (L 0 Z Z)) ?_
 refine U.done (nr Z) ?_
 refine WP.seqI (fun l V' => ∃ (xs23 : List Bool), l = [(2, .pointer (some ⟨b7, 0, none⟩)), (5, v16)] ∧ V17.le V' ∧ Ow V' (.os RT.bool v3 p1 :: .pt b7 (.cells 0 [.int .i64 p0.op, .int .i64 p0.d, .int .i64 p0.a, .int .i64 p0.b, .int .i64 p0.imm, v1, .int .i64 p0.what, .bool p0.volatile, .bool p0.final]) :: .os RT.bool v16 xs23 :: Rs) ∧ flow_step_k1 p0 xs23 = some r) ?_ ?_
 ·rintro _ V24 ⟨xs23, rfl, le25, ow26, h27⟩
  unfold flow_step_k1 at h27
  refine WP.seq ?_
  refine WP.usreg Z ?_
  refine U.k Z Z (.inl Z) (S.loadB Z (L 0 Z Z) Try.underlying29 Z ti29 (ow26.own (k := 1) Z).get Z) nd ?_
  have f28 := f2.up ((le9.trans le18).trans le25)
  obtain ⟨x29, hx30, h31⟩ := bindS h27
  refine O.call (V := V24) Z Z (.inl Z) Z en28 (aC (L 0 Z Z) aN) (wk_ir_Uses V24 _ p0 v1 f28 ow26 _ hx30) (fun _ _ _ _ => nd) (fun v32 V33 le34 hp35 => ?_)
  obtain ⟨_, rfl, ow36⟩ := hp35
  refine U.p Z Z (.inl Z) (ow36.oslen (k := 0) Z Z (L 0 Z Z) Try.underlying27) ?_
  refine U.p Z Z (.inl Z) (S.move Z K) ?_
  refine U.done (nr Z) ?_
  refine WP.blk ?_
  have ow41 := ow36.drop 2 Z
  have ow42 := ow41.pick 0 Z
  have ow43 := ow42.pick 2 Z
  have ow44 := ow43.pick 2 Z
  unfold flow_step_l1 at h31
  obtain ⟨n46, hn45⟩ := loopO_some.1 h31
  refine WP.loopI2 (fun n l V' => ∃ (xs39 : List Bool) (x40 : Int), l = [(5, v16), (25, v32), (26, .int .i64 (x29.length : Int)), (27, .int .i64 x40)] ∧ V33.le V' ∧ Ow V' (.os RT.bool v3 p1 :: .os RT.bool v16 xs39 :: .os (RT.int .i64) v32 x29 :: Rs) ∧ itO (fun s => flow_step_l1b x29 s.1 s.2) n (xs39, x40) = some r) n46 _ ⟨xs23, 0, Z, .refl _, ow44, hn45⟩ (allCons (L 5 Z Z) (allCons (L 2 Z Z) (allCons (L 1 Z Z) (allCons (L 0 Z Z) allNil)))) ?_
  rintro _ _ V47 ⟨xs39, x40, rfl, le48, ow49, h53⟩
  obtain ⟨m50, q51, rfl, h54, e52⟩ := itS h53
  replace h54 : flow_step_l1b x29 xs39 x40 = some q51 := h54
  unfold flow_step_l1b at h54
  refine WP.usreg Z ?_
  refine U.p Z Z (.inl Z) (S.lss Z (L 3 Z Z) (L 2 Z Z)) ?_
  refine U.done (nr Z) ?_
  refine WP.seq ?_
  refine WP.cond _ (L 0 Z Z) Z (fun c55 => ?_) (fun c55 => ?_)
  ·have h56 := ifT c55 h54
   refine WP.skip ?_
   refine sqN ?_
   refine WP.seqI (fun l V' => ∃ (xs57 : List Bool), l = [(5, v16), (25, v32), (26, .int .i64 (x29.length : Int)), (27, .int .i64 x40)] ∧ V47.le V' ∧ Ow V' (.os RT.bool v3 p1 :: .os RT.bool v16 xs57 :: .os (RT.int .i64) v32 x29 :: Rs) ∧ flow_step_k2 x40 xs57 = some q51) ?_ ?_
   ·rintro _ V58 ⟨xs57, rfl, le59, ow60, h61⟩
    unfold flow_step_k2 at h61
    refine WP.ureg Z ?_
    refine U.p Z Z (.inl Z) (S.add Z (L 3 Z Z) K) ?_
    refine U.p Z Z (.inl Z) (S.move Z (L 0 Z Z)) ?_
    refine U.done (nr Z) ?_
    refine sqN ?_
    exact ⟨_, V58, Z, ⟨m50, Nat.lt_succ_self _, xs57, w64 (x40 + 1), Z, (le48.trans le59), ow60, backS h61 e52⟩, (allCons (L 2 Z Z) (allCons (L 3 Z Z) (allCons (L 4 Z Z) (allCons (L 0 Z Z) allNil))))⟩
   ·skip
    refine WP.blk ?_
    refine WP.usreg Z ?_
    obtain ⟨x62, hx63, h64⟩ := bindS h56
    obtain ⟨b65, o66, n67, c68, hv69⟩ := ow49.ospt (k := 2) Z hx63
    obtain ⟨_, hv70, _⟩ := ow49.osel (k := 2) Z hv69 hx63
    refine U.p Z Z (.inl Z) (S.index Z ((L 2 Z Z).trans hv70) (L 4 Z Z) Try.underlying27 ti3 (ix_ge hx63) (ix_lt hx63)) ?_
    obtain ⟨cs71, hv72, hlt73, hr74, hc75⟩ := ow49.osel (k := 2) Z hv69 hx63
    obtain rfl : cs71 = [.int .i64 x62] := hr74
    refine U.k Z Z (.inl Z) (S.load Z (L 0 Z Z) Try.underlying3 Z (hc75 0 _ Z)) nd ?_
    refine U.p Z Z (.inl Z) (S.assign Z (L 0 Z Z)) ?_
    refine U.done (nr Z) ?_
    refine WP.usreg Z ?_
    refine U.p Z Z (.inl Z) (S.move Z (L 0 Z Z)) ?_
    refine U.p Z Z (.inl Z) (S.move Z (L 5 Z Z)) ?_
    refine U.p Z Z (.inl Z) (ow49.oslen (k := 1) Z Z (L 0 Z Z) Try.underlying77) ?_
    refine U.p Z Z (.inl Z) (S.lss Z (L 2 Z Z) (L 0 Z Z)) ?_
    refine U.done (nr Z) ?_
    refine WP.cond _ (L 0 Z Z) Z (fun c76 => ?_) (fun c76 => ?_)
    ·have h77 := ifT c76 h64
     refine WP.ureg Z ?_
     refine U.p Z Z (.inl Z) (S.move Z (L 8 Z Z)) ?_
     refine U.p Z Z (.inl Z) (S.move Z (L 5 Z Z)) ?_
     obtain ⟨x78, hx79, h80⟩ := bindS h77
     obtain ⟨b81, o82, n83, c84, hv85⟩ := ow49.ospt (k := 1) Z hx79
     obtain ⟨_, hv86, _⟩ := ow49.osel (k := 1) Z hv85 hx79
     refine U.p Z Z (.inl Z) (S.index Z ((L 1 Z Z).trans hv86) (L 0 Z Z) Try.underlying77 ti4 (ix_ge hx79) (ix_lt hx79)) ?_
     obtain ⟨cs87, hv88, hlt89, hr90, hc91⟩ := ow49.osel (k := 1) Z hv85 hx79
     obtain rfl : cs87 = [.bool x78] := hr90
     refine O.storeE (k := 1) (R := RT.bool) (j := 0) (y := true) (cs := [.bool true]) ow49 Z hv88 Z Z (.inl Z) Z (L 0 Z Z) K ti4 hx79 (by simp [topV]) Z Z Z (full Z) (fun _ _ => nd) (fun V92 le93 ow94 => ?_)
     refine U.done (nr Z) ?_
     refine blkN (sqN ?_)
     exact ⟨_, V92, Z, ⟨xs39.set (Int.toNat x62) true, Z, le93, ow94, h80⟩, (allCons (L 11 Z Z) (allCons (L 12 Z Z) (allCons (L 13 Z Z) (allCons (L 14 Z Z) allNil))))⟩
    ·have h95 := ifF c76 h64
     refine WP.skip ?_
     refine blkN (sqN ?_)
     exact ⟨_, V47, Z, ⟨xs39, Z, (.refl _), ow49, h95⟩, (allCons (L 8 Z Z) (allCons (L 9 Z Z) (allCons (L 10 Z Z) (allCons (L 11 Z Z) allNil))))⟩
  ·have h96 := ifF c55 h54
   refine WP.exit ?_
   refine sqE (sqE (blkE (sqN ?_)))
   have h97 := exitS h96 e52
   refine WP.usreg Z ?_
   refine U.p Z Z (.inl Z) (S.move Z (L 1 Z Z)) ?_
   refine U.p Z Z (.inl Z) (S.assign Z (L 0 Z Z)) ?_
   refine U.done (nr Z) ?_
   refine WP.ret ?_
   refine fin.slot (.inr Z) Z (L 0 Z Z) ⟨V47, Z, ((((le9.trans le18).trans le25).trans le34).trans le48), ?_⟩
   have ow98 := ow49.drop 2 Z
   have ow99 := ow98.pick 0 Z
   have ow100 := ow99.pick 1 Z
   have e101 := Option.some.inj h97
   subst e101
   exact ⟨v16, Z, ow100⟩
 ·skip
  refine WP.usreg Z ?_
  refine U.k Z Z (.inl Z) (S.loadB Z (L 4 Z Z) Try.underlying29 Z ti29 (ow20.own (k := 2) Z).get Z) nd ?_
  have f102 := f2.up (le9.trans le18)
  obtain ⟨x103, hx104, h105⟩ := bindS h15
  refine O.call (V := V17) Z Z (.inl Z) Z en29 (aC (L 0 Z Z) aN) (wk_ir_Def V17 _ p0 v1 f102 ow20 _ hx104) (fun _ _ _ _ => nd) (fun v106 V107 le108 hp109 => ?_)
  obtain ⟨rfl, ow110⟩ := hp109
  refine U.p Z Z (.inl Z) (S.assign Z (L 0 Z Z)) ?_
  refine U.done (nr Z) ?_
  refine WP.usreg Z ?_
  refine U.p Z Z (.inl Z) (S.move Z (L 0 Z Z)) ?_
  refine U.p Z Z (.inl Z) (S.geq Z (L 0 Z Z) K) ?_
  refine U.p Z Z (.inl Z) (S.move Z (L 0 Z Z)) ?_
  refine U.joinX 8 (fun e H => ∃ (u111 u112 u113 u114 : Value), H = V107.H ∧ e = [(20, .bool ((decide (0 ≤ x103)) && (decide (x103 < (x13.length : Int))))), (19, u111), (18, u112), (17, u113), (16, u114)]) ?_ ?_
  ·rintro _ _ ⟨u111, u112, u113, u114, rfl, rfl⟩
   refine U.done (nr Z) ?_
   refine WP.cond _ (L 0 Z Z) Z (fun c118 => ?_) (fun c118 => ?_)
   ·have h119 := ifT c118 h105
    refine WP.ureg Z ?_
    refine U.p Z Z (.inl Z) (S.move Z (L 11 Z Z)) ?_
    refine U.p Z Z (.inl Z) (S.move Z (L 9 Z Z)) ?_
    obtain ⟨x120, hx121, h122⟩ := bindS h119
    obtain ⟨b123, o124, n125, c126, hv127⟩ := ow110.ospt (k := 0) Z hx121
    obtain ⟨_, hv128, _⟩ := ow110.osel (k := 0) Z hv127 hx121
    refine U.p Z Z (.inl Z) (S.index Z ((L 1 Z Z).trans hv128) (L 0 Z Z) Try.underlying77 ti4 (ix_ge hx121) (ix_lt hx121)) ?_
    obtain ⟨cs129, hv130, hlt131, hr132, hc133⟩ := ow110.osel (k := 0) Z hv127 hx121
    obtain rfl : cs129 = [.bool x120] := hr132
    refine O.storeE (k := 0) (R := RT.bool) (j := 0) (y := false) (cs := [.bool false]) ow110 Z hv130 Z Z (.inl Z) Z (L 0 Z Z) K ti4 hx121 (by simp [topV]) Z Z Z (full Z) (fun _ _ => nd) (fun V134 le135 ow136 => ?_)
    refine U.done (nr Z) ?_
    refine sqN ?_
    have ow137 := ow136.pick 0 Z
    have ow138 := ow137.pick 2 Z
    have ow139 := ow138.pick 2 Z
    exact ⟨_, V134, Z, ⟨x13.set (Int.toNat x103) false, Z, (le108.trans le135), ow139, h122⟩, (allCons (L 18 Z Z) (allCons (L 14 Z Z) allNil))⟩
   ·have h140 := ifF c118 h105
    refine WP.skip ?_
    refine sqN ?_
    have ow141 := ow110.pick 0 Z
    have ow142 := ow141.pick 2 Z
    have ow143 := ow142.pick 2 Z
    exact ⟨_, V107, Z, ⟨x13, Z, le108, ow143, h140⟩, (allCons (L 15 Z Z) (allCons (L 11 Z Z) allNil))⟩
  ·intro kk
   refine bcase (b := decide (0 ≤ x103)) (fun g144 => ?_) (fun g144 => ?_)
   ·skip
    refine U.p Z Z (.inr ⟨_, _, _, Z, Z, ((L 0 Z Z).trans (cB g144))⟩) (S.move Z (L 3 Z Z)) ?_
    refine U.p Z Z (.inr ⟨_, _, _, Z, Z, ((L 1 Z Z).trans (cB g144))⟩) (S.move Z (L 7 Z Z)) ?_
    refine U.p Z Z (.inr ⟨_, _, _, Z, Z, ((L 2 Z Z).trans (cB g144))⟩) (ow110.oslen (k := 0) Z Z (L 0 Z Z) Try.underlying77) ?_
    refine U.p Z Z (.inr ⟨_, _, _, Z, Z, ((L 3 Z Z).trans (cB g144))⟩) (S.lss Z (L 2 Z Z) (L 0 Z Z)) ?_
    refine U.p Z Z (.inl Z) (S.pickT Z ((L 4 Z Z).trans (cB g144)) (L 0 Z Z)) ?_
    exact kk [(20, .bool (decide (x103 < (x13.length : Int)))), (19, .bool (decide (x103 < (x13.length : Int)))), (18, .int .i64 (x13.length : Int)), (17, v16), (16, .int .i64 x103)] _ ⟨.bool (decide (x103 < (x13.length : Int))), .int .i64 (x13.length : Int), v16, .int .i64 x103, Z, (by rw [g144, Bool.true_and])⟩
   ·skip
    refine U.x Z Z Z Z ((L 0 Z Z).trans (cB g144)) (by decide) ?_
    refine U.x Z Z Z Z ((L 1 Z Z).trans (cB g144)) (by decide) ?_
    refine U.x Z Z Z Z ((L 2 Z Z).trans (cB g144)) (by decide) ?_
    refine U.x Z Z Z Z ((L 3 Z Z).trans (cB g144)) (by decide) ?_
    refine U.p Z Z (.inl Z) (S.pickF Z ((L 4 Z Z).trans (cB g144)) K) ?_
    exact kk [(20, .bool false), (19, .tuple #[]), (18, .tuple #[]), (17, .tuple #[]), (16, .tuple #[])] _ ⟨.tuple #[], .tuple #[], .tuple #[], .tuple #[], Z, (by rw [g144, Bool.false_and])⟩
theorem wk_flow_Live (V : Vw) (Rs : List At) (p0 : TFunc) (v1 : Value) (f2 : Fz RT_TIns V v1 p0.code) (ow : Ow V (Rs)) (r : List (List Bool)) (h : flow_Live p0 = some r) : ∃ v V', Cl Try.prog 0 27 #[.agg #[.string p0.name, .int .i64 p0.params, .int .i64 p0.regs, v1]] V.H v V'.H ∧ V.le V' ∧ (∃ (v3 : Value), v = v3 ∧ Ow V' (.os (RT.sl RT.bool) v3 r :: Rs)) := by
 refine Ct.of (Nat.zero_le _) Try.func27 Z (nr Z) ?_
 unfold flow_Live at h
 refine WP.usreg Z ?_
 refine O.box ow Z Z (.inl Z) Z (L 0 Z Z) (by simp [topV]) Z nd (fun b5 V6 le7 ow8 => ?_)
 refine U.p Z Z (.inl Z) (S.assign Z K) ?_
 refine U.done (nr Z) ?_
 refine WP.usreg Z ?_
 refine U.p (v := .pointer (some ⟨b5, 3, none⟩)) Z Z (.inl Z) (S.fieldAddr Z (L 1 Z Z) Try.underlying24 Z ti22 Z Z) ?_
 refine U.k Z Z (.inl Z) (S.load Z (L 0 Z Z) Try.underlying22 Z ((ow8.own (k := 0) Z).cell Z)) nd ?_
 refine U.p Z Z (.inl Z) (f2.1.len Z (L 0 Z Z) Try.underlying22) ?_
 obtain ⟨xs10, hx11, h12⟩ := bindS h
 refine O.makeS (RO.os RT.bool) ow8 Z Z (.inl Z) Z (L 0 Z Z) (L 0 Z Z) Try.underlying75 ti77 Z Z (nr Z) ⟨Nat.zero_le _, .inl ⟨rfl, Z, Z⟩⟩ hx11 (fun _ => nd) (fun v13 hs14 V15 le16 ow17 => ?_)
 refine U.p Z Z (.inl Z) (S.assign Z (L 0 Z Z)) ?_
 refine U.done (nr Z) ?_
 refine WP.usreg Z ?_
 refine U.p (v := .pointer (some ⟨b5, 3, none⟩)) Z Z (.inl Z) (S.fieldAddr Z (L 6 Z Z) Try.underlying24 Z ti22 Z Z) ?_
 refine U.k Z Z (.inl Z) (S.load Z (L 0 Z Z) Try.underlying22 Z ((ow17.own (k := 1) Z).cell Z)) nd ?_
 refine U.p Z Z (.inl Z) (f2.1.len Z (L 0 Z Z) Try.underlying22) ?_
 obtain ⟨xs19, hx20, h21⟩ := bindS h12
 refine O.makeS (RO.os (RT.int .i64)) ow17 Z Z (.inl Z) Z (L 0 Z Z) (L 0 Z Z) Try.underlying76 ti27 Z Z (nr Z) ⟨Nat.zero_le _, .inl ⟨rfl, Z, Z⟩⟩ hx20 (fun _ => nd) (fun v22 hs23 V24 le25 ow26 => ?_)
 refine U.p Z Z (.inl Z) (S.assign Z (L 0 Z Z)) ?_
 refine U.done (nr Z) ?_
 refine WP.seq ?_
 refine WP.usreg Z ?_
 refine U.p Z Z (.inl Z) (S.move Z (L 5 Z Z)) ?_
 refine U.p Z Z (.inl Z) (ow26.sslen (k := 1) Z Z (L 0 Z Z) Try.underlying75) ?_
 refine U.p Z Z (.inl Z) (S.move Z K) ?_
 refine U.done (nr Z) ?_
 refine WP.blk ?_
 have ow33 := ow26.pick 0 Z
 have ow34 := ow33.pick 1 Z
 have ow35 := ow34.pick 2 Z
 unfold flow_Live_l1 at h21
 obtain ⟨n37, hn36⟩ := loopO_some.1 h21
 refine WP.loopI2 (fun n l V' => ∃ (hs28 : List Value) (xs29 : List (List Bool)) (hs30 : List Value) (xs31 : List (List Int)) (x32 : Int), l = [(1, .pointer (some ⟨b5, 0, none⟩)), (3, v13), (4, v22), (23, .int .i64 (xs10.length : Int)), (24, .int .i64 x32)] ∧ V24.le V' ∧ Ow V' (.pt b5 (.cells 0 [.string p0.name, .int .i64 p0.params, .int .i64 p0.regs, v1]) :: .oss (RO.os RT.bool) v13 hs28 xs29 :: .oss (RO.os (RT.int .i64)) v22 hs30 xs31 :: Rs) ∧ itO (fun s => flow_Live_l1b p0 xs10 s.1 s.2.1 s.2.2) n (xs29, xs31, x32) = some r) n37 _ ⟨hs14, xs10, hs23, xs19, 0, Z, .refl _, ow35, hn36⟩ (allCons (L 14 Z Z) (allCons (L 8 Z Z) (allCons (L 3 Z Z) (allCons (L 1 Z Z) (allCons (L 0 Z Z) allNil))))) ?_
 rintro _ _ V38 ⟨hs28, xs29, hs30, xs31, x32, rfl, le39, ow40, h44⟩
 obtain ⟨m41, q42, rfl, h45, e43⟩ := itS h44
 replace h45 : flow_Live_l1b p0 xs10 xs29 xs31 x32 = some q42 := h45
 unfold flow_Live_l1b at h45
 refine WP.usreg Z ?_
 refine U.p Z Z (.inl Z) (S.lss Z (L 4 Z Z) (L 3 Z Z)) ?_
 refine U.done (nr Z) ?_
 refine WP.seq ?_
 refine WP.cond _ (L 0 Z Z) Z (fun c46 => ?_) (fun c46 => ?_)
 ·have h47 := ifT c46 h45
  refine WP.skip ?_
  refine sqN ?_
  refine WP.seq ?_
  refine WP.blk ?_
  refine WP.usreg Z ?_
  refine U.p Z Z (.inl Z) (S.move Z (L 5 Z Z)) ?_
  refine U.p Z Z (.inl Z) (S.assign Z (L 0 Z Z)) ?_
  refine U.done (nr Z) ?_
  refine WP.usreg Z ?_
  refine U.p Z Z (.inl Z) (S.move Z (L 4 Z Z)) ?_
  refine U.p Z Z (.inl Z) (S.move Z (L 1 Z Z)) ?_
  refine U.p (v := .pointer (some ⟨b5, 2, none⟩)) Z Z (.inl Z) (S.fieldAddr Z (L 5 Z Z) Try.underlying24 Z ti3 Z Z) ?_
  refine U.k Z Z (.inl Z) (S.load Z (L 0 Z Z) Try.underlying3 Z ((ow40.own (k := 0) Z).cell Z)) nd ?_
  refine U.p Z Z (.inl Z) (S.maxI Z (L 0 Z Z) K) ?_
  obtain ⟨xs48, hx49, h50⟩ := bindS h47
  refine O.make (R := RT.bool) ow40 Z Z (.inl Z) Z (L 0 Z Z) (L 0 Z Z) Try.underlying77 ti4 Z Z Z (nr Z) Z hx49 (fun _ => nd) (fun v51 V52 le53 ow54 => ?_)
  obtain ⟨x56, hx57, h58⟩ := bindS h50
  obtain ⟨b59, o60, n61, c62, hv63⟩ := ow54.sspt (k := 2) Z hx57
  refine U.p Z Z (.inl Z) (S.index Z ((L 5 Z Z).trans (ow54.sslen' (k := 2) Z hv63)) (L 4 Z Z) Try.underlying75 ti77 (ix_ge hx57) (ix_lt hx57)) ?_
  obtain ⟨h64, hh65, ow66⟩ := ow54.ssopen (k := 2) Z hx57
  have ow68 := ow66.drop 0 Z
  refine O.storeH (k := 2) ow68 Z hv63 Z Z (.inl Z) Z (L 0 Z Z) (L 1 Z Z) ti77 (ow68.osne (k := 0) Z) (by rw [ow68.oscells (k := 0) rfl]) (ow68.osone (k := 0) Z) (fun _ _ => nd) (fun V69 le70 ow71 => ?_)
  have hh72 := ow71.shset (k := 2) Z
  refine U.done (nr Z) ?_
  refine WP.ureg Z ?_
  refine U.p Z Z (.inl Z) (S.move Z (L 12 Z Z)) ?_
  refine U.p Z Z (.inl Z) (S.move Z (L 8 Z Z)) ?_
  refine U.k Z Z (.inl Z) (S.loadB Z (L 12 Z Z) Try.underlying24 Z ti24 (ow71.own (k := 1) Z).get Z) nd ?_
  refine U.p Z Z (.inl Z) (S.move Z (L 10 Z Z)) ?_
  have f73 := f2.up (((((le7.trans le16).trans le25).trans le39).trans le53).trans le70)
  obtain ⟨x74, hx75, h76⟩ := bindS h58
  refine O.call (V := V69) Z Z (.inl Z) Z en41 (aC (L 1 Z Z) (aC (L 0 Z Z) aN)) (wk_flow_Next V69 _ p0 x32 v1 f73 ow71 _ hx75) (fun _ _ _ _ => nd) (fun v77 V78 le79 hp80 => ?_)
  obtain ⟨_, rfl, ow81⟩ := hp80
  obtain ⟨x84, hx85, h86⟩ := bindS h76
  obtain ⟨b87, o88, n89, c90, hv91⟩ := ow81.sspt (k := 4) Z hx85
  refine U.p Z Z (.inl Z) (S.index Z ((L 4 Z Z).trans (ow81.sslen' (k := 4) Z hv91)) (L 3 Z Z) Try.underlying76 ti27 (ix_ge hx85) (ix_lt hx85)) ?_
  obtain ⟨h92, hh93, ow94⟩ := ow81.ssopen (k := 4) Z hx85
  have ow96 := ow94.drop 0 Z
  refine O.storeH (k := 4) ow96 Z hv91 Z Z (.inl Z) Z (L 0 Z Z) (L 1 Z Z) ti27 (ow96.osne (k := 0) Z) (by rw [ow96.oscells (k := 0) rfl]) (ow96.osone (k := 0) Z) (fun _ _ => nd) (fun V97 le98 ow99 => ?_)
  have hh100 := ow99.shset (k := 4) Z
  refine U.done (nr Z) ?_
  refine blkN (sqN ?_)
  refine WP.ureg Z ?_
  refine U.p Z Z (.inl Z) (S.add Z (L 20 Z Z) K) ?_
  refine U.p Z Z (.inl Z) (S.move Z (L 0 Z Z)) ?_
  refine U.done (nr Z) ?_
  refine sqN ?_
  have ow101 := ow99.ssclose (k := 3) (j := 1) Z Z (by decide) hh72
  have ow102 := ow101.ssclose (k := 3) (j := 0) Z Z (by decide) hh100
  exact ⟨_, V97, Z, ⟨m41, Nat.lt_succ_self _, hs28.set (Int.toNat x32) v51, xs29.set (Int.toNat x32) xs48, hs30.set (Int.toNat x32) v77, xs31.set (Int.toNat x32) x74, w64 (x32 + 1), Z, ((((le39.trans le53).trans le70).trans le79).trans le98), ow102, backS h86 e43⟩, (allCons (L 18 Z Z) (allCons (L 19 Z Z) (allCons (L 20 Z Z) (allCons (L 21 Z Z) (allCons (L 0 Z Z) allNil)))))⟩
 ·have h103 := ifF c46 h45
  refine WP.exit ?_
  refine sqE (sqE (blkE (sqN ?_)))
  have h104 := exitS h103 e43
  refine WP.seq ?_
  refine WP.usreg Z ?_
  refine U.p Z Z (.inl Z) (S.assign Z K) ?_
  refine U.done (nr Z) ?_
  refine WP.blk ?_
  unfold flow_Live_l2 at h104
  obtain ⟨n108, hn107⟩ := loopO_some.1 h104
  refine WP.loopI2 (fun n l V' => ∃ (xs105 : List (List Bool)) (x106 : Bool), l = [(1, .pointer (some ⟨b5, 0, none⟩)), (3, v13), (4, v22), (6, .bool x106)] ∧ V38.le V' ∧ Ow V' (.pt b5 (.cells 0 [.string p0.name, .int .i64 p0.params, .int .i64 p0.regs, v1]) :: .oss (RO.os RT.bool) v13 hs28 xs105 :: .oss (RO.os (RT.int .i64)) v22 hs30 xs31 :: Rs) ∧ itO (fun s => flow_Live_l2b p0 xs31 s.1 s.2) n (xs105, x106) = some r) n108 _ ⟨xs29, true, Z, .refl _, ow40, hn107⟩ (allCons (L 2 Z Z) (allCons (L 3 Z Z) (allCons (L 4 Z Z) (allCons (L 0 Z Z) allNil)))) ?_
  rintro _ _ V109 ⟨xs105, x106, rfl, le110, ow111, h115⟩
  obtain ⟨m112, q113, rfl, h116, e114⟩ := itS h115
  replace h116 : flow_Live_l2b p0 xs31 xs105 x106 = some q113 := h116
  unfold flow_Live_l2b at h116
  refine WP.seq ?_
  refine WP.usreg Z ?_
  refine U.p Z Z (.inl Z) (S.move Z (L 3 Z Z)) ?_
  refine U.done (nr Z) ?_
  refine WP.cond _ (L 0 Z Z) Z (fun c117 => ?_) (fun c117 => ?_)
  ·have h118 := ifT c117 h116
   refine WP.skip ?_
   refine sqN ?_
   refine WP.blk ?_
   refine WP.usreg Z ?_
   refine U.p Z Z (.inl Z) (S.assign Z K) ?_
   refine U.done (nr Z) ?_
   refine WP.usreg Z ?_
   refine U.p (v := .pointer (some ⟨b5, 3, none⟩)) Z Z (.inl Z) (S.fieldAddr Z (L 2 Z Z) Try.underlying24 Z ti22 Z Z) ?_
   refine U.k Z Z (.inl Z) (S.load Z (L 0 Z Z) Try.underlying22 Z ((ow111.own (k := 0) Z).cell Z)) nd ?_
   refine U.p Z Z (.inl Z) (f2.1.len Z (L 0 Z Z) Try.underlying22) ?_
   refine U.p Z Z (.inl Z) (S.sub Z (L 0 Z Z) K) ?_
   refine U.p Z Z (.inl Z) (S.assign Z (L 0 Z Z)) ?_
   refine U.done (nr Z) ?_
   refine WP.blk ?_
   unfold flow_Live_l3 at h118
   obtain ⟨n123, hn122⟩ := loopO_some.1 h118
   refine WP.loopI2 (fun n l V' => ∃ (xs119 : List (List Bool)) (x120 : Bool) (x121 : Int), l = [(1, .pointer (some ⟨b5, 0, none⟩)), (3, v13), (4, v22), (6, .bool x120), (7, .int .i64 x121)] ∧ V109.le V' ∧ Ow V' (.pt b5 (.cells 0 [.string p0.name, .int .i64 p0.params, .int .i64 p0.regs, v1]) :: .oss (RO.os RT.bool) v13 hs28 xs119 :: .oss (RO.os (RT.int .i64)) v22 hs30 xs31 :: Rs) ∧ itO (fun s => flow_Live_l3b p0 xs31 s.1 s.2.1 s.2.2) n (xs119, x120, x121) = some q113) n123 _ ⟨xs105, false, w64 ((p0.code.length : Int) - 1), Z, .refl _, ow111, hn122⟩ (allCons (L 7 Z Z) (allCons (L 8 Z Z) (allCons (L 9 Z Z) (allCons (L 5 Z Z) (allCons (L 0 Z Z) allNil))))) ?_
   rintro _ _ V124 ⟨xs119, x120, x121, rfl, le125, ow126, h130⟩
   obtain ⟨m127, q128, rfl, h131, e129⟩ := itS h130
   replace h131 : flow_Live_l3b p0 xs31 xs119 x120 x121 = some q128 := h131
   unfold flow_Live_l3b at h131
   refine WP.seq ?_
   refine WP.usreg Z ?_
   refine U.p Z Z (.inl Z) (S.move Z (L 4 Z Z)) ?_
   refine U.p Z Z (.inl Z) (S.geq Z (L 0 Z Z) K) ?_
   refine U.done (nr Z) ?_
   refine WP.cond _ (L 0 Z Z) Z (fun c132 => ?_) (fun c132 => ?_)
   ·have h133 := ifT c132 h131
    refine WP.skip ?_
    refine sqN ?_
    refine WP.seqI (fun l V' => ∃ (xs134 : List (List Bool)) (x135 : Bool), l = [(1, .pointer (some ⟨b5, 0, none⟩)), (3, v13), (4, v22), (6, .bool x135), (7, .int .i64 x121)] ∧ V124.le V' ∧ Ow V' (.pt b5 (.cells 0 [.string p0.name, .int .i64 p0.params, .int .i64 p0.regs, v1]) :: .oss (RO.os RT.bool) v13 hs28 xs134 :: .oss (RO.os (RT.int .i64)) v22 hs30 xs31 :: Rs) ∧ flow_Live_k1 x121 xs134 x135 = some q128) ?_ ?_
    ·rintro _ V136 ⟨xs134, x135, rfl, le137, ow138, h139⟩
     unfold flow_Live_k1 at h139
     refine WP.ureg Z ?_
     refine U.p Z Z (.inl Z) (S.move Z (L 4 Z Z)) ?_
     refine U.p Z Z (.inl Z) (S.sub Z (L 0 Z Z) K) ?_
     refine U.p Z Z (.inl Z) (S.assign Z (L 0 Z Z)) ?_
     refine U.done (nr Z) ?_
     refine sqN ?_
     exact ⟨_, V136, Z, ⟨m127, Nat.lt_succ_self _, xs134, x135, w64 (x121 - 1), Z, (le125.trans le137), ow138, backS h139 e129⟩, (allCons (L 3 Z Z) (allCons (L 4 Z Z) (allCons (L 5 Z Z) (allCons (L 6 Z Z) (allCons (L 0 Z Z) allNil)))))⟩
    ·skip
     refine WP.blk ?_
     refine WP.usreg Z ?_
     refine U.p (v := .pointer (some ⟨b5, 2, none⟩)) Z Z (.inl Z) (S.fieldAddr Z (L 2 Z Z) Try.underlying24 Z ti3 Z Z) ?_
     refine U.k Z Z (.inl Z) (S.load Z (L 0 Z Z) Try.underlying3 Z ((ow126.own (k := 0) Z).cell Z)) nd ?_
     refine U.p Z Z (.inl Z) (S.maxI Z (L 0 Z Z) K) ?_
     obtain ⟨xs140, hx141, h142⟩ := bindS h133
     refine O.make (R := RT.bool) ow126 Z Z (.inl Z) Z (L 0 Z Z) (L 0 Z Z) Try.underlying77 ti4 Z Z Z (nr Z) Z hx141 (fun _ => nd) (fun v143 V144 le145 ow146 => ?_)
     refine U.p Z Z (.inl Z) (S.assign Z (L 0 Z Z)) ?_
     refine U.done (nr Z) ?_
     refine WP.seq ?_
     refine WP.usreg Z ?_
     refine U.p Z Z (.inl Z) (S.move Z (L 9 Z Z)) ?_
     refine U.p Z Z (.inl Z) (S.move Z (L 12 Z Z)) ?_
     obtain ⟨x148, hx149, h150⟩ := bindS h142
     obtain ⟨b151, o152, n153, c154, hv155⟩ := ow146.sspt (k := 3) Z hx149
     refine U.p Z Z (.inl Z) (S.index Z ((L 1 Z Z).trans (ow146.sslen' (k := 3) Z hv155)) (L 0 Z Z) Try.underlying76 ti27 (ix_ge hx149) (ix_lt hx149)) ?_
     obtain ⟨h156, hh157, ow158⟩ := ow146.ssopen (k := 3) Z hx149
     have hcl160 := ow158.shcell (k := 4) Z hv155 hh157
     refine U.k Z Z (.inl Z) (S.load Z (L 0 Z Z) Try.underlying27 Z hcl160.2) nd ?_
     refine U.p Z Z (.inl Z) (ow158.oslen (k := 0) Z Z (L 0 Z Z) Try.underlying27) ?_
     refine U.p Z Z (.inl Z) (S.move Z K) ?_
     refine U.done (nr Z) ?_
     refine WP.blk ?_
     have ow161 := ow158.ssclose' (k := 4) (j := 0) Z Z (by decide) hh157 hx149
     have ow164 := ow161.pick 0 Z
     have ow165 := ow164.pick 3 Z
     have ow166 := ow165.pick 3 Z
     have ow167 := ow166.pick 3 Z
     unfold flow_Live_l4 at h150
     obtain ⟨n169, hn168⟩ := loopO_some.1 h150
     refine WP.loopI2 (fun n l V' => ∃ (xs162 : List Bool) (x163 : Int), l = [(1, .pointer (some ⟨b5, 0, none⟩)), (3, v13), (4, v22), (6, .bool x120), (7, .int .i64 x121), (8, v143), (57, h156), (58, .int .i64 (x148.length : Int)), (59, .int .i64 x163)] ∧ V144.le V' ∧ Ow V' (.pt b5 (.cells 0 [.string p0.name, .int .i64 p0.params, .int .i64 p0.regs, v1]) :: .oss (RO.os RT.bool) v13 hs28 xs119 :: .oss (RO.os (RT.int .i64)) v22 hs30 xs31 :: .os RT.bool v143 xs162 :: Rs) ∧ itO (fun s => flow_Live_l4b p0 xs31 xs119 x120 x121 x148 s.1 s.2) n (xs162, x163) = some q128) n169 _ ⟨xs140, 0, Z, .refl _, ow167, hn168⟩ (allCons (L 13 Z Z) (allCons (L 14 Z Z) (allCons (L 15 Z Z) (allCons (L 16 Z Z) (allCons (L 17 Z Z) (allCons (L 6 Z Z) (allCons (L 2 Z Z) (allCons (L 1 Z Z) (allCons (L 0 Z Z) allNil))))))))) ?_
     rintro _ _ V170 ⟨xs162, x163, rfl, le171, ow172, h176⟩
     obtain ⟨m173, q174, rfl, h177, e175⟩ := itS h176
     replace h177 : flow_Live_l4b p0 xs31 xs119 x120 x121 x148 xs162 x163 = some q174 := h177
     unfold flow_Live_l4b at h177
     refine WP.usreg Z ?_
     refine U.p Z Z (.inl Z) (S.lss Z (L 8 Z Z) (L 7 Z Z)) ?_
     refine U.done (nr Z) ?_
     refine WP.seq ?_
     refine WP.cond _ (L 0 Z Z) Z (fun c178 => ?_) (fun c178 => ?_)
     ·have h179 := ifT c178 h177
      refine WP.skip ?_
      refine sqN ?_
      refine WP.seq ?_
      refine WP.blk ?_
      refine WP.usreg Z ?_
      obtain ⟨x180, hx181, h182⟩ := bindS h179
      obtain ⟨h183, hh184, ow185⟩ := ow172.ssopen (k := 2) Z hx181
      obtain rfl : h183 = h156 := Option.some.inj (hh184.symm.trans hh157)
      obtain ⟨x187, hx188, h189⟩ := bindS h182
      obtain ⟨b190, o191, n192, c193, hv194⟩ := ow185.ospt (k := 0) Z hx188
      obtain ⟨_, hv195, _⟩ := ow185.osel (k := 0) Z hv194 hx188
      refine U.p Z Z (.inl Z) (S.index Z ((L 7 Z Z).trans hv195) (L 9 Z Z) Try.underlying27 ti3 (ix_ge hx188) (ix_lt hx188)) ?_
      obtain ⟨cs196, hv197, hlt198, hr199, hc200⟩ := ow185.osel (k := 0) Z hv194 hx188
      obtain rfl : cs196 = [.int .i64 x187] := hr199
      refine U.k Z Z (.inl Z) (S.load Z (L 0 Z Z) Try.underlying3 Z (hc200 0 _ Z)) nd ?_
      refine U.p Z Z (.inl Z) (S.assign Z (L 0 Z Z)) ?_
      refine U.done (nr Z) ?_
      refine WP.ureg Z ?_
      refine U.p Z Z (.inl Z) (S.move Z (L 9 Z Z)) ?_
      refine U.p Z Z (.inl Z) (S.move Z (L 6 Z Z)) ?_
      refine U.p Z Z (.inl Z) (S.move Z (L 2 Z Z)) ?_
      obtain ⟨x201, hx202, h203⟩ := bindS h189
      obtain ⟨b204, o205, n206, c207, hv208⟩ := ow185.sspt (k := 2) Z hx202
      refine U.p Z Z (.inl Z) (S.index Z ((L 1 Z Z).trans (ow185.sslen' (k := 2) Z hv208)) (L 0 Z Z) Try.underlying75 ti77 (ix_ge hx202) (ix_lt hx202)) ?_
      obtain ⟨h209, hh210, ow211⟩ := ow185.ssopen (k := 2) Z hx202
      have hcl213 := ow211.shcell (k := 3) Z hv208 hh210
      refine U.k Z Z (.inl Z) (S.load Z (L 0 Z Z) Try.underlying77 Z hcl213.2) nd ?_
      have ow214 := ow211.pick 5 Z
      obtain ⟨x215, hx216, h217⟩ := bindS h203
      refine O.call (V := V170) Z Z (.inl Z) Z en42 (aC (L 4 Z Z) (aC (L 0 Z Z) aN)) (wk_flow_set_merge V170 _ xs162 x201 v143 h209 ow214 _ hx216) (fun _ _ _ _ => nd) (fun v218 V219 le220 hp221 => ?_)
      obtain ⟨rfl, ow222⟩ := hp221
      refine U.done (nr Z) ?_
      refine blkN (sqN ?_)
      refine WP.ureg Z ?_
      refine U.p Z Z (.inl Z) (S.add Z (L 18 Z Z) K) ?_
      refine U.p Z Z (.inl Z) (S.move Z (L 0 Z Z)) ?_
      refine U.done (nr Z) ?_
      refine sqN ?_
      have ow223 := ow222.ssclose' (k := 4) (j := 1) Z Z (by decide) hh210 hx202
      have ow224 := ow223.ssclose' (k := 4) (j := 1) Z Z (by decide) hh157 hx181
      have ow225 := ow224.pick 0 Z
      have ow226 := ow225.pick 3 Z
      have ow227 := ow226.pick 3 Z
      have ow228 := ow227.pick 3 Z
      exact ⟨_, V219, Z, ⟨m173, Nat.lt_succ_self _, x215.2, w64 (x163 + 1), Z, (le171.trans le220), ow228, backS h217 e175⟩, (allCons (L 12 Z Z) (allCons (L 13 Z Z) (allCons (L 14 Z Z) (allCons (L 15 Z Z) (allCons (L 16 Z Z) (allCons (L 17 Z Z) (allCons (L 18 Z Z) (allCons (L 19 Z Z) (allCons (L 0 Z Z) allNil)))))))))⟩
     ·have h229 := ifF c178 h177
      refine WP.exit ?_
      refine sqE (sqE (blkE (sqN ?_)))
      have h230 := exitS h229 e175
      refine WP.usdreg Z Z Z ?_
      refine U.p Z Z (.inl Z) (S.move Z (L 2 Z Z)) ?_
      refine U.p Z Z (.inl Z) (S.move Z (L 6 Z Z)) ?_
      obtain ⟨x231, hx232, h233⟩ := bindS h230
      obtain ⟨b234, o235, n236, c237, hv238⟩ := ow172.sspt (k := 1) Z hx232
      refine U.p Z Z (.inl Z) (S.index Z ((L 1 Z Z).trans (ow172.sslen' (k := 1) Z hv238)) (L 0 Z Z) Try.underlying75 ti77 (ix_ge hx232) (ix_lt hx232)) ?_
      obtain ⟨h239, hh240, ow241⟩ := ow172.ssopen (k := 1) Z hx232
      have hcl243 := ow241.shcell (k := 2) Z hv238 hh240
      refine U.k Z Z (.inl Z) (S.load Z (L 0 Z Z) Try.underlying77 Z hcl243.2) (fun _ => (okH.nil (fun r h => by cases h; exact hcl243.1))) ?_
      refine U.p (v := .pointer (some ⟨b5, 3, none⟩)) Z Z (.inl Z) (S.fieldAddr Z (L 5 Z Z) Try.underlying24 Z ti22 Z Z) ?_
      refine U.k Z Z (.inl Z) (S.loadC Z (L 0 Z Z) Try.underlying22 Z ((ow241.own (k := 1) Z).cell Z)) (fun _ => (okH.cons trivial (okH.nil (fun r h => by cases h; exact (ow241.own (k := 1) Z).lt)))) ?_
      refine U.p Z Z (.inl Z) (S.move Z (L 11 Z Z)) ?_
      obtain ⟨x244, hx245, h246⟩ := bindS h233
      obtain ⟨b247, o248, c249, cs250, hv251, hf252, hr253, hc254⟩ := f2.at hx245
      obtain ⟨v255, rfl, f256⟩ := hr253
      refine U.p Z Z (.inl Z) (S.index Z ((L 1 Z Z).trans hv251) (L 0 Z Z) Try.underlying22 ti29 (ix_ge hx245) (ix_lt hx245)) ?_
      refine U.k Z Z (.inl Z) (S.loadN (cs := [.int .i64 x244.op, .int .i64 x244.d, .int .i64 x244.a, .int .i64 x244.b, .int .i64 x244.imm, v255, .int .i64 x244.what, .bool x244.volatile, .bool x244.final]) Z (L 0 Z Z) Try.underlying29 Z ti29 Z (fun j v hj => (((((((le7.trans le16).trans le25).trans le39).trans le110).trans le125).trans le145).trans le171).cell hf252 (hc254 j v hj))) (fun _ => (okH.cons trivial (okH.cons trivial (okH.nil (fun r h => by cases h; exact (V170.wf _ ((((((((le7.trans le16).trans le25).trans le39).trans le110).trans le125).trans le145).trans le171).sub _ hf252))))))) ?_
      refine U.p Z Z (.inl Z) (S.move Z (L 15 Z Z)) ?_
      have f257 := f256.up (((((((le7.trans le16).trans le25).trans le39).trans le110).trans le125).trans le145).trans le171)
      have ow258 := ow241.pick 4 Z
      obtain ⟨x259, hx260, h261⟩ := bindS h246
      obtain ⟨q267, ow268⟩ := ow258.toEx 3 Z
      refine O.call (V := V170) Z Z (.inl Z) Z en43 (aC (L 1 Z Z) (aC (L 0 Z Z) aN)) (wk_flow_step V170 _ x244 xs162 v255 v143 f257 ow268 _ hx260) (fun v262 V263 le264 hp265 => by obtain ⟨_, rfl, ow266⟩ := hp265; exact (fun _ => (okH.cons (Or.inl Z) (okH.cons (Or.inl Z) (okH.cons (Or.inr (ow268.exsame (k := 3) (j := 4) Z ow266 Z (fun h => exb_sh hv238 h))) (okH.nil (fun r h => nomatch h))))))) (fun v262 V263 le264 hp265 => ?_)
      obtain ⟨_, rfl, ow266⟩ := hp265
      have ow271 := ow266.unEx 4 Z
      have ow272 := ow271.pick 2 Z
      obtain ⟨x273, hx274, h275⟩ := bindS h261
      refine O.call (V := V263) Z Z (.inl Z) Z en42 (aC (L 7 Z Z) (aC (L 0 Z Z) aN)) (wk_flow_set_merge V263 _ x231 x259 h239 v262 ow272 _ hx274) (fun v276 V277 le278 hp279 => by obtain ⟨rfl, ow280⟩ := hp279; exact (fun _ => (okH.cons Z (okH.cons (Or.inl Z) (okH.cons (Or.inl Z) (okH.cons (Or.inl Z) (okH.nil (fun r h => nomatch h)))))))) (fun v276 V277 le278 hp279 => ?_)
      obtain ⟨rfl, ow280⟩ := hp279
      refine U.done (nr Z) ?_
      refine WP.cond _ (L 0 Z Z) Z (fun c281 => ?_) (fun c281 => ?_)
      ·have h282 := ifT c281 h275
       refine WP.ureg Z ?_
       refine U.p Z Z (.inl Z) (S.assign Z K) ?_
       refine U.done (nr Z) ?_
       refine blkN (sqN ?_)
       have ow283 := ow280.ssclose (k := 4) (j := 0) Z Z (by decide) hh240
       have ow284 := ow283.drop 0 Z
       have ow285 := ow284.drop 0 Z
       exact ⟨_, V277, Z, ⟨xs119.set (Int.toNat x121) x273.2, true, Z, (((le145.trans le171).trans le264).trans le278), ow285, h282⟩, (allCons (L 14 Z Z) (allCons (L 15 Z Z) (allCons (L 16 Z Z) (allCons (L 0 Z Z) (allCons (L 18 Z Z) allNil)))))⟩
      ·have h286 := ifF c281 h275
       refine WP.skip ?_
       refine blkN (sqN ?_)
       have ow287 := ow280.ssclose (k := 4) (j := 0) Z Z (by decide) hh240
       have ow288 := ow287.drop 0 Z
       have ow289 := ow288.drop 0 Z
       exact ⟨_, V277, Z, ⟨xs119.set (Int.toNat x121) x273.2, x120, Z, (((le145.trans le171).trans le264).trans le278), ow289, h286⟩, (allCons (L 13 Z Z) (allCons (L 14 Z Z) (allCons (L 15 Z Z) (allCons (L 16 Z Z) (allCons (L 17 Z Z) allNil)))))⟩
   ·have h290 := ifF c132 h131
    refine WP.exit ?_
    refine sqE (sqE (blkE (blkN (sqN ?_))))
    have h291 := exitS h290 e129
    exact ⟨_, V124, Z, ⟨m112, Nat.lt_succ_self _, xs119, x120, Z, (le110.trans le125), ow126, backS h291 e114⟩, (allCons (L 2 Z Z) (allCons (L 3 Z Z) (allCons (L 4 Z Z) (allCons (L 5 Z Z) allNil))))⟩
  ·have h292 := ifF c117 h116
   refine WP.exit ?_
   refine sqE (sqE (blkE (sqN ?_)))
   have h293 := exitS h292 e114
   refine WP.usreg Z ?_
   refine U.p Z Z (.inl Z) (S.assign Z K) ?_
   refine U.done (nr Z) ?_
   refine WP.seq ?_
   refine WP.usreg Z ?_
   refine U.p Z Z (.inl Z) (S.move Z (L 3 Z Z)) ?_
   refine U.p Z Z (.inl Z) (ow111.sslen (k := 1) Z Z (L 0 Z Z) Try.underlying75) ?_
   refine U.p Z Z (.inl Z) (S.move Z K) ?_
   refine U.done (nr Z) ?_
   refine WP.blk ?_
   have ow301 := ow111.nil (RT.sl RT.bool)
   obtain ⟨V303, eV307, le304, f305, ow306, fi308⟩ := ow301.ssfz (k := 2) Z
   rw [← eV307]
   have ow309 := ow306.drop 1 Z
   have ow310 := ow309.drop 1 Z
   unfold flow_Live_l5 at h293
   obtain ⟨n312, hn311⟩ := loopO_some.1 h293
   refine WP.loopI2 (fun n l V' => ∃ (v295 : Value) (xs296 : List (List Bool)) (xs297 : List (List Bool)) (v298 : Value) (x300 : Int), l = [(11, v295), (82, v298), (83, .int .i64 (xs105.length : Int)), (84, .int .i64 x300)] ∧ V303.le V' ∧ Fz (RT.sl RT.bool) V' v298 xs297 ∧ Ow V' (.os (RT.sl RT.bool) v295 xs296 :: Rs) ∧ itO (fun s => flow_Live_l5b xs105 s.1 s.2.1 s.2.2) n (xs296, xs297, x300) = some r) n312 _ ⟨(.slice none 0 0), [], xs105, v13, 0, Z, .refl _, f305, ow310, hn311⟩ (allCons (L 3 Z Z) (allCons (L 2 Z Z) (allCons (L 1 Z Z) (allCons (L 0 Z Z) allNil)))) ?_
   rintro _ _ V313 ⟨v295, xs296, xs297, v298, x300, rfl, le314, f299, ow315, h319⟩
   obtain ⟨m316, q317, rfl, h320, e318⟩ := itS h319
   replace h320 : flow_Live_l5b xs105 xs296 xs297 x300 = some q317 := h320
   unfold flow_Live_l5b at h320
   refine WP.usreg Z ?_
   refine U.p Z Z (.inl Z) (S.lss Z (L 3 Z Z) (L 2 Z Z)) ?_
   refine U.done (nr Z) ?_
   refine WP.seq ?_
   refine WP.cond _ (L 0 Z Z) Z (fun c321 => ?_) (fun c321 => ?_)
   ·have h322 := ifT c321 h320
    refine WP.skip ?_
    refine sqN ?_
    refine WP.seq ?_
    refine WP.blk ?_
    refine WP.usreg Z ?_
    obtain ⟨x323, hx324, h325⟩ := bindS h322
    obtain ⟨b326, o327, c328, cs329, hv330, hf331, hr332, hc333⟩ := f299.at hx324
    obtain ⟨v334, rfl, f335⟩ := hr332
    refine U.p Z Z (.inl Z) (S.index Z ((L 2 Z Z).trans hv330) (L 4 Z Z) Try.underlying75 ti77 (ix_ge hx324) (ix_lt hx324)) ?_
    refine U.k Z Z (.inl Z) (S.load Z (L 0 Z Z) Try.underlying77 Z (hc333 0 _ Z)) nd ?_
    refine U.p Z Z (.inl Z) (S.assign Z (L 0 Z Z)) ?_
    refine U.done (nr Z) ?_
    refine WP.ureg Z ?_
    refine U.p Z Z (.inl Z) (S.move Z (L 4 Z Z)) ?_
    refine U.p Z Z (.inl Z) (S.move Z (L 1 Z Z)) ?_
    refine O.lit (R := (RT.sl RT.bool)) ow315 Z Z (.inl Z) Z Try.underlying62 ti43 Z Z Z (nr Z) Z (aC (L 0 Z Z) aN) (.cons _ _ x323 _ f335.ne ⟨_, (by rw [f335.cells]), f335⟩ .nil) (fun _ => nd) (fun v336 V337 le338 ow339 => ?_)
    obtain ⟨xs341, hx342, h343⟩ := bindS h325
    refine O.append (k := 1) ow339 Z Z Z (.inl Z) Z (L 2 Z Z) (L 0 Z Z) Try.underlying62 ti43 Z Z (nr Z) (ow339.src (k := 0) Z Try.underlying62) hx342 (fun _ _ => nd) (fun v344 V345 le346 ow347 => ?_)
    refine U.p Z Z (.inl Z) (S.assign Z (L 0 Z Z)) ?_
    refine U.done (nr Z) ?_
    refine blkN (sqN ?_)
    refine WP.ureg Z ?_
    refine U.p Z Z (.inl Z) (S.add Z (L 12 Z Z) K) ?_
    refine U.p Z Z (.inl Z) (S.move Z (L 0 Z Z)) ?_
    refine U.done (nr Z) ?_
    refine sqN ?_
    have ow349 := ow347.drop 0 Z
    have f350 := f299.up (le338.trans le346)
    exact ⟨_, V345, Z, ⟨m316, Nat.lt_succ_self _, v344, xs341, xs297, v298, w64 (x300 + 1), Z, ((le314.trans le338).trans le346), f350, ow349, backS h343 e318⟩, (allCons (L 2 Z Z) (allCons (L 12 Z Z) (allCons (L 13 Z Z) (allCons (L 0 Z Z) allNil))))⟩
   ·have h351 := ifF c321 h320
    refine WP.exit ?_
    refine sqE (sqE (blkE (sqN ?_)))
    have h352 := exitS h351 e318
    refine WP.usreg Z ?_
    refine U.p Z Z (.inl Z) (S.move Z (L 1 Z Z)) ?_
    refine U.p Z Z (.inl Z) (S.assign Z (L 0 Z Z)) ?_
    refine U.done (nr Z) ?_
    refine WP.ret ?_
    refine fin.slot (.inr Z) Z (L 0 Z Z) ⟨V313, Z, ((((((le7.trans le16).trans le25).trans le39).trans le110).trans le304).trans le314), ?_⟩
    have e353 := Option.some.inj h352
    subst e353
    exact ⟨v295, Z, ow315⟩
theorem wk_math_bits_Len64 (V : Vw) (Rs : List At) (p0 : Int) (ow : Ow V (Rs)) (r : Int) (h : math_bits_Len64 p0 = some r) : ∃ v V', Cl Try.prog 0 58 #[.int .u64 p0] V.H v V'.H ∧ V.le V' ∧ (v = .int .i64 r ∧ Ow V' (Rs)) := by
 refine Ct.of (Nat.zero_le _) Try.func58 Z (nr Z) ?_
 unfold math_bits_Len64 at h
 refine WP.usreg Z ?_
 refine U.p Z Z (.inl Z) (S.assign Z K) ?_
 refine U.done (nr Z) ?_
 refine WP.seqI (fun l V' => ∃ (x1 : Int) (x2 : Int), l = [(0, .int .u64 x1), (2, .int .i64 x2)] ∧ V.le V' ∧ Ow V' (Rs) ∧ math_bits_Len64_k1 x1 x2 = some r) ?_ ?_
 ·rintro _ V3 ⟨x1, x2, rfl, le4, ow5, h6⟩
  unfold math_bits_Len64_k1 at h6
  refine WP.seqI (fun l V' => ∃ (x7 : Int) (x8 : Int), l = [(0, .int .u64 x7), (2, .int .i64 x8)] ∧ V3.le V' ∧ Ow V' (Rs) ∧ math_bits_Len64_k2 x7 x8 = some r) ?_ ?_
  ·rintro _ V9 ⟨x7, x8, rfl, le10, ow11, h12⟩
   unfold math_bits_Len64_k2 at h12
   refine WP.seqI (fun l V' => ∃ (x13 : Int) (x14 : Int), l = [(0, .int .u64 x13), (2, .int .i64 x14)] ∧ V9.le V' ∧ Ow V' (Rs) ∧ math_bits_Len64_k3 x13 x14 = some r) ?_ ?_
   ·rintro _ V15 ⟨x13, x14, rfl, le16, ow17, h18⟩
    unfold math_bits_Len64_k3 at h18
    refine WP.usreg Z ?_
    refine U.p Z Z (.inl Z) (S.move Z (L 1 Z Z)) ?_
    refine U.p Z Z (.inl Z) (S.move Z (L 1 Z Z)) ?_
    refine U.p Z Z (.inl Z) (S.conv Z (L 0 Z Z) Try.underlying96 Try.underlying5) ?_
    obtain ⟨x19, hx20, h21⟩ := bindS h18
    refine U.p Z Z (.inl Z) (S.indexS hx20 Z K (L 0 Z Z) Try.underlying9) ?_
    refine U.p Z Z (.inl Z) (S.conv Z (L 0 Z Z) Try.underlying5 Try.underlying3) ?_
    refine U.p Z Z (.inl Z) (S.add Z (L 4 Z Z) (L 0 Z Z)) ?_
    refine U.p Z Z (.inl Z) (S.assign Z (L 0 Z Z)) ?_
    refine U.done (nr Z) ?_
    refine WP.ret ?_
    refine fin.slot (.inr Z) Z (L 0 Z Z) ⟨V15, Z, ((le4.trans le10).trans le16), ?_⟩
    have e22 := Option.some.inj h21
    subst e22
    exact ⟨rfl, ow17⟩
   ·skip
    refine WP.usreg Z ?_
    refine U.p Z Z (.inl Z) (S.move Z (L 0 Z Z)) ?_
    refine U.p Z Z (.inl Z) (S.geq Z (L 0 Z Z) K) ?_
    refine U.done (nr Z) ?_
    refine WP.cond _ (L 0 Z Z) Z (fun c23 => ?_) (fun c23 => ?_)
    ·have h24 := ifT c23 h12
     refine WP.usreg Z ?_
     refine U.p Z Z (.inl Z) (S.move Z (L 2 Z Z)) ?_
     obtain ⟨x25, hx26, h27⟩ := bindS h24
     refine U.p Z Z (.inl Z) (S.shr hx26 Z (L 0 Z Z) K) ?_
     refine U.p Z Z (.inl Z) (S.assign Z (L 0 Z Z)) ?_
     refine U.done (nr Z) ?_
     refine WP.ureg Z ?_
     refine U.p Z Z (.inl Z) (S.move Z (L 6 Z Z)) ?_
     refine U.p Z Z (.inl Z) (S.add Z (L 0 Z Z) K) ?_
     refine U.p Z Z (.inl Z) (S.assign Z (L 0 Z Z)) ?_
     refine U.done (nr Z) ?_
     refine sqN ?_
     exact ⟨_, V9, Z, ⟨x25, w64 (x8 + 8), Z, (.refl _), ow11, h27⟩, (allCons (L 3 Z Z) (allCons (L 0 Z Z) allNil))⟩
    ·have h28 := ifF c23 h12
     refine WP.skip ?_
     refine sqN ?_
     exact ⟨_, V9, Z, ⟨x7, x8, Z, (.refl _), ow11, h28⟩, (allCons (L 2 Z Z) (allCons (L 3 Z Z) allNil))⟩
  ·skip
   refine WP.usreg Z ?_
   refine U.p Z Z (.inl Z) (S.move Z (L 0 Z Z)) ?_
   refine U.p Z Z (.inl Z) (S.geq Z (L 0 Z Z) K) ?_
   refine U.done (nr Z) ?_
   refine WP.cond _ (L 0 Z Z) Z (fun c29 => ?_) (fun c29 => ?_)
   ·have h30 := ifT c29 h6
    refine WP.usreg Z ?_
    refine U.p Z Z (.inl Z) (S.move Z (L 2 Z Z)) ?_
    obtain ⟨x31, hx32, h33⟩ := bindS h30
    refine U.p Z Z (.inl Z) (S.shr hx32 Z (L 0 Z Z) K) ?_
    refine U.p Z Z (.inl Z) (S.assign Z (L 0 Z Z)) ?_
    refine U.done (nr Z) ?_
    refine WP.ureg Z ?_
    refine U.p Z Z (.inl Z) (S.move Z (L 6 Z Z)) ?_
    refine U.p Z Z (.inl Z) (S.add Z (L 0 Z Z) K) ?_
    refine U.p Z Z (.inl Z) (S.assign Z (L 0 Z Z)) ?_
    refine U.done (nr Z) ?_
    refine sqN ?_
    exact ⟨_, V3, Z, ⟨x31, w64 (x2 + 16), Z, (.refl _), ow5, h33⟩, (allCons (L 3 Z Z) (allCons (L 0 Z Z) allNil))⟩
   ·have h34 := ifF c29 h6
    refine WP.skip ?_
    refine sqN ?_
    exact ⟨_, V3, Z, ⟨x1, x2, Z, (.refl _), ow5, h34⟩, (allCons (L 2 Z Z) (allCons (L 3 Z Z) allNil))⟩
 ·skip
  refine WP.usreg Z ?_
  refine U.p Z Z (.inl Z) (S.move Z (L 1 Z Z)) ?_
  refine U.p Z Z (.inl Z) (S.geq Z (L 0 Z Z) K) ?_
  refine U.done (nr Z) ?_
  refine WP.cond _ (L 0 Z Z) Z (fun c35 => ?_) (fun c35 => ?_)
  ·have h36 := ifT c35 h
   refine WP.usreg Z ?_
   refine U.p Z Z (.inl Z) (S.move Z (L 3 Z Z)) ?_
   obtain ⟨x37, hx38, h39⟩ := bindS h36
   refine U.p Z Z (.inl Z) (S.shr hx38 Z (L 0 Z Z) K) ?_
   refine U.p Z Z (.inl Z) (S.assign Z (L 0 Z Z)) ?_
   refine U.done (nr Z) ?_
   refine WP.ureg Z ?_
   refine U.p Z Z (.inl Z) (S.assign Z K) ?_
   refine U.done (nr Z) ?_
   refine sqN ?_
   exact ⟨_, V, Z, ⟨x37, 32, Z, (.refl _), ow, h39⟩, (allCons (L 1 Z Z) (allCons (L 0 Z Z) allNil))⟩
  ·have h40 := ifF c35 h
   refine WP.skip ?_
   refine sqN ?_
   exact ⟨_, V, Z, ⟨p0, 0, Z, (.refl _), ow, h40⟩, (allCons (L 3 Z Z) (allCons (L 2 Z Z) allNil))⟩
theorem wk_math_bits_Len (V : Vw) (Rs : List At) (p0 : Int) (ow : Ow V (Rs)) (r : Int) (h : math_bits_Len p0 = some r) : ∃ v V', Cl Try.prog 0 45 #[.int .u64 p0] V.H v V'.H ∧ V.le V' ∧ (v = .int .i64 r ∧ Ow V' (Rs)) := by
 refine Ct.of (Nat.zero_le _) Try.func45 Z (nr Z) ?_
 unfold math_bits_Len at h
 refine WP.usreg Z ?_
 refine U.p Z Z (.inl Z) (S.assign Z K) ?_
 refine U.done (nr Z) ?_
 refine WP.seq ?_
 refine WP.cond false K Z (fun h => by cases h) (fun _ => ?_)
 refine WP.skip ?_
 refine sqN ?_
 refine WP.usreg Z ?_
 refine U.p Z Z (.inl Z) (S.move Z (L 1 Z Z)) ?_
 obtain ⟨x1, hx2, h3⟩ := bindS h
 refine O.call (V := V) Z Z (.inl Z) Z en58 (aC (L 0 Z Z) aN) (wk_math_bits_Len64 V _ p0 ow _ hx2) (fun _ _ _ _ => nd) (fun v4 V5 le6 hp7 => ?_)
 obtain ⟨rfl, ow8⟩ := hp7
 refine U.p Z Z (.inl Z) (S.assign Z (L 0 Z Z)) ?_
 refine U.done (nr Z) ?_
 refine WP.ret ?_
 refine fin.slot (.inr Z) Z (L 0 Z Z) ⟨V5, Z, le6, ?_⟩
 have e9 := Option.some.inj h3
 subst e9
 exact ⟨rfl, ow8⟩
theorem wk_flow_Spans_c1 (V : Vw) (Rs : List At) (p0 : Tflow_Span) (p1 : Tflow_Span) (ow : Ow V (Rs)) (r : Int) (h : flow_Spans_c1 p0 p1 = some r) : ∃ v V', Cl Try.prog 0 31 #[.agg #[.int .i64 p0.reg, .int .i64 p0.from_, .int .i64 p0.to_], .agg #[.int .i64 p1.reg, .int .i64 p1.from_, .int .i64 p1.to_]] V.H v V'.H ∧ V.le V' ∧ (v = .int .i64 r ∧ Ow V' (Rs)) := by
 refine Ct.of (Nat.zero_le _) Try.func31 Z (nr Z) ?_
 unfold flow_Spans_c1 at h
 refine WP.usreg Z ?_
 refine O.box ow Z Z (.inl Z) Z (L 0 Z Z) (by simp [topV]) Z nd (fun b1 V2 le3 ow4 => ?_)
 refine O.box ow4 Z Z (.inl Z) Z (L 2 Z Z) (by simp [topV]) Z nd (fun b6 V7 le8 ow9 => ?_)
 refine U.p Z Z (.inl Z) (S.assign Z K) ?_
 refine U.done (nr Z) ?_
 refine WP.seq ?_
 refine WP.usreg Z ?_
 refine U.p (v := .pointer (some ⟨b1, 1, none⟩)) Z Z (.inl Z) (S.fieldAddr Z (L 2 Z Z) Try.underlying49 Z ti3 Z Z) ?_
 refine U.k Z Z (.inl Z) (S.load Z (L 0 Z Z) Try.underlying3 Z ((ow9.own (k := 1) Z).cell Z)) nd ?_
 refine U.p (v := .pointer (some ⟨b6, 1, none⟩)) Z Z (.inl Z) (S.fieldAddr Z (L 3 Z Z) Try.underlying49 Z ti3 Z Z) ?_
 refine U.k Z Z (.inl Z) (S.load Z (L 0 Z Z) Try.underlying3 Z ((ow9.own (k := 0) Z).cell Z)) nd ?_
 refine U.p Z Z (.inl Z) (S.neqI Z (L 2 Z Z) (L 0 Z Z)) ?_
 refine U.done (nr Z) ?_
 refine WP.cond _ (L 0 Z Z) Z (fun c11 => ?_) (fun c11 => ?_)
 ·have h12 := ifT c11 h
  refine WP.usreg Z ?_
  refine U.p (v := .pointer (some ⟨b1, 1, none⟩)) Z Z (.inl Z) (S.fieldAddr Z (L 7 Z Z) Try.underlying49 Z ti3 Z Z) ?_
  refine U.k Z Z (.inl Z) (S.load Z (L 0 Z Z) Try.underlying3 Z ((ow9.own (k := 1) Z).cell Z)) nd ?_
  refine U.p (v := .pointer (some ⟨b6, 1, none⟩)) Z Z (.inl Z) (S.fieldAddr Z (L 8 Z Z) Try.underlying49 Z ti3 Z Z) ?_
  refine U.k Z Z (.inl Z) (S.load Z (L 0 Z Z) Try.underlying3 Z ((ow9.own (k := 0) Z).cell Z)) nd ?_
  refine U.p Z Z (.inl Z) (S.sub Z (L 2 Z Z) (L 0 Z Z)) ?_
  refine U.p Z Z (.inl Z) (S.assign Z (L 0 Z Z)) ?_
  refine U.done (nr Z) ?_
  refine WP.ret ?_
  refine sqR ?_
  refine fin.slot (.inr Z) Z (L 0 Z Z) ⟨V7, Z, (le3.trans le8), ?_⟩
  have ow13 := ow9.drop 0 Z
  have ow14 := ow13.drop 0 Z
  have e15 := Option.some.inj h12
  subst e15
  exact ⟨rfl, ow14⟩
 ·have h16 := ifF c11 h
  refine WP.skip ?_
  refine sqN ?_
  refine WP.usreg Z ?_
  refine U.p (v := .pointer (some ⟨b1, 0, none⟩)) Z Z (.inl Z) (S.fieldAddr Z (L 7 Z Z) Try.underlying49 Z ti3 Z Z) ?_
  refine U.k Z Z (.inl Z) (S.load Z (L 0 Z Z) Try.underlying3 Z ((ow9.own (k := 1) Z).cell Z)) nd ?_
  refine U.p (v := .pointer (some ⟨b6, 0, none⟩)) Z Z (.inl Z) (S.fieldAddr Z (L 8 Z Z) Try.underlying49 Z ti3 Z Z) ?_
  refine U.k Z Z (.inl Z) (S.load Z (L 0 Z Z) Try.underlying3 Z ((ow9.own (k := 0) Z).cell Z)) nd ?_
  refine U.p Z Z (.inl Z) (S.sub Z (L 2 Z Z) (L 0 Z Z)) ?_
  refine U.p Z Z (.inl Z) (S.assign Z (L 0 Z Z)) ?_
  refine U.done (nr Z) ?_
  refine WP.ret ?_
  refine fin.slot (.inr Z) Z (L 0 Z Z) ⟨V7, Z, (le3.trans le8), ?_⟩
  have ow17 := ow9.drop 0 Z
  have ow18 := ow17.drop 0 Z
  have e19 := Option.some.inj h16
  subst e19
  exact ⟨rfl, ow18⟩
theorem wk_s_insertionSort (V : Vw) (Rs : List At) (p0 : List Tflow_Span) (p1 : Int) (p2 : Int) (v1 : Value) (ow : Ow V (.os RT_Tflow_Span v1 p0 :: Rs)) (r : List Tflow_Span) (h : s_insertionSort p0 p1 p2 = some r) : ∃ v V', Cl Try.prog 0 49 #[v1, .int .i64 p1, .int .i64 p2, .func (.func 31) #[] #[]] V.H v V'.H ∧ V.le V' ∧ (Ow V' (.os RT_Tflow_Span v1 r :: Rs)) := by
 refine Ct.of (Nat.zero_le _) Try.func49 Z (nr Z) ?_
 unfold s_insertionSort at h
 refine WP.usreg Z ?_
 refine U.p Z Z (.inl Z) (S.move Z (L 1 Z Z)) ?_
 refine U.p Z Z (.inl Z) (S.add Z (L 0 Z Z) K) ?_
 refine U.p Z Z (.inl Z) (S.assign Z (L 0 Z Z)) ?_
 refine U.done (nr Z) ?_
 refine WP.blk ?_
 unfold s_insertionSort_l1 at h
 obtain ⟨n6, hn5⟩ := loopO_some.1 h
 refine WP.loopI2 (fun n l V' => ∃ (xs3 : List Tflow_Span) (x4 : Int), l = [(0, v1), (1, .int .i64 p1), (2, .int .i64 p2), (3, .func (.func 31) #[] #[]), (8, .int .i64 x4)] ∧ V.le V' ∧ Ow V' (.os RT_Tflow_Span v1 xs3 :: Rs) ∧ itO (fun s => s_insertionSort_l1b p1 p2 s.1 s.2) n (xs3, x4) = some r) n6 _ ⟨p0, w64 (p1 + 1), Z, .refl _, ow, hn5⟩ (allCons (L 3 Z Z) (allCons (L 4 Z Z) (allCons (L 5 Z Z) (allCons (L 6 Z Z) (allCons (L 0 Z Z) allNil))))) ?_
 rintro _ _ V7 ⟨xs3, x4, rfl, le8, ow9, h13⟩
 obtain ⟨m10, q11, rfl, h14, e12⟩ := itS h13
 replace h14 : s_insertionSort_l1b p1 p2 xs3 x4 = some q11 := h14
 unfold s_insertionSort_l1b at h14
 refine WP.seq ?_
 refine WP.usreg Z ?_
 refine U.p Z Z (.inl Z) (S.move Z (L 4 Z Z)) ?_
 refine U.p Z Z (.inl Z) (S.move Z (L 3 Z Z)) ?_
 refine U.p Z Z (.inl Z) (S.lss Z (L 1 Z Z) (L 0 Z Z)) ?_
 refine U.done (nr Z) ?_
 refine WP.cond _ (L 0 Z Z) Z (fun c15 => ?_) (fun c15 => ?_)
 ·have h16 := ifT c15 h14
  refine WP.skip ?_
  refine sqN ?_
  refine WP.seq ?_
  refine WP.blk ?_
  refine WP.usreg Z ?_
  refine U.p Z Z (.inl Z) (S.move Z (L 7 Z Z)) ?_
  refine U.p Z Z (.inl Z) (S.assign Z (L 0 Z Z)) ?_
  refine U.done (nr Z) ?_
  refine WP.blk ?_
  unfold s_insertionSort_l2 at h16
  obtain ⟨n20, hn19⟩ := loopO_some.1 h16
  refine WP.loopI2 (fun n l V' => ∃ (xs17 : List Tflow_Span) (x18 : Int), l = [(0, v1), (1, .int .i64 p1), (2, .int .i64 p2), (3, .func (.func 31) #[] #[]), (8, .int .i64 x4), (9, .int .i64 x18)] ∧ V7.le V' ∧ Ow V' (.os RT_Tflow_Span v1 xs17 :: Rs) ∧ itO (fun s => s_insertionSort_l2b p1 x4 s.1 s.2) n (xs17, x18) = some q11) n20 _ ⟨xs3, x4, Z, .refl _, ow9, hn19⟩ (allCons (L 5 Z Z) (allCons (L 6 Z Z) (allCons (L 7 Z Z) (allCons (L 8 Z Z) (allCons (L 9 Z Z) (allCons (L 0 Z Z) allNil)))))) ?_
  rintro _ _ V21 ⟨xs17, x18, rfl, le22, ow23, h27⟩
  obtain ⟨m24, q25, rfl, h28, e26⟩ := itS h27
  replace h28 : s_insertionSort_l2b p1 x4 xs17 x18 = some q25 := h28
  unfold s_insertionSort_l2b at h28
  refine WP.seq ?_
  refine WP.seqI (fun l V' => ∃ (x29 : Bool), l = [(0, v1), (1, .int .i64 p1), (2, .int .i64 p2), (3, .func (.func 31) #[] #[]), (8, .int .i64 x4), (9, .int .i64 x18), (34, .bool x29)] ∧ V21.le V' ∧ Ow V' (.os RT_Tflow_Span v1 xs17 :: Rs) ∧ s_insertionSort_k1 x4 xs17 x18 x29 = some q25) ?_ ?_
  ·rintro _ V30 ⟨x29, rfl, le31, ow32, h33⟩
   unfold s_insertionSort_k1 at h33
   refine WP.cond _ (L 6 Z Z) Z (fun c34 => ?_) (fun c34 => ?_)
   ·have h35 := ifT c34 h33
    refine WP.skip ?_
    refine sqN ?_
    refine WP.seq ?_
    refine WP.blk ?_
    refine WP.udreg Z Z Z ?_
    refine U.p Z Z (.inl Z) (S.move Z (L 0 Z Z)) ?_
    refine U.p Z Z (.inl Z) (S.move Z (L 6 Z Z)) ?_
    refine U.p Z Z (.inl Z) (S.move Z (L 2 Z Z)) ?_
    refine U.p Z Z (.inl Z) (S.move Z (L 8 Z Z)) ?_
    refine U.p Z Z (.inl Z) (S.sub Z (L 0 Z Z) K) ?_
    refine U.p Z Z (.inl Z) (S.move Z (L 5 Z Z)) ?_
    refine U.p Z Z (.inl Z) (S.move Z (L 11 Z Z)) ?_
    refine U.p Z Z (.inl Z) (S.sub Z (L 0 Z Z) K) ?_
    obtain ⟨x36, hx37, h38⟩ := bindS h35
    obtain ⟨b39, o40, n41, c42, hv43⟩ := ow32.ospt (k := 0) Z hx37
    obtain ⟨_, hv44, _⟩ := ow32.osel (k := 0) Z hv43 hx37
    refine U.p Z Z (.inl Z) (S.index Z ((L 2 Z Z).trans hv44) (L 0 Z Z) Try.underlying44 ti49 (ix_ge hx37) (ix_lt hx37)) ?_
    obtain ⟨cs45, hv46, hlt47, hr48, hc49⟩ := ow32.osel (k := 0) Z hv43 hx37
    obtain rfl : cs45 = [.int .i64 x36.reg, .int .i64 x36.from_, .int .i64 x36.to_] := hr48
    refine U.k Z Z (.inl Z) (S.loadN (cs := [.int .i64 x36.reg, .int .i64 x36.from_, .int .i64 x36.to_]) Z (L 0 Z Z) Try.underlying49 Z ti49 Z hc49) (fun _ => (okH.nil (fun r h => by cases h; exact hlt47))) ?_
    refine U.p Z Z (.inl Z) (S.move Z (L 10 Z Z)) ?_
    refine U.p Z Z (.inl Z) (S.move Z (L 16 Z Z)) ?_
    obtain ⟨x50, hx51, h52⟩ := bindS h38
    obtain ⟨_, hv53, _⟩ := ow32.osel (k := 0) Z hv43 hx51
    refine U.p Z Z (.inl Z) (S.index Z ((L 1 Z Z).trans hv53) (L 0 Z Z) Try.underlying44 ti49 (ix_ge hx51) (ix_lt hx51)) ?_
    obtain ⟨cs54, hv55, hlt56, hr57, hc58⟩ := ow32.osel (k := 0) Z hv43 hx51
    obtain rfl : cs54 = [.int .i64 x50.reg, .int .i64 x50.from_, .int .i64 x50.to_] := hr57
    refine U.k Z Z (.inl Z) (S.loadN (cs := [.int .i64 x50.reg, .int .i64 x50.from_, .int .i64 x50.to_]) Z (L 0 Z Z) Try.underlying49 Z ti49 Z hc58) (fun _ => (okH.cons trivial (okH.nil (fun r h => by cases h; exact hlt56)))) ?_
    obtain ⟨x59, hx60, h61⟩ := bindS h52
    obtain ⟨_, hv62, _⟩ := ow32.osel (k := 0) Z hv43 hx60
    refine U.p Z Z (.inl Z) (S.index Z ((L 13 Z Z).trans hv62) (L 12 Z Z) Try.underlying44 ti49 (ix_ge hx60) (ix_lt hx60)) ?_
    obtain ⟨cs63, hv64, hlt65, hr66, hc67⟩ := ow32.osel (k := 0) Z hv43 hx60
    obtain rfl : cs63 = [.int .i64 x59.reg, .int .i64 x59.from_, .int .i64 x59.to_] := hr66
    refine O.storeE (k := 0) (R := RT_Tflow_Span) (j := 0) (y := x36) (cs := [.int .i64 x36.reg, .int .i64 x36.from_, .int .i64 x36.to_]) ow32 Z hv64 Z Z (.inl Z) Z (L 0 Z Z) (L 5 Z Z) ti49 hx60 (by simp [topV]) Z Z Z (full Z) (fun H1 hs => (fun _ => (okH.cons (Or.inl Z) (okH.cons (Or.inl Z) (okH.nil (fun r h => nomatch h)))))) (fun V68 le69 ow70 => ?_)
    obtain ⟨x71, hx72, h73⟩ := bindS h61
    obtain ⟨_, hv74, _⟩ := ow70.osel (k := 0) Z hv43 hx72
    refine U.p Z Z (.inl Z) (S.index Z ((L 12 Z Z).trans hv74) (L 10 Z Z) Try.underlying44 ti49 (ix_ge hx72) (ix_lt hx72)) ?_
    obtain ⟨cs75, hv76, hlt77, hr78, hc79⟩ := ow70.osel (k := 0) Z hv43 hx72
    obtain rfl : cs75 = [.int .i64 x71.reg, .int .i64 x71.from_, .int .i64 x71.to_] := hr78
    refine O.storeE (k := 0) (R := RT_Tflow_Span) (j := 0) (y := x50) (cs := [.int .i64 x50.reg, .int .i64 x50.from_, .int .i64 x50.to_]) ow70 Z hv76 Z Z (.inl Z) Z (L 0 Z Z) (L 2 Z Z) ti49 hx72 (by simp [topV]) Z Z Z (full Z) (fun H1 hs => (fun _ => (okH.cons Z (okH.cons (Or.inl Z) (okH.cons (Or.inl Z) (okH.nil (fun r h => nomatch h))))))) (fun V80 le81 ow82 => ?_)
    refine U.done (nr Z) ?_
    refine blkN (sqN ?_)
    refine WP.ureg Z ?_
    refine U.p Z Z (.inl Z) (S.move Z (L 21 Z Z)) ?_
    refine U.p Z Z (.inl Z) (S.sub Z (L 0 Z Z) K) ?_
    refine U.p Z Z (.inl Z) (S.assign Z (L 0 Z Z)) ?_
    refine U.done (nr Z) ?_
    refine sqN ?_
    exact ⟨_, V80, Z, ⟨m24, Nat.lt_succ_self _, (xs17.set (Int.toNat x18) x36).set (Int.toNat (w64 (x18 - 1))) x50, w64 (x18 - 1), Z, (((le22.trans le31).trans le69).trans le81), ow82, backS h73 e26⟩, (allCons (L 19 Z Z) (allCons (L 20 Z Z) (allCons (L 21 Z Z) (allCons (L 22 Z Z) (allCons (L 23 Z Z) (allCons (L 0 Z Z) allNil))))))⟩
   ·have h83 := ifF c34 h33
    refine WP.exit ?_
    refine sqE (sqE (blkE (blkN (sqN ?_))))
    have h84 := exitS h83 e26
    refine WP.ureg Z ?_
    refine U.p Z Z (.inl Z) (S.move Z (L 4 Z Z)) ?_
    refine U.p Z Z (.inl Z) (S.add Z (L 0 Z Z) K) ?_
    refine U.p Z Z (.inl Z) (S.assign Z (L 0 Z Z)) ?_
    refine U.done (nr Z) ?_
    refine sqN ?_
    exact ⟨_, V30, Z, ⟨m10, Nat.lt_succ_self _, xs17, w64 (x4 + 1), Z, ((le8.trans le22).trans le31), ow32, backS h84 e12⟩, (allCons (L 3 Z Z) (allCons (L 4 Z Z) (allCons (L 5 Z Z) (allCons (L 6 Z Z) (allCons (L 0 Z Z) allNil)))))⟩
  ·skip
   refine WP.udreg Z Z Z ?_
   refine U.p Z Z (.inl Z) (S.move Z (L 5 Z Z)) ?_
   refine U.p Z Z (.inl Z) (S.move Z (L 2 Z Z)) ?_
   refine U.p Z Z (.inl Z) (S.gtr Z (L 1 Z Z) (L 0 Z Z)) ?_
   refine U.p Z Z (.inl Z) (S.move Z (L 0 Z Z)) ?_
   refine bcase (b := decide (p1 < x18)) (fun g85 => ?_) (fun g85 => ?_)
   ·have h86 := ifT g85 h28
    refine U.p Z Z (.inr ⟨_, _, _, Z, Z, ((L 0 Z Z).trans (cB g85))⟩) (S.move Z (L 7 Z Z)) ?_
    refine U.p Z Z (.inr ⟨_, _, _, Z, Z, ((L 1 Z Z).trans (cB g85))⟩) (S.move Z (L 5 Z Z)) ?_
    refine U.p Z Z (.inr ⟨_, _, _, Z, Z, ((L 2 Z Z).trans (cB g85))⟩) (S.move Z (L 11 Z Z)) ?_
    obtain ⟨x87, hx88, h89⟩ := bindS h86
    obtain ⟨b90, o91, n92, c93, hv94⟩ := ow23.ospt (k := 0) Z hx88
    obtain ⟨_, hv95, _⟩ := ow23.osel (k := 0) Z hv94 hx88
    refine U.p Z Z (.inr ⟨_, _, _, Z, Z, ((L 3 Z Z).trans (cB g85))⟩) (S.index Z ((L 1 Z Z).trans hv95) (L 0 Z Z) Try.underlying44 ti49 (ix_ge hx88) (ix_lt hx88)) ?_
    obtain ⟨cs96, hv97, hlt98, hr99, hc100⟩ := ow23.osel (k := 0) Z hv94 hx88
    obtain rfl : cs96 = [.int .i64 x87.reg, .int .i64 x87.from_, .int .i64 x87.to_] := hr99
    refine U.k Z Z (.inr ⟨_, _, _, Z, Z, ((L 4 Z Z).trans (cB g85))⟩) (S.loadN (cs := [.int .i64 x87.reg, .int .i64 x87.from_, .int .i64 x87.to_]) Z (L 0 Z Z) Try.underlying49 Z ti49 Z hc100) (fun _ => (okH.nil (fun r h => by cases h; exact hlt98))) ?_
    refine U.p Z Z (.inr ⟨_, _, _, Z, Z, ((L 5 Z Z).trans (cB g85))⟩) (S.move Z (L 9 Z Z)) ?_
    refine U.p Z Z (.inr ⟨_, _, _, Z, Z, ((L 6 Z Z).trans (cB g85))⟩) (S.move Z (L 15 Z Z)) ?_
    refine U.p Z Z (.inr ⟨_, _, _, Z, Z, ((L 7 Z Z).trans (cB g85))⟩) (S.sub Z (L 0 Z Z) K) ?_
    obtain ⟨x101, hx102, h103⟩ := bindS h89
    obtain ⟨_, hv104, _⟩ := ow23.osel (k := 0) Z hv94 hx102
    refine U.p Z Z (.inr ⟨_, _, _, Z, Z, ((L 8 Z Z).trans (cB g85))⟩) (S.index Z ((L 2 Z Z).trans hv104) (L 0 Z Z) Try.underlying44 ti49 (ix_ge hx102) (ix_lt hx102)) ?_
    obtain ⟨cs105, hv106, hlt107, hr108, hc109⟩ := ow23.osel (k := 0) Z hv94 hx102
    obtain rfl : cs105 = [.int .i64 x101.reg, .int .i64 x101.from_, .int .i64 x101.to_] := hr108
    refine U.k Z Z (.inr ⟨_, _, _, Z, Z, ((L 9 Z Z).trans (cB g85))⟩) (S.loadN (cs := [.int .i64 x101.reg, .int .i64 x101.from_, .int .i64 x101.to_]) Z (L 0 Z Z) Try.underlying49 Z ti49 Z hc109) (fun _ => (okH.cons trivial (okH.nil (fun r h => by cases h; exact hlt107)))) ?_
    obtain ⟨x110, hx111, h112⟩ := bindS h103
    refine O.callv (V := V21) Z Z (.inr ⟨_, _, _, Z, Z, ((L 10 Z Z).trans (cB g85))⟩) Z (L 9 Z Z) en31 (aC (L 5 Z Z) (aC (L 0 Z Z) aN)) (wk_flow_Spans_c1 V21 _ x87 x101 ow23 _ hx111) (fun v113 V114 le115 hp116 => by obtain ⟨rfl, ow117⟩ := hp116; exact (fun _ => (okH.cons (Or.inl Z) (okH.cons (Or.inl Z) (okH.nil (fun r h => nomatch h)))))) (fun v113 V114 le115 hp116 => ?_)
    obtain ⟨rfl, ow117⟩ := hp116
    refine U.p Z Z (.inr ⟨_, _, _, Z, Z, ((L 11 Z Z).trans (cB g85))⟩) (S.lss Z (L 0 Z Z) K) ?_
    refine U.p Z Z (.inl Z) (S.pickT Z ((L 12 Z Z).trans (cB g85)) (L 0 Z Z)) ?_
    refine U.done (nr Z) ?_
    refine sqN ?_
    exact ⟨_, V114, Z, ⟨decide (x110 < 0), Z, le115, ow117, h112⟩, (allCons (L 17 Z Z) (allCons (L 18 Z Z) (allCons (L 19 Z Z) (allCons (L 20 Z Z) (allCons (L 21 Z Z) (allCons (L 22 Z Z) (allCons (L 0 Z Z) allNil)))))))⟩
   ·have h118 := ifF g85 h28
    refine U.x Z Z Z Z ((L 0 Z Z).trans (cB g85)) (by decide) ?_
    refine U.x Z Z Z Z ((L 1 Z Z).trans (cB g85)) (by decide) ?_
    refine U.x Z Z Z Z ((L 2 Z Z).trans (cB g85)) (by decide) ?_
    refine U.x Z Z Z Z ((L 3 Z Z).trans (cB g85)) (by decide) ?_
    refine U.x Z Z Z Z ((L 4 Z Z).trans (cB g85)) (by decide) ?_
    refine U.x Z Z Z Z ((L 5 Z Z).trans (cB g85)) (by decide) ?_
    refine U.x Z Z Z Z ((L 6 Z Z).trans (cB g85)) (by decide) ?_
    refine U.x Z Z Z Z ((L 7 Z Z).trans (cB g85)) (by decide) ?_
    refine U.x Z Z Z Z ((L 8 Z Z).trans (cB g85)) (by decide) ?_
    refine U.x Z Z Z Z ((L 9 Z Z).trans (cB g85)) (by decide) ?_
    refine U.x Z Z Z Z ((L 10 Z Z).trans (cB g85)) (by decide) ?_
    refine U.x Z Z Z Z ((L 11 Z Z).trans (cB g85)) (by decide) ?_
    refine U.p Z Z (.inl Z) (S.pickF Z ((L 12 Z Z).trans (cB g85)) K) ?_
    refine U.done (nr Z) ?_
    refine sqN ?_
    exact ⟨_, V21, Z, ⟨false, Z, (.refl _), ow23, h118⟩, (allCons (L 17 Z Z) (allCons (L 18 Z Z) (allCons (L 19 Z Z) (allCons (L 20 Z Z) (allCons (L 21 Z Z) (allCons (L 22 Z Z) (allCons (L 0 Z Z) allNil)))))))⟩
 ·have h119 := ifF c15 h14
  refine WP.exit ?_
  refine sqE (sqE (blkE ?_))
  have h120 := exitS h119 e12
  refine fin.slots' (.inl Z) fsN Z ⟨V7, Z, le8, ?_⟩
  have e121 := Option.some.inj h120
  subst e121
  exact ow9
theorem wk_s_siftDown (V : Vw) (Rs : List At) (p0 : List Tflow_Span) (p1 : Int) (p2 : Int) (p3 : Int) (v1 : Value) (ow : Ow V (.os RT_Tflow_Span v1 p0 :: Rs)) (r : List Tflow_Span) (h : s_siftDown p0 p1 p2 p3 = some r) : ∃ v V', Cl Try.prog 0 61 #[v1, .int .i64 p1, .int .i64 p2, .int .i64 p3, .func (.func 31) #[] #[]] V.H v V'.H ∧ V.le V' ∧ (Ow V' (.os RT_Tflow_Span v1 r :: Rs)) := by
 refine Ct.of (Nat.zero_le _) Try.func61 Z (nr Z) ?_
 unfold s_siftDown at h
 refine WP.usreg Z ?_
 refine U.p Z Z (.inl Z) (S.move Z (L 1 Z Z)) ?_
 refine U.p Z Z (.inl Z) (S.assign Z (L 0 Z Z)) ?_
 refine U.done (nr Z) ?_
 refine WP.blk ?_
 unfold s_siftDown_l1 at h
 obtain ⟨n6, hn5⟩ := loopO_some.1 h
 refine WP.loopI2 (fun n l V' => ∃ (xs3 : List Tflow_Span) (x4 : Int), l = [(0, v1), (2, .int .i64 p2), (3, .int .i64 p3), (4, .func (.func 31) #[] #[]), (10, .int .i64 x4)] ∧ V.le V' ∧ Ow V' (.os RT_Tflow_Span v1 xs3 :: Rs) ∧ itO (fun s => s_siftDown_l1b p2 p3 s.1 s.2) n (xs3, x4) = some r) n6 _ ⟨p0, p1, Z, .refl _, ow, hn5⟩ (allCons (L 2 Z Z) (allCons (L 4 Z Z) (allCons (L 5 Z Z) (allCons (L 6 Z Z) (allCons (L 0 Z Z) allNil))))) ?_
 rintro _ _ V7 ⟨xs3, x4, rfl, le8, ow9, h13⟩
 obtain ⟨m10, q11, rfl, h14, e12⟩ := itS h13
 replace h14 : s_siftDown_l1b p2 p3 xs3 x4 = some q11 := h14
 unfold s_siftDown_l1b at h14
 refine WP.blk ?_
 refine WP.usreg Z ?_
 refine U.p Z Z (.inl Z) (S.move Z (L 4 Z Z)) ?_
 refine U.p Z Z (.inl Z) (S.mul Z K (L 0 Z Z)) ?_
 refine U.p Z Z (.inl Z) (S.add Z (L 0 Z Z) K) ?_
 refine U.p Z Z (.inl Z) (S.assign Z (L 0 Z Z)) ?_
 refine U.done (nr Z) ?_
 refine WP.seq ?_
 refine WP.usreg Z ?_
 refine U.p Z Z (.inl Z) (S.move Z (L 0 Z Z)) ?_
 refine U.p Z Z (.inl Z) (S.move Z (L 6 Z Z)) ?_
 refine U.p Z Z (.inl Z) (S.geq Z (L 1 Z Z) (L 0 Z Z)) ?_
 refine U.done (nr Z) ?_
 refine WP.cond _ (L 0 Z Z) Z (fun c15 => ?_) (fun c15 => ?_)
 ·have h16 := ifT c15 h14
  refine WP.exit ?_
  refine sqE (blkO Z (sqE (blkE ?_)))
  have h17 := exitS h16 e12
  refine fin.slots' (.inl Z) fsN Z ⟨V7, Z, le8, ?_⟩
  have e18 := Option.some.inj h17
  subst e18
  exact ow9
 ·have h19 := ifF c15 h14
  refine WP.skip ?_
  refine sqN ?_
  refine WP.seqI (fun l V' => ∃ (x20 : Int), l = [(0, v1), (2, .int .i64 p2), (3, .int .i64 p3), (4, .func (.func 31) #[] #[]), (10, .int .i64 x4), (11, .int .i64 x20)] ∧ V7.le V' ∧ Ow V' (.os RT_Tflow_Span v1 xs3 :: Rs) ∧ s_siftDown_k1 p3 xs3 x4 x20 = some q11) ?_ ?_
  ·rintro _ V21 ⟨x20, rfl, le22, ow23, h24⟩
   unfold s_siftDown_k1 at h24
   refine WP.seq ?_
   refine WP.usdreg Z Z Z ?_
   refine U.p Z Z (.inl Z) (S.move Z (L 3 Z Z)) ?_
   refine U.p Z Z (.inl Z) (S.move Z (L 1 Z Z)) ?_
   refine U.p Z Z (.inl Z) (S.move Z (L 4 Z Z)) ?_
   refine U.p Z Z (.inl Z) (S.move Z (L 7 Z Z)) ?_
   refine U.p Z Z (.inl Z) (S.add Z (L 1 Z Z) (L 0 Z Z)) ?_
   obtain ⟨x25, hx26, h27⟩ := bindS h24
   obtain ⟨b28, o29, n30, c31, hv32⟩ := ow23.ospt (k := 0) Z hx26
   obtain ⟨_, hv33, _⟩ := ow23.osel (k := 0) Z hv32 hx26
   refine U.p Z Z (.inl Z) (S.index Z ((L 3 Z Z).trans hv33) (L 0 Z Z) Try.underlying44 ti49 (ix_ge hx26) (ix_lt hx26)) ?_
   obtain ⟨cs34, hv35, hlt36, hr37, hc38⟩ := ow23.osel (k := 0) Z hv32 hx26
   obtain rfl : cs34 = [.int .i64 x25.reg, .int .i64 x25.from_, .int .i64 x25.to_] := hr37
   refine U.k Z Z (.inl Z) (S.loadN (cs := [.int .i64 x25.reg, .int .i64 x25.from_, .int .i64 x25.to_]) Z (L 0 Z Z) Try.underlying49 Z ti49 Z hc38) (fun _ => (okH.nil (fun r h => by cases h; exact hlt36))) ?_
   refine U.p Z Z (.inl Z) (S.move Z (L 7 Z Z)) ?_
   refine U.p Z Z (.inl Z) (S.move Z (L 10 Z Z)) ?_
   refine U.p Z Z (.inl Z) (S.move Z (L 14 Z Z)) ?_
   refine U.p Z Z (.inl Z) (S.add Z (L 1 Z Z) (L 0 Z Z)) ?_
   obtain ⟨x39, hx40, h41⟩ := bindS h27
   obtain ⟨_, hv42, _⟩ := ow23.osel (k := 0) Z hv32 hx40
   refine U.p Z Z (.inl Z) (S.index Z ((L 3 Z Z).trans hv42) (L 0 Z Z) Try.underlying44 ti49 (ix_ge hx40) (ix_lt hx40)) ?_
   obtain ⟨cs43, hv44, hlt45, hr46, hc47⟩ := ow23.osel (k := 0) Z hv32 hx40
   obtain rfl : cs43 = [.int .i64 x39.reg, .int .i64 x39.from_, .int .i64 x39.to_] := hr46
   refine U.k Z Z (.inl Z) (S.loadN (cs := [.int .i64 x39.reg, .int .i64 x39.from_, .int .i64 x39.to_]) Z (L 0 Z Z) Try.underlying49 Z ti49 Z hc47) (fun _ => (okH.cons trivial (okH.nil (fun r h => by cases h; exact hlt45)))) ?_
   obtain ⟨x48, hx49, h50⟩ := bindS h41
   refine O.callv (V := V21) Z Z (.inl Z) Z (L 12 Z Z) en31 (aC (L 6 Z Z) (aC (L 0 Z Z) aN)) (wk_flow_Spans_c1 V21 _ x25 x39 ow23 _ hx49) (fun v51 V52 le53 hp54 => by obtain ⟨rfl, ow55⟩ := hp54; exact (fun _ => (okH.cons (Or.inl Z) (okH.cons (Or.inl Z) (okH.nil (fun r h => nomatch h)))))) (fun v51 V52 le53 hp54 => ?_)
   obtain ⟨rfl, ow55⟩ := hp54
   refine U.p Z Z (.inl Z) (S.lss Z (L 0 Z Z) K) ?_
   refine U.p Z Z (.inl Z) (S.not Z (L 0 Z Z)) ?_
   refine U.done (nr Z) ?_
   refine WP.cond _ (L 0 Z Z) Z (fun c56 => ?_) (fun c56 => ?_)
   ·have h57 := ifT c56 h50
    have k58 : (decide (x48 < 0)) = false := nT c56
    refine WP.ret ?_
    refine sqR (blkR (sqR (blkR ?_)))
    have h59 := exitS h57 e12
    refine fin.slots' (.inr Z) fsN Z ⟨V52, Z, ((le8.trans le22).trans le53), ?_⟩
    have e60 := Option.some.inj h59
    subst e60
    exact ow55
   ·have h61 := ifF c56 h50
    have k62 : (decide (x48 < 0)) = true := nF c56
    refine WP.skip ?_
    refine sqN ?_
    refine WP.usdreg Z Z Z ?_
    refine U.p Z Z (.inl Z) (S.move Z (L 16 Z Z)) ?_
    refine U.p Z Z (.inl Z) (S.move Z (L 19 Z Z)) ?_
    refine U.p Z Z (.inl Z) (S.move Z (L 22 Z Z)) ?_
    refine U.p Z Z (.inl Z) (S.add Z (L 1 Z Z) (L 0 Z Z)) ?_
    refine U.p Z Z (.inl Z) (S.move Z (L 20 Z Z)) ?_
    refine U.p Z Z (.inl Z) (S.move Z (L 23 Z Z)) ?_
    refine U.p Z Z (.inl Z) (S.move Z (L 27 Z Z)) ?_
    refine U.p Z Z (.inl Z) (S.add Z (L 1 Z Z) (L 0 Z Z)) ?_
    refine U.p Z Z (.inl Z) (S.move Z (L 24 Z Z)) ?_
    refine U.p Z Z (.inl Z) (S.move Z (L 27 Z Z)) ?_
    refine U.p Z Z (.inl Z) (S.move Z (L 31 Z Z)) ?_
    refine U.p Z Z (.inl Z) (S.add Z (L 1 Z Z) (L 0 Z Z)) ?_
    obtain ⟨x63, hx64, h65⟩ := bindS h61
    obtain ⟨_, hv66, _⟩ := ow55.osel (k := 0) Z hv32 hx64
    refine U.p Z Z (.inl Z) (S.index Z ((L 3 Z Z).trans hv66) (L 0 Z Z) Try.underlying44 ti49 (ix_ge hx64) (ix_lt hx64)) ?_
    obtain ⟨cs67, hv68, hlt69, hr70, hc71⟩ := ow55.osel (k := 0) Z hv32 hx64
    obtain rfl : cs67 = [.int .i64 x63.reg, .int .i64 x63.from_, .int .i64 x63.to_] := hr70
    refine U.k Z Z (.inl Z) (S.loadN (cs := [.int .i64 x63.reg, .int .i64 x63.from_, .int .i64 x63.to_]) Z (L 0 Z Z) Try.underlying49 Z ti49 Z hc71) (fun _ => (okH.nil (fun r h => by cases h; exact hlt69))) ?_
    refine U.p Z Z (.inl Z) (S.move Z (L 30 Z Z)) ?_
    refine U.p Z Z (.inl Z) (S.move Z (L 33 Z Z)) ?_
    refine U.p Z Z (.inl Z) (S.move Z (L 36 Z Z)) ?_
    refine U.p Z Z (.inl Z) (S.add Z (L 1 Z Z) (L 0 Z Z)) ?_
    obtain ⟨x72, hx73, h74⟩ := bindS h65
    obtain ⟨_, hv75, _⟩ := ow55.osel (k := 0) Z hv32 hx73
    refine U.p Z Z (.inl Z) (S.index Z ((L 3 Z Z).trans hv75) (L 0 Z Z) Try.underlying44 ti49 (ix_ge hx73) (ix_lt hx73)) ?_
    obtain ⟨cs76, hv77, hlt78, hr79, hc80⟩ := ow55.osel (k := 0) Z hv32 hx73
    obtain rfl : cs76 = [.int .i64 x72.reg, .int .i64 x72.from_, .int .i64 x72.to_] := hr79
    refine U.k Z Z (.inl Z) (S.loadN (cs := [.int .i64 x72.reg, .int .i64 x72.from_, .int .i64 x72.to_]) Z (L 0 Z Z) Try.underlying49 Z ti49 Z hc80) (fun _ => (okH.cons trivial (okH.nil (fun r h => by cases h; exact hlt78)))) ?_
    obtain ⟨x81, hx82, h83⟩ := bindS h74
    obtain ⟨_, hv84, _⟩ := ow55.osel (k := 0) Z hv32 hx82
    refine U.p Z Z (.inl Z) (S.index Z ((L 19 Z Z).trans hv84) (L 16 Z Z) Try.underlying44 ti49 (ix_ge hx82) (ix_lt hx82)) ?_
    obtain ⟨cs85, hv86, hlt87, hr88, hc89⟩ := ow55.osel (k := 0) Z hv32 hx82
    obtain rfl : cs85 = [.int .i64 x81.reg, .int .i64 x81.from_, .int .i64 x81.to_] := hr88
    refine O.storeE (k := 0) (R := RT_Tflow_Span) (j := 0) (y := x63) (cs := [.int .i64 x63.reg, .int .i64 x63.from_, .int .i64 x63.to_]) ow55 Z hv86 Z Z (.inl Z) Z (L 0 Z Z) (L 7 Z Z) ti49 hx82 (by simp [topV]) Z Z Z (full Z) (fun H1 hs => (fun _ => (okH.cons (Or.inl Z) (okH.cons (Or.inl Z) (okH.nil (fun r h => nomatch h)))))) (fun V90 le91 ow92 => ?_)
    obtain ⟨x93, hx94, h95⟩ := bindS h83
    obtain ⟨_, hv96, _⟩ := ow92.osel (k := 0) Z hv32 hx94
    refine U.p Z Z (.inl Z) (S.index Z ((L 16 Z Z).trans hv96) (L 13 Z Z) Try.underlying44 ti49 (ix_ge hx94) (ix_lt hx94)) ?_
    obtain ⟨cs97, hv98, hlt99, hr100, hc101⟩ := ow92.osel (k := 0) Z hv32 hx94
    obtain rfl : cs97 = [.int .i64 x93.reg, .int .i64 x93.from_, .int .i64 x93.to_] := hr100
    refine O.storeE (k := 0) (R := RT_Tflow_Span) (j := 0) (y := x72) (cs := [.int .i64 x72.reg, .int .i64 x72.from_, .int .i64 x72.to_]) ow92 Z hv98 Z Z (.inl Z) Z (L 0 Z Z) (L 2 Z Z) ti49 hx94 (by simp [topV]) Z Z Z (full Z) (fun H1 hs => (fun _ => (okH.cons Z (okH.cons (Or.inl Z) (okH.cons (Or.inl Z) (okH.nil (fun r h => nomatch h))))))) (fun V102 le103 ow104 => ?_)
    refine U.done (nr Z) ?_
    refine WP.ureg Z ?_
    refine U.p Z Z (.inl Z) (S.move Z (L 43 Z Z)) ?_
    refine U.p Z Z (.inl Z) (S.assign Z (L 0 Z Z)) ?_
    refine U.done (nr Z) ?_
    refine blkN (sqN ?_)
    exact ⟨_, V102, Z, ⟨m10, Nat.lt_succ_self _, (xs3.set (Int.toNat (w64 (p3 + x4))) x63).set (Int.toNat (w64 (p3 + x20))) x72, x20, Z, ((((le8.trans le22).trans le53).trans le91).trans le103), ow104, backS h95 e12⟩, (allCons (L 40 Z Z) (allCons (L 41 Z Z) (allCons (L 42 Z Z) (allCons (L 43 Z Z) (allCons (L 0 Z Z) allNil)))))⟩
  ·skip
   refine WP.seqI (fun l V' => ∃ (x105 : Bool), l = [(0, v1), (2, .int .i64 p2), (3, .int .i64 p3), (4, .func (.func 31) #[] #[]), (10, .int .i64 x4), (11, .int .i64 (w64 ((w64 (2 * x4)) + 1))), (40, .bool x105)] ∧ V7.le V' ∧ Ow V' (.os RT_Tflow_Span v1 xs3 :: Rs) ∧ s_siftDown_k2 p3 xs3 x4 x105 = some q11) ?_ ?_
   ·rintro _ V106 ⟨x105, rfl, le107, ow108, h109⟩
    unfold s_siftDown_k2 at h109
    refine WP.cond _ (L 6 Z Z) Z (fun c110 => ?_) (fun c110 => ?_)
    ·have h111 := ifT c110 h109
     refine WP.ureg Z ?_
     refine U.p Z Z (.inl Z) (S.move Z (L 5 Z Z)) ?_
     refine U.p Z Z (.inl Z) (S.add Z (L 0 Z Z) K) ?_
     refine U.p Z Z (.inl Z) (S.assign Z (L 0 Z Z)) ?_
     refine U.done (nr Z) ?_
     refine sqN ?_
     exact ⟨_, V106, Z, ⟨w64 ((w64 ((w64 (2 * x4)) + 1)) + 1), Z, le107, ow108, h111⟩, (allCons (L 3 Z Z) (allCons (L 4 Z Z) (allCons (L 5 Z Z) (allCons (L 6 Z Z) (allCons (L 7 Z Z) (allCons (L 0 Z Z) allNil))))))⟩
    ·have h112 := ifF c110 h109
     refine WP.skip ?_
     refine sqN ?_
     exact ⟨_, V106, Z, ⟨w64 ((w64 (2 * x4)) + 1), Z, le107, ow108, h112⟩, (allCons (L 0 Z Z) (allCons (L 1 Z Z) (allCons (L 2 Z Z) (allCons (L 3 Z Z) (allCons (L 4 Z Z) (allCons (L 5 Z Z) allNil))))))⟩
   ·skip
    refine WP.udreg Z Z Z ?_
    refine U.p Z Z (.inl Z) (S.move Z (L 3 Z Z)) ?_
    refine U.p Z Z (.inl Z) (S.add Z (L 0 Z Z) K) ?_
    refine U.p Z Z (.inl Z) (S.move Z (L 10 Z Z)) ?_
    refine U.p Z Z (.inl Z) (S.lss Z (L 1 Z Z) (L 0 Z Z)) ?_
    refine U.p Z Z (.inl Z) (S.move Z (L 0 Z Z)) ?_
    refine bcase (b := decide ((w64 ((w64 ((w64 (2 * x4)) + 1)) + 1)) < p2)) (fun g113 => ?_) (fun g113 => ?_)
    ·have h114 := ifT g113 h19
     refine U.p Z Z (.inr ⟨_, _, _, Z, Z, ((L 0 Z Z).trans (cB g113))⟩) (S.move Z (L 15 Z Z)) ?_
     refine U.p Z Z (.inr ⟨_, _, _, Z, Z, ((L 1 Z Z).trans (cB g113))⟩) (S.move Z (L 13 Z Z)) ?_
     refine U.p Z Z (.inr ⟨_, _, _, Z, Z, ((L 2 Z Z).trans (cB g113))⟩) (S.move Z (L 16 Z Z)) ?_
     refine U.p Z Z (.inr ⟨_, _, _, Z, Z, ((L 3 Z Z).trans (cB g113))⟩) (S.move Z (L 11 Z Z)) ?_
     refine U.p Z Z (.inr ⟨_, _, _, Z, Z, ((L 4 Z Z).trans (cB g113))⟩) (S.add Z (L 1 Z Z) (L 0 Z Z)) ?_
     obtain ⟨x115, hx116, h117⟩ := bindS h114
     obtain ⟨b118, o119, n120, c121, hv122⟩ := ow9.ospt (k := 0) Z hx116
     obtain ⟨_, hv123, _⟩ := ow9.osel (k := 0) Z hv122 hx116
     refine U.p Z Z (.inr ⟨_, _, _, Z, Z, ((L 5 Z Z).trans (cB g113))⟩) (S.index Z ((L 3 Z Z).trans hv123) (L 0 Z Z) Try.underlying44 ti49 (ix_ge hx116) (ix_lt hx116)) ?_
     obtain ⟨cs124, hv125, hlt126, hr127, hc128⟩ := ow9.osel (k := 0) Z hv122 hx116
     obtain rfl : cs124 = [.int .i64 x115.reg, .int .i64 x115.from_, .int .i64 x115.to_] := hr127
     refine U.k Z Z (.inr ⟨_, _, _, Z, Z, ((L 6 Z Z).trans (cB g113))⟩) (S.loadN (cs := [.int .i64 x115.reg, .int .i64 x115.from_, .int .i64 x115.to_]) Z (L 0 Z Z) Try.underlying49 Z ti49 Z hc128) (fun _ => (okH.nil (fun r h => by cases h; exact hlt126))) ?_
     refine U.p Z Z (.inr ⟨_, _, _, Z, Z, ((L 7 Z Z).trans (cB g113))⟩) (S.move Z (L 19 Z Z)) ?_
     refine U.p Z Z (.inr ⟨_, _, _, Z, Z, ((L 8 Z Z).trans (cB g113))⟩) (S.move Z (L 22 Z Z)) ?_
     refine U.p Z Z (.inr ⟨_, _, _, Z, Z, ((L 9 Z Z).trans (cB g113))⟩) (S.move Z (L 17 Z Z)) ?_
     refine U.p Z Z (.inr ⟨_, _, _, Z, Z, ((L 10 Z Z).trans (cB g113))⟩) (S.add Z (L 1 Z Z) (L 0 Z Z)) ?_
     refine U.p Z Z (.inr ⟨_, _, _, Z, Z, ((L 11 Z Z).trans (cB g113))⟩) (S.add Z (L 0 Z Z) K) ?_
     obtain ⟨x129, hx130, h131⟩ := bindS h117
     obtain ⟨_, hv132, _⟩ := ow9.osel (k := 0) Z hv122 hx130
     refine U.p Z Z (.inr ⟨_, _, _, Z, Z, ((L 12 Z Z).trans (cB g113))⟩) (S.index Z ((L 4 Z Z).trans hv132) (L 0 Z Z) Try.underlying44 ti49 (ix_ge hx130) (ix_lt hx130)) ?_
     obtain ⟨cs133, hv134, hlt135, hr136, hc137⟩ := ow9.osel (k := 0) Z hv122 hx130
     obtain rfl : cs133 = [.int .i64 x129.reg, .int .i64 x129.from_, .int .i64 x129.to_] := hr136
     refine U.k Z Z (.inr ⟨_, _, _, Z, Z, ((L 13 Z Z).trans (cB g113))⟩) (S.loadN (cs := [.int .i64 x129.reg, .int .i64 x129.from_, .int .i64 x129.to_]) Z (L 0 Z Z) Try.underlying49 Z ti49 Z hc137) (fun _ => (okH.cons trivial (okH.nil (fun r h => by cases h; exact hlt135)))) ?_
     obtain ⟨x138, hx139, h140⟩ := bindS h131
     refine O.callv (V := V7) Z Z (.inr ⟨_, _, _, Z, Z, ((L 14 Z Z).trans (cB g113))⟩) Z (L 13 Z Z) en31 (aC (L 7 Z Z) (aC (L 0 Z Z) aN)) (wk_flow_Spans_c1 V7 _ x115 x129 ow9 _ hx139) (fun v141 V142 le143 hp144 => by obtain ⟨rfl, ow145⟩ := hp144; exact (fun _ => (okH.cons (Or.inl Z) (okH.cons (Or.inl Z) (okH.nil (fun r h => nomatch h)))))) (fun v141 V142 le143 hp144 => ?_)
     obtain ⟨rfl, ow145⟩ := hp144
     refine U.p Z Z (.inr ⟨_, _, _, Z, Z, ((L 15 Z Z).trans (cB g113))⟩) (S.lss Z (L 0 Z Z) K) ?_
     refine U.p Z Z (.inl Z) (S.pickT Z ((L 16 Z Z).trans (cB g113)) (L 0 Z Z)) ?_
     refine U.done (nr Z) ?_
     refine sqN ?_
     exact ⟨_, V142, Z, ⟨decide (x138 < 0), Z, le143, ow145, h140⟩, (allCons (L 29 Z Z) (allCons (L 30 Z Z) (allCons (L 31 Z Z) (allCons (L 32 Z Z) (allCons (L 33 Z Z) (allCons (L 25 Z Z) (allCons (L 0 Z Z) allNil)))))))⟩
    ·have h146 := ifF g113 h19
     refine U.x Z Z Z Z ((L 0 Z Z).trans (cB g113)) (by decide) ?_
     refine U.x Z Z Z Z ((L 1 Z Z).trans (cB g113)) (by decide) ?_
     refine U.x Z Z Z Z ((L 2 Z Z).trans (cB g113)) (by decide) ?_
     refine U.x Z Z Z Z ((L 3 Z Z).trans (cB g113)) (by decide) ?_
     refine U.x Z Z Z Z ((L 4 Z Z).trans (cB g113)) (by decide) ?_
     refine U.x Z Z Z Z ((L 5 Z Z).trans (cB g113)) (by decide) ?_
     refine U.x Z Z Z Z ((L 6 Z Z).trans (cB g113)) (by decide) ?_
     refine U.x Z Z Z Z ((L 7 Z Z).trans (cB g113)) (by decide) ?_
     refine U.x Z Z Z Z ((L 8 Z Z).trans (cB g113)) (by decide) ?_
     refine U.x Z Z Z Z ((L 9 Z Z).trans (cB g113)) (by decide) ?_
     refine U.x Z Z Z Z ((L 10 Z Z).trans (cB g113)) (by decide) ?_
     refine U.x Z Z Z Z ((L 11 Z Z).trans (cB g113)) (by decide) ?_
     refine U.x Z Z Z Z ((L 12 Z Z).trans (cB g113)) (by decide) ?_
     refine U.x Z Z Z Z ((L 13 Z Z).trans (cB g113)) (by decide) ?_
     refine U.x Z Z Z Z ((L 14 Z Z).trans (cB g113)) (by decide) ?_
     refine U.x Z Z Z Z ((L 15 Z Z).trans (cB g113)) (by decide) ?_
     refine U.p Z Z (.inl Z) (S.pickF Z ((L 16 Z Z).trans (cB g113)) K) ?_
     refine U.done (nr Z) ?_
     refine sqN ?_
     exact ⟨_, V7, Z, ⟨false, Z, (.refl _), ow9, h146⟩, (allCons (L 29 Z Z) (allCons (L 30 Z Z) (allCons (L 31 Z Z) (allCons (L 32 Z Z) (allCons (L 33 Z Z) (allCons (L 25 Z Z) (allCons (L 0 Z Z) allNil)))))))⟩
theorem wk_s_heapSort (V : Vw) (Rs : List At) (p0 : List Tflow_Span) (p1 : Int) (p2 : Int) (v1 : Value) (ow : Ow V (.os RT_Tflow_Span v1 p0 :: Rs)) (r : List Tflow_Span) (h : s_heapSort p0 p1 p2 = some r) : ∃ v V', Cl Try.prog 0 50 #[v1, .int .i64 p1, .int .i64 p2, .func (.func 31) #[] #[]] V.H v V'.H ∧ V.le V' ∧ (Ow V' (.os RT_Tflow_Span v1 r :: Rs)) := by
 refine Ct.of (Nat.zero_le _) Try.func50 Z (nr Z) ?_
 unfold s_heapSort at h
 refine WP.usreg Z ?_
 refine U.p Z Z (.inl Z) (S.move Z (L 1 Z Z)) ?_
 refine U.p Z Z (.inl Z) (S.assign Z (L 0 Z Z)) ?_
 refine U.done (nr Z) ?_
 refine WP.usreg Z ?_
 refine U.p Z Z (.inl Z) (S.assign Z K) ?_
 refine U.done (nr Z) ?_
 refine WP.usreg Z ?_
 refine U.p Z Z (.inl Z) (S.move Z (L 5 Z Z)) ?_
 refine U.p Z Z (.inl Z) (S.move Z (L 5 Z Z)) ?_
 refine U.p Z Z (.inl Z) (S.sub Z (L 1 Z Z) (L 0 Z Z)) ?_
 refine U.p Z Z (.inl Z) (S.assign Z (L 0 Z Z)) ?_
 refine U.done (nr Z) ?_
 refine WP.seq ?_
 refine WP.usreg Z ?_
 refine U.p Z Z (.inl Z) (S.move Z (L 0 Z Z)) ?_
 refine U.p Z Z (.inl Z) (S.sub Z (L 0 Z Z) K) ?_
 obtain ⟨x3, hx4, h5⟩ := bindS h
 refine U.p Z Z (.inl Z) (S.quo hx4 Z (L 0 Z Z) K) ?_
 refine U.p Z Z (.inl Z) (S.assign Z (L 0 Z Z)) ?_
 refine U.done (nr Z) ?_
 refine WP.blk ?_
 unfold s_heapSort_l1 at h5
 obtain ⟨n9, hn8⟩ := loopO_some.1 h5
 refine WP.loopI2 (fun n l V' => ∃ (xs6 : List Tflow_Span) (x7 : Int), l = [(0, v1), (3, .func (.func 31) #[] #[]), (8, .int .i64 p1), (9, .int .i64 0), (10, .int .i64 (w64 (p2 - p1))), (11, .int .i64 x7)] ∧ V.le V' ∧ Ow V' (.os RT_Tflow_Span v1 xs6 :: Rs) ∧ itO (fun s => s_heapSort_l1b p1 p2 s.1 s.2) n (xs6, x7) = some r) n9 _ ⟨p0, x3, Z, .refl _, ow, hn8⟩ (allCons (L 11 Z Z) (allCons (L 14 Z Z) (allCons (L 9 Z Z) (allCons (L 8 Z Z) (allCons (L 4 Z Z) (allCons (L 0 Z Z) allNil)))))) ?_
 rintro _ _ V10 ⟨xs6, x7, rfl, le11, ow12, h16⟩
 obtain ⟨m13, q14, rfl, h17, e15⟩ := itS h16
 replace h17 : s_heapSort_l1b p1 p2 xs6 x7 = some q14 := h17
 unfold s_heapSort_l1b at h17
 refine WP.seq ?_
 refine WP.usreg Z ?_
 refine U.p Z Z (.inl Z) (S.move Z (L 5 Z Z)) ?_
 refine U.p Z Z (.inl Z) (S.geq Z (L 0 Z Z) K) ?_
 refine U.done (nr Z) ?_
 refine WP.cond _ (L 0 Z Z) Z (fun c18 => ?_) (fun c18 => ?_)
 ·have h19 := ifT c18 h17
  refine WP.skip ?_
  refine sqN ?_
  refine WP.seq ?_
  refine WP.blk ?_
  refine WP.ureg Z ?_
  refine U.p Z Z (.inl Z) (S.move Z (L 2 Z Z)) ?_
  refine U.p Z Z (.inl Z) (S.move Z (L 8 Z Z)) ?_
  refine U.p Z Z (.inl Z) (S.move Z (L 8 Z Z)) ?_
  refine U.p Z Z (.inl Z) (S.move Z (L 7 Z Z)) ?_
  refine U.p Z Z (.inl Z) (S.move Z (L 7 Z Z)) ?_
  obtain ⟨x20, hx21, h22⟩ := bindS h19
  refine O.call (V := V10) Z Z (.inl Z) Z en61 (aC (L 4 Z Z) (aC (L 3 Z Z) (aC (L 2 Z Z) (aC (L 1 Z Z) (aC (L 0 Z Z) aN))))) (wk_s_siftDown V10 _ xs6 x7 (w64 (p2 - p1)) p1 v1 ow12 _ hx21) (fun _ _ _ _ => nd) (fun v23 V24 le25 hp26 => ?_)
  have ow27 := hp26
  refine U.done (nr Z) ?_
  refine blkN (sqN ?_)
  refine WP.ureg Z ?_
  refine U.p Z Z (.inl Z) (S.move Z (L 13 Z Z)) ?_
  refine U.p Z Z (.inl Z) (S.sub Z (L 0 Z Z) K) ?_
  refine U.p Z Z (.inl Z) (S.assign Z (L 0 Z Z)) ?_
  refine U.done (nr Z) ?_
  refine sqN ?_
  exact ⟨_, V24, Z, ⟨m13, Nat.lt_succ_self _, x20, w64 (x7 - 1), Z, (le11.trans le25), ow27, backS h22 e15⟩, (allCons (L 11 Z Z) (allCons (L 12 Z Z) (allCons (L 13 Z Z) (allCons (L 14 Z Z) (allCons (L 15 Z Z) (allCons (L 0 Z Z) allNil))))))⟩
 ·have h28 := ifF c18 h17
  refine WP.exit ?_
  refine sqE (sqE (blkE (sqN ?_)))
  have h29 := exitS h28 e15
  refine WP.usreg Z ?_
  refine U.p Z Z (.inl Z) (S.move Z (L 6 Z Z)) ?_
  refine U.p Z Z (.inl Z) (S.sub Z (L 0 Z Z) K) ?_
  refine U.p Z Z (.inl Z) (S.assign Z (L 0 Z Z)) ?_
  refine U.done (nr Z) ?_
  refine WP.blk ?_
  unfold s_heapSort_l2 at h29
  obtain ⟨n33, hn32⟩ := loopO_some.1 h29
  refine WP.loopI2 (fun n l V' => ∃ (xs30 : List Tflow_Span) (x31 : Int), l = [(0, v1), (3, .func (.func 31) #[] #[]), (8, .int .i64 p1), (9, .int .i64 0), (12, .int .i64 x31)] ∧ V10.le V' ∧ Ow V' (.os RT_Tflow_Span v1 xs30 :: Rs) ∧ itO (fun s => s_heapSort_l2b p1 s.1 s.2) n (xs30, x31) = some r) n33 _ ⟨xs6, w64 ((w64 (p2 - p1)) - 1), Z, .refl _, ow12, hn32⟩ (allCons (L 5 Z Z) (allCons (L 6 Z Z) (allCons (L 7 Z Z) (allCons (L 8 Z Z) (allCons (L 0 Z Z) allNil))))) ?_
  rintro _ _ V34 ⟨xs30, x31, rfl, le35, ow36, h40⟩
  obtain ⟨m37, q38, rfl, h41, e39⟩ := itS h40
  replace h41 : s_heapSort_l2b p1 xs30 x31 = some q38 := h41
  unfold s_heapSort_l2b at h41
  refine WP.seq ?_
  refine WP.usreg Z ?_
  refine U.p Z Z (.inl Z) (S.move Z (L 4 Z Z)) ?_
  refine U.p Z Z (.inl Z) (S.geq Z (L 0 Z Z) K) ?_
  refine U.done (nr Z) ?_
  refine WP.cond _ (L 0 Z Z) Z (fun c42 => ?_) (fun c42 => ?_)
  ·have h43 := ifT c42 h41
   refine WP.skip ?_
   refine sqN ?_
   refine WP.seq ?_
   refine WP.blk ?_
   refine WP.usdreg Z Z Z ?_
   refine U.p Z Z (.inl Z) (S.move Z (L 2 Z Z)) ?_
   refine U.p Z Z (.inl Z) (S.move Z (L 5 Z Z)) ?_
   refine U.p Z Z (.inl Z) (S.move Z (L 4 Z Z)) ?_
   refine U.p Z Z (.inl Z) (S.move Z (L 7 Z Z)) ?_
   refine U.p Z Z (.inl Z) (S.move Z (L 10 Z Z)) ?_
   refine U.p Z Z (.inl Z) (S.add Z (L 1 Z Z) (L 0 Z Z)) ?_
   refine U.p Z Z (.inl Z) (S.move Z (L 8 Z Z)) ?_
   refine U.p Z Z (.inl Z) (S.move Z (L 11 Z Z)) ?_
   refine U.p Z Z (.inl Z) (S.move Z (L 14 Z Z)) ?_
   refine U.p Z Z (.inl Z) (S.add Z (L 1 Z Z) (L 0 Z Z)) ?_
   obtain ⟨x44, hx45, h46⟩ := bindS h43
   obtain ⟨b47, o48, n49, c50, hv51⟩ := ow36.ospt (k := 0) Z hx45
   obtain ⟨_, hv52, _⟩ := ow36.osel (k := 0) Z hv51 hx45
   refine U.p Z Z (.inl Z) (S.index Z ((L 3 Z Z).trans hv52) (L 0 Z Z) Try.underlying44 ti49 (ix_ge hx45) (ix_lt hx45)) ?_
   obtain ⟨cs53, hv54, hlt55, hr56, hc57⟩ := ow36.osel (k := 0) Z hv51 hx45
   obtain rfl : cs53 = [.int .i64 x44.reg, .int .i64 x44.from_, .int .i64 x44.to_] := hr56
   refine U.k Z Z (.inl Z) (S.loadN (cs := [.int .i64 x44.reg, .int .i64 x44.from_, .int .i64 x44.to_]) Z (L 0 Z Z) Try.underlying49 Z ti49 Z hc57) (fun _ => (okH.nil (fun r h => by cases h; exact hlt55))) ?_
   refine U.p Z Z (.inl Z) (S.move Z (L 14 Z Z)) ?_
   refine U.p Z Z (.inl Z) (S.move Z (L 17 Z Z)) ?_
   obtain ⟨x58, hx59, h60⟩ := bindS h46
   obtain ⟨_, hv61, _⟩ := ow36.osel (k := 0) Z hv51 hx59
   refine U.p Z Z (.inl Z) (S.index Z ((L 1 Z Z).trans hv61) (L 0 Z Z) Try.underlying44 ti49 (ix_ge hx59) (ix_lt hx59)) ?_
   obtain ⟨cs62, hv63, hlt64, hr65, hc66⟩ := ow36.osel (k := 0) Z hv51 hx59
   obtain rfl : cs62 = [.int .i64 x58.reg, .int .i64 x58.from_, .int .i64 x58.to_] := hr65
   refine U.k Z Z (.inl Z) (S.loadN (cs := [.int .i64 x58.reg, .int .i64 x58.from_, .int .i64 x58.to_]) Z (L 0 Z Z) Try.underlying49 Z ti49 Z hc66) (fun _ => (okH.cons trivial (okH.nil (fun r h => by cases h; exact hlt64)))) ?_
   obtain ⟨x67, hx68, h69⟩ := bindS h60
   obtain ⟨_, hv70, _⟩ := ow36.osel (k := 0) Z hv51 hx68
   refine U.p Z Z (.inl Z) (S.index Z ((L 15 Z Z).trans hv70) (L 14 Z Z) Try.underlying44 ti49 (ix_ge hx68) (ix_lt hx68)) ?_
   obtain ⟨cs71, hv72, hlt73, hr74, hc75⟩ := ow36.osel (k := 0) Z hv51 hx68
   obtain rfl : cs71 = [.int .i64 x67.reg, .int .i64 x67.from_, .int .i64 x67.to_] := hr74
   refine O.storeE (k := 0) (R := RT_Tflow_Span) (j := 0) (y := x44) (cs := [.int .i64 x44.reg, .int .i64 x44.from_, .int .i64 x44.to_]) ow36 Z hv72 Z Z (.inl Z) Z (L 0 Z Z) (L 5 Z Z) ti49 hx68 (by simp [topV]) Z Z Z (full Z) (fun H1 hs => (fun _ => (okH.cons (Or.inl Z) (okH.cons (Or.inl Z) (okH.nil (fun r h => nomatch h)))))) (fun V76 le77 ow78 => ?_)
   obtain ⟨x79, hx80, h81⟩ := bindS h69
   obtain ⟨_, hv82, _⟩ := ow78.osel (k := 0) Z hv51 hx80
   refine U.p Z Z (.inl Z) (S.index Z ((L 14 Z Z).trans hv82) (L 11 Z Z) Try.underlying44 ti49 (ix_ge hx80) (ix_lt hx80)) ?_
   obtain ⟨cs83, hv84, hlt85, hr86, hc87⟩ := ow78.osel (k := 0) Z hv51 hx80
   obtain rfl : cs83 = [.int .i64 x79.reg, .int .i64 x79.from_, .int .i64 x79.to_] := hr86
   refine O.storeE (k := 0) (R := RT_Tflow_Span) (j := 0) (y := x58) (cs := [.int .i64 x58.reg, .int .i64 x58.from_, .int .i64 x58.to_]) ow78 Z hv84 Z Z (.inl Z) Z (L 0 Z Z) (L 2 Z Z) ti49 hx80 (by simp [topV]) Z Z Z (full Z) (fun H1 hs => (fun _ => (okH.cons Z (okH.cons (Or.inl Z) (okH.cons (Or.inl Z) (okH.nil (fun r h => nomatch h))))))) (fun V88 le89 ow90 => ?_)
   refine U.done (nr Z) ?_
   refine WP.ureg Z ?_
   refine U.p Z Z (.inl Z) (S.move Z (L 20 Z Z)) ?_
   refine U.p Z Z (.inl Z) (S.move Z (L 24 Z Z)) ?_
   refine U.p Z Z (.inl Z) (S.move Z (L 26 Z Z)) ?_
   refine U.p Z Z (.inl Z) (S.move Z (L 25 Z Z)) ?_
   refine U.p Z Z (.inl Z) (S.move Z (L 25 Z Z)) ?_
   obtain ⟨x91, hx92, h93⟩ := bindS h81
   refine O.call (V := V88) Z Z (.inl Z) Z en61 (aC (L 4 Z Z) (aC (L 3 Z Z) (aC (L 2 Z Z) (aC (L 1 Z Z) (aC (L 0 Z Z) aN))))) (wk_s_siftDown V88 _ ((xs30.set (Int.toNat p1) x44).set (Int.toNat (w64 (p1 + x31))) x58) 0 x31 p1 v1 ow90 _ hx92) (fun _ _ _ _ => nd) (fun v94 V95 le96 hp97 => ?_)
   have ow98 := hp97
   refine U.done (nr Z) ?_
   refine blkN (sqN ?_)
   refine WP.ureg Z ?_
   refine U.p Z Z (.inl Z) (S.move Z (L 30 Z Z)) ?_
   refine U.p Z Z (.inl Z) (S.sub Z (L 0 Z Z) K) ?_
   refine U.p Z Z (.inl Z) (S.assign Z (L 0 Z Z)) ?_
   refine U.done (nr Z) ?_
   refine sqN ?_
   exact ⟨_, V95, Z, ⟨m37, Nat.lt_succ_self _, x91, w64 (x31 - 1), Z, (((le35.trans le77).trans le89).trans le96), ow98, backS h93 e39⟩, (allCons (L 29 Z Z) (allCons (L 30 Z Z) (allCons (L 31 Z Z) (allCons (L 32 Z Z) (allCons (L 0 Z Z) allNil)))))⟩
  ·have h99 := ifF c42 h41
   refine WP.exit ?_
   refine sqE (sqE (blkE ?_))
   have h100 := exitS h99 e39
   refine fin.slots' (.inl Z) fsN Z ⟨V34, Z, (le11.trans le35), ?_⟩
   have e101 := Option.some.inj h100
   subst e101
   exact ow36
theorem wk_s_order2 (V : Vw) (Rs : List At) (p0 : List Tflow_Span) (p1 : Int) (p2 : Int) (p3 : Int) (v1 : Value) (b3 : Nat) (z4 : Nat) (ow : Ow V (.os RT_Tflow_Span v1 p0 :: .pt b3 (.cells z4 [.int .i64 p3]) :: Rs)) (r : Int × Int × Int) (h : s_order2 p0 p1 p2 p3 = some r) : ∃ v V', Cl Try.prog 0 66 #[v1, .int .i64 p1, .int .i64 p2, .pointer (some ⟨b3, 0, none⟩), .func (.func 31) #[] #[]] V.H v V'.H ∧ V.le V' ∧ (v = .tuple #[.int .i64 r.1, .int .i64 r.2.1] ∧ Ow V' (.os RT_Tflow_Span v1 p0 :: .pt b3 (.cells z4 [.int .i64 r.2.2]) :: Rs)) := by
 refine Ct.of (Nat.zero_le _) Try.func66 Z (nr Z) ?_
 unfold s_order2 at h
 refine WP.usreg Z ?_
 refine U.p Z Z (.inl Z) (S.assign Z K) ?_
 refine U.p Z Z (.inl Z) (S.assign Z K) ?_
 refine U.done (nr Z) ?_
 refine WP.seq ?_
 refine WP.usdreg Z Z Z ?_
 refine U.p Z Z (.inl Z) (S.move Z (L 6 Z Z)) ?_
 refine U.p Z Z (.inl Z) (S.move Z (L 3 Z Z)) ?_
 refine U.p Z Z (.inl Z) (S.move Z (L 6 Z Z)) ?_
 obtain ⟨x6, hx7, h8⟩ := bindS h
 obtain ⟨b9, o10, n11, c12, hv13⟩ := ow.ospt (k := 0) Z hx7
 obtain ⟨_, hv14, _⟩ := ow.osel (k := 0) Z hv13 hx7
 refine U.p Z Z (.inl Z) (S.index Z ((L 1 Z Z).trans hv14) (L 0 Z Z) Try.underlying44 ti49 (ix_ge hx7) (ix_lt hx7)) ?_
 obtain ⟨cs15, hv16, hlt17, hr18, hc19⟩ := ow.osel (k := 0) Z hv13 hx7
 obtain rfl : cs15 = [.int .i64 x6.reg, .int .i64 x6.from_, .int .i64 x6.to_] := hr18
 refine U.k Z Z (.inl Z) (S.loadN (cs := [.int .i64 x6.reg, .int .i64 x6.from_, .int .i64 x6.to_]) Z (L 0 Z Z) Try.underlying49 Z ti49 Z hc19) (fun _ => (okH.nil (fun r h => by cases h; exact hlt17))) ?_
 refine U.p Z Z (.inl Z) (S.move Z (L 7 Z Z)) ?_
 refine U.p Z Z (.inl Z) (S.move Z (L 9 Z Z)) ?_
 obtain ⟨x20, hx21, h22⟩ := bindS h8
 obtain ⟨_, hv23, _⟩ := ow.osel (k := 0) Z hv13 hx21
 refine U.p Z Z (.inl Z) (S.index Z ((L 1 Z Z).trans hv23) (L 0 Z Z) Try.underlying44 ti49 (ix_ge hx21) (ix_lt hx21)) ?_
 obtain ⟨cs24, hv25, hlt26, hr27, hc28⟩ := ow.osel (k := 0) Z hv13 hx21
 obtain rfl : cs24 = [.int .i64 x20.reg, .int .i64 x20.from_, .int .i64 x20.to_] := hr27
 refine U.k Z Z (.inl Z) (S.loadN (cs := [.int .i64 x20.reg, .int .i64 x20.from_, .int .i64 x20.to_]) Z (L 0 Z Z) Try.underlying49 Z ti49 Z hc28) (fun _ => (okH.cons trivial (okH.nil (fun r h => by cases h; exact hlt26)))) ?_
 obtain ⟨x29, hx30, h31⟩ := bindS h22
 refine O.callv (V := V) Z Z (.inl Z) Z (L 8 Z Z) en31 (aC (L 4 Z Z) (aC (L 0 Z Z) aN)) (wk_flow_Spans_c1 V _ x6 x20 ow _ hx30) (fun v32 V33 le34 hp35 => by obtain ⟨rfl, ow36⟩ := hp35; exact (fun _ => (okH.cons (Or.inl Z) (okH.cons (Or.inl Z) (okH.nil (fun r h => nomatch h)))))) (fun v32 V33 le34 hp35 => ?_)
 obtain ⟨rfl, ow36⟩ := hp35
 refine U.p Z Z (.inl Z) (S.lss Z (L 0 Z Z) K) ?_
 refine U.done (nr Z) ?_
 refine WP.cond _ (L 0 Z Z) Z (fun c37 => ?_) (fun c37 => ?_)
 ·have h38 := ifT c37 h31
  refine WP.usreg Z ?_
  refine U.p Z Z (.inl Z) (S.move Z (L 16 Z Z)) ?_
  refine U.p Z Z (.inl Z) (S.nilCheck Z (L 0 Z Z)) ?_
  refine U.k Z Z (.inl Z) (S.load Z (L 0 Z Z) Try.underlying3 Z ((ow36.own (k := 1) Z).cell Z)) nd ?_
  refine U.p Z Z (.inl Z) (S.add Z (L 0 Z Z) K) ?_
  refine U.p Z Z (.inl Z) (S.nilCheck Z (L 3 Z Z)) ?_
  refine O.store (k := 1) (cs := [.int .i64 (w64 (p3 + 1))]) (c' := [.int .i64 (w64 (p3 + 1))]) ow36 Z Z Z (.inl Z) Z (L 0 Z Z) (L 1 Z Z) ti3 (by simp [topV]) Z Z (nr Z) Z Z nd (fun V39 le40 ow41 => ?_)
  refine U.done (nr Z) ?_
  refine WP.usreg Z ?_
  refine U.p Z Z (.inl Z) (S.move Z (L 20 Z Z)) ?_
  refine U.p Z Z (.inl Z) (S.move Z (L 20 Z Z)) ?_
  refine U.p Z Z (.inl Z) (S.assign Z (L 1 Z Z)) ?_
  refine U.p Z Z (.inl Z) (S.assign Z (L 1 Z Z)) ?_
  refine U.done (nr Z) ?_
  refine WP.ret ?_
  refine sqR ?_
  refine fin.slots' (.inr Z) (fsC (L 1 Z Z) (fsC (L 0 Z Z) fsN)) Z ⟨V39, Z, (le34.trans le40), ?_⟩
  have e42 := Option.some.inj h38
  subst e42
  exact ⟨rfl, ow41⟩
 ·have h43 := ifF c37 h31
  refine WP.skip ?_
  refine sqN ?_
  refine WP.usreg Z ?_
  refine U.p Z Z (.inl Z) (S.move Z (L 14 Z Z)) ?_
  refine U.p Z Z (.inl Z) (S.move Z (L 16 Z Z)) ?_
  refine U.p Z Z (.inl Z) (S.assign Z (L 1 Z Z)) ?_
  refine U.p Z Z (.inl Z) (S.assign Z (L 1 Z Z)) ?_
  refine U.done (nr Z) ?_
  refine WP.ret ?_
  refine fin.slots' (.inr Z) (fsC (L 1 Z Z) (fsC (L 0 Z Z) fsN)) Z ⟨V33, Z, le34, ?_⟩
  have e44 := Option.some.inj h43
  subst e44
  exact ⟨rfl, ow36⟩
theorem wk_s_median (V : Vw) (Rs : List At) (p0 : List Tflow_Span) (p1 : Int) (p2 : Int) (p3 : Int) (p4 : Int) (v1 : Value) (b3 : Nat) (z4 : Nat) (ow : Ow V (.os RT_Tflow_Span v1 p0 :: .pt b3 (.cells z4 [.int .i64 p4]) :: Rs)) (r : Int × Int) (h : s_median p0 p1 p2 p3 p4 = some r) : ∃ v V', Cl Try.prog 0 65 #[v1, .int .i64 p1, .int .i64 p2, .int .i64 p3, .pointer (some ⟨b3, 0, none⟩), .func (.func 31) #[] #[]] V.H v V'.H ∧ V.le V' ∧ (v = .int .i64 r.1 ∧ Ow V' (.os RT_Tflow_Span v1 p0 :: .pt b3 (.cells z4 [.int .i64 r.2]) :: Rs)) := by
 refine Ct.of (Nat.zero_le _) Try.func65 Z (nr Z) ?_
 unfold s_median at h
 refine WP.usreg Z ?_
 refine U.p Z Z (.inl Z) (S.assign Z K) ?_
 refine U.done (nr Z) ?_
 refine WP.usreg Z ?_
 refine U.p Z Z (.inl Z) (S.move Z (L 1 Z Z)) ?_
 refine U.p Z Z (.inl Z) (S.move Z (L 3 Z Z)) ?_
 refine U.p Z Z (.inl Z) (S.move Z (L 5 Z Z)) ?_
 refine U.p Z Z (.inl Z) (S.move Z (L 8 Z Z)) ?_
 refine U.p Z Z (.inl Z) (S.move Z (L 10 Z Z)) ?_
 have ow6 := ow.pick 1 Z
 have ow7 := ow6.pick 1 Z
 obtain ⟨x8, hx9, h10⟩ := bindS h
 refine O.call (V := V) Z Z (.inl Z) Z en66 (aC (L 4 Z Z) (aC (L 3 Z Z) (aC (L 2 Z Z) (aC (L 1 Z Z) (aC (L 0 Z Z) aN))))) (wk_s_order2 V _ p0 p1 p2 p4 v1 b3 z4 ow7 _ hx9) (fun _ _ _ _ => nd) (fun v11 V12 le13 hp14 => ?_)
 obtain ⟨rfl, ow15⟩ := hp14
 refine U.p Z Z (.inl Z) (S.move Z (L 0 Z Z)) ?_
 refine U.p Z Z (.inl Z) (S.extract Z (L 0 Z Z) Z (nr Z)) ?_
 refine U.p Z Z (.inl Z) (S.extract Z (L 1 Z Z) Z (nr Z)) ?_
 refine U.p Z Z (.inl Z) (S.assign Z (L 1 Z Z)) ?_
 refine U.p Z Z (.inl Z) (S.assign Z (L 1 Z Z)) ?_
 refine U.done (nr Z) ?_
 refine WP.usreg Z ?_
 refine U.p Z Z (.inl Z) (S.move Z (L 12 Z Z)) ?_
 refine U.p Z Z (.inl Z) (S.move Z (L 1 Z Z)) ?_
 refine U.p Z Z (.inl Z) (S.move Z (L 17 Z Z)) ?_
 refine U.p Z Z (.inl Z) (S.move Z (L 19 Z Z)) ?_
 refine U.p Z Z (.inl Z) (S.move Z (L 21 Z Z)) ?_
 have ow16 := ow15.pick 1 Z
 have ow17 := ow16.pick 1 Z
 obtain ⟨x18, hx19, h20⟩ := bindS h10
 refine O.call (V := V12) Z Z (.inl Z) Z en66 (aC (L 4 Z Z) (aC (L 3 Z Z) (aC (L 2 Z Z) (aC (L 1 Z Z) (aC (L 0 Z Z) aN))))) (wk_s_order2 V12 _ p0 x8.2.1 p3 x8.2.2 v1 b3 z4 ow17 _ hx19) (fun _ _ _ _ => nd) (fun v21 V22 le23 hp24 => ?_)
 obtain ⟨rfl, ow25⟩ := hp24
 refine U.p Z Z (.inl Z) (S.move Z (L 0 Z Z)) ?_
 refine U.p Z Z (.inl Z) (S.extract Z (L 0 Z Z) Z (nr Z)) ?_
 refine U.p Z Z (.inl Z) (S.extract Z (L 1 Z Z) Z (nr Z)) ?_
 refine U.p Z Z (.inl Z) (S.assign Z (L 1 Z Z)) ?_
 refine U.p Z Z (.inl Z) (S.assign Z (L 1 Z Z)) ?_
 refine U.done (nr Z) ?_
 refine WP.usreg Z ?_
 refine U.p Z Z (.inl Z) (S.move Z (L 23 Z Z)) ?_
 refine U.p Z Z (.inl Z) (S.move Z (L 13 Z Z)) ?_
 refine U.p Z Z (.inl Z) (S.move Z (L 3 Z Z)) ?_
 refine U.p Z Z (.inl Z) (S.move Z (L 30 Z Z)) ?_
 refine U.p Z Z (.inl Z) (S.move Z (L 32 Z Z)) ?_
 have ow26 := ow25.pick 1 Z
 have ow27 := ow26.pick 1 Z
 obtain ⟨x28, hx29, h30⟩ := bindS h20
 refine O.call (V := V22) Z Z (.inl Z) Z en66 (aC (L 4 Z Z) (aC (L 3 Z Z) (aC (L 2 Z Z) (aC (L 1 Z Z) (aC (L 0 Z Z) aN))))) (wk_s_order2 V22 _ p0 x8.1 x18.1 x18.2.2 v1 b3 z4 ow27 _ hx29) (fun _ _ _ _ => nd) (fun v31 V32 le33 hp34 => ?_)
 obtain ⟨rfl, ow35⟩ := hp34
 refine U.p Z Z (.inl Z) (S.move Z (L 0 Z Z)) ?_
 refine U.p Z Z (.inl Z) (S.extract Z (L 0 Z Z) Z (nr Z)) ?_
 refine U.p Z Z (.inl Z) (S.extract Z (L 1 Z Z) Z (nr Z)) ?_
 refine U.p Z Z (.inl Z) (S.assign Z (L 1 Z Z)) ?_
 refine U.p Z Z (.inl Z) (S.assign Z (L 1 Z Z)) ?_
 refine U.done (nr Z) ?_
 refine WP.usreg Z ?_
 refine U.p Z Z (.inl Z) (S.move Z (L 0 Z Z)) ?_
 refine U.p Z Z (.inl Z) (S.assign Z (L 0 Z Z)) ?_
 refine U.done (nr Z) ?_
 refine WP.ret ?_
 refine fin.slot (.inr Z) Z (L 0 Z Z) ⟨V32, Z, ((le13.trans le23).trans le33), ?_⟩
 have e36 := Option.some.inj h30
 subst e36
 exact ⟨rfl, ow35⟩
theorem wk_s_medianAdjacent (V : Vw) (Rs : List At) (p0 : List Tflow_Span) (p1 : Int) (p2 : Int) (v1 : Value) (b3 : Nat) (z4 : Nat) (ow : Ow V (.os RT_Tflow_Span v1 p0 :: .pt b3 (.cells z4 [.int .i64 p2]) :: Rs)) (r : Int × Int) (h : s_medianAdjacent p0 p1 p2 = some r) : ∃ v V', Cl Try.prog 0 64 #[v1, .int .i64 p1, .pointer (some ⟨b3, 0, none⟩), .func (.func 31) #[] #[]] V.H v V'.H ∧ V.le V' ∧ (v = .int .i64 r.1 ∧ Ow V' (.os RT_Tflow_Span v1 p0 :: .pt b3 (.cells z4 [.int .i64 r.2]) :: Rs)) := by
 refine Ct.of (Nat.zero_le _) Try.func64 Z (nr Z) ?_
 unfold s_medianAdjacent at h
 refine WP.usreg Z ?_
 refine U.p Z Z (.inl Z) (S.assign Z K) ?_
 refine U.done (nr Z) ?_
 refine WP.usreg Z ?_
 refine U.p Z Z (.inl Z) (S.move Z (L 1 Z Z)) ?_
 refine U.p Z Z (.inl Z) (S.move Z (L 3 Z Z)) ?_
 refine U.p Z Z (.inl Z) (S.sub Z (L 0 Z Z) K) ?_
 refine U.p Z Z (.inl Z) (S.move Z (L 5 Z Z)) ?_
 refine U.p Z Z (.inl Z) (S.move Z (L 6 Z Z)) ?_
 refine U.p Z Z (.inl Z) (S.add Z (L 0 Z Z) K) ?_
 refine U.p Z Z (.inl Z) (S.move Z (L 9 Z Z)) ?_
 refine U.p Z Z (.inl Z) (S.move Z (L 11 Z Z)) ?_
 have ow6 := ow.pick 1 Z
 have ow7 := ow6.pick 1 Z
 obtain ⟨x8, hx9, h10⟩ := bindS h
 refine O.call (V := V) Z Z (.inl Z) Z en65 (aC (L 7 Z Z) (aC (L 5 Z Z) (aC (L 4 Z Z) (aC (L 2 Z Z) (aC (L 1 Z Z) (aC (L 0 Z Z) aN)))))) (wk_s_median V _ p0 (w64 (p1 - 1)) p1 (w64 (p1 + 1)) p2 v1 b3 z4 ow7 _ hx9) (fun _ _ _ _ => nd) (fun v11 V12 le13 hp14 => ?_)
 obtain ⟨rfl, ow15⟩ := hp14
 refine U.p Z Z (.inl Z) (S.assign Z (L 0 Z Z)) ?_
 refine U.done (nr Z) ?_
 refine WP.ret ?_
 refine fin.slot (.inr Z) Z (L 0 Z Z) ⟨V12, Z, le13, ?_⟩
 have e16 := Option.some.inj h10
 subst e16
 exact ⟨rfl, ow15⟩
theorem wk_s_choosePivot (V : Vw) (Rs : List At) (p0 : List Tflow_Span) (p1 : Int) (p2 : Int) (v1 : Value) (ow : Ow V (.os RT_Tflow_Span v1 p0 :: Rs)) (r : Int × Int) (h : s_choosePivot p0 p1 p2 = some r) : ∃ v V', Cl Try.prog 0 52 #[v1, .int .i64 p1, .int .i64 p2, .func (.func 31) #[] #[]] V.H v V'.H ∧ V.le V' ∧ (v = .tuple #[.int .i64 r.1, .int .i64 r.2] ∧ Ow V' (.os RT_Tflow_Span v1 p0 :: Rs)) := by
 refine Ct.of (Nat.zero_le _) Try.func52 Z (nr Z) ?_
 unfold s_choosePivot at h
 refine WP.usreg Z ?_
 refine U.p Z Z (.inl Z) (S.assign Z K) ?_
 refine U.p Z Z (.inl Z) (S.assign Z K) ?_
 refine U.done (nr Z) ?_
 refine WP.usreg Z ?_
 refine U.p Z Z (.inl Z) (S.move Z (L 4 Z Z)) ?_
 refine U.p Z Z (.inl Z) (S.move Z (L 4 Z Z)) ?_
 refine U.p Z Z (.inl Z) (S.sub Z (L 1 Z Z) (L 0 Z Z)) ?_
 refine U.p Z Z (.inl Z) (S.assign Z (L 0 Z Z)) ?_
 refine U.done (nr Z) ?_
 refine WP.usreg Z ?_
 refine O.alloc ow Z Z (.inl Z) Z ti3 Z Z nd (fun b3 V4 le5 ow6 => ?_)
 refine U.done (nr Z) ?_
 refine WP.usreg Z ?_
 refine U.p Z Z (.inl Z) (S.move Z (L 8 Z Z)) ?_
 refine U.p Z Z (.inl Z) (S.move Z (L 2 Z Z)) ?_
 obtain ⟨x8, hx9, h10⟩ := bindS h
 refine U.p Z Z (.inl Z) (S.quo hx9 Z (L 0 Z Z) K) ?_
 refine U.p Z Z (.inl Z) (S.mul Z (L 0 Z Z) K) ?_
 refine U.p Z Z (.inl Z) (S.add Z (L 3 Z Z) (L 0 Z Z)) ?_
 refine U.p Z Z (.inl Z) (S.assign Z (L 0 Z Z)) ?_
 refine U.done (nr Z) ?_
 refine WP.usreg Z ?_
 refine U.p Z Z (.inl Z) (S.move Z (L 14 Z Z)) ?_
 refine U.p Z Z (.inl Z) (S.move Z (L 8 Z Z)) ?_
 obtain ⟨x11, hx12, h13⟩ := bindS h10
 refine U.p Z Z (.inl Z) (S.quo hx12 Z (L 0 Z Z) K) ?_
 refine U.p Z Z (.inl Z) (S.mul Z (L 0 Z Z) K) ?_
 refine U.p Z Z (.inl Z) (S.add Z (L 3 Z Z) (L 0 Z Z)) ?_
 refine U.p Z Z (.inl Z) (S.assign Z (L 0 Z Z)) ?_
 refine U.done (nr Z) ?_
 refine WP.usreg Z ?_
 refine U.p Z Z (.inl Z) (S.move Z (L 20 Z Z)) ?_
 refine U.p Z Z (.inl Z) (S.move Z (L 14 Z Z)) ?_
 obtain ⟨x14, hx15, h16⟩ := bindS h13
 refine U.p Z Z (.inl Z) (S.quo hx15 Z (L 0 Z Z) K) ?_
 refine U.p Z Z (.inl Z) (S.mul Z (L 0 Z Z) K) ?_
 refine U.p Z Z (.inl Z) (S.add Z (L 3 Z Z) (L 0 Z Z)) ?_
 refine U.p Z Z (.inl Z) (S.assign Z (L 0 Z Z)) ?_
 refine U.done (nr Z) ?_
 refine WP.seqI (fun l V' => ∃ (x17 : Int) (x18 : Int), l = [(11, .pointer (some ⟨b3, 0, none⟩)), (13, .int .i64 x18)] ∧ V4.le V' ∧ Ow V' (.os RT_Tflow_Span v1 p0 :: .pt b3 (.cells 1 [.int .i64 x17]) :: Rs) ∧ s_choosePivot_k1 x17 x18 = some r) ?_ ?_
 ·rintro _ V19 ⟨x17, x18, rfl, le20, ow21, h22⟩
  unfold s_choosePivot_k1 at h22
  refine WP.usreg Z ?_
  refine U.k Z Z (.inl Z) (S.load Z (L 0 Z Z) Try.underlying3 Z ((ow21.own (k := 1) Z).cell Z)) nd ?_
  refine U.done (nr Z) ?_
  refine WP.blk ?_
  refine WP.usreg Z ?_
  refine U.p Z Z (.inl Z) (S.eqlI Z (L 0 Z Z) K) ?_
  refine U.p Z Z (.inl Z) (S.assign Z (L 0 Z Z)) ?_
  refine U.done (nr Z) ?_
  refine WP.cond _ (L 0 Z Z) Z (fun c23 => ?_) (fun c23 => ?_)
  ·have h24 := ifT c23 h22
   refine WP.usreg Z ?_
   refine U.p Z Z (.inl Z) (S.move Z (L 4 Z Z)) ?_
   refine U.p Z Z (.inl Z) (S.assign Z (L 0 Z Z)) ?_
   refine U.p Z Z (.inl Z) (S.assign Z K) ?_
   refine U.done (nr Z) ?_
   refine WP.ret ?_
   refine blkR ?_
   refine fin.slots' (.inr Z) (fsC (L 1 Z Z) (fsC (L 0 Z Z) fsN)) Z ⟨V19, Z, (le5.trans le20), ?_⟩
   have ow25 := ow21.drop 1 Z
   have e26 := Option.some.inj h24
   subst e26
   exact ⟨rfl, ow25⟩
  ·have h27 := ifF c23 h22
   refine WP.usreg Z ?_
   refine U.p Z Z (.inl Z) (S.eqlI Z (L 2 Z Z) K) ?_
   refine U.p Z Z (.inl Z) (S.assign Z (L 0 Z Z)) ?_
   refine U.done (nr Z) ?_
   refine WP.cond _ (L 0 Z Z) Z (fun c28 => ?_) (fun c28 => ?_)
   ·have h29 := ifT c28 h27
    refine WP.usreg Z ?_
    refine U.p Z Z (.inl Z) (S.move Z (L 6 Z Z)) ?_
    refine U.p Z Z (.inl Z) (S.assign Z (L 0 Z Z)) ?_
    refine U.p Z Z (.inl Z) (S.assign Z K) ?_
    refine U.done (nr Z) ?_
    refine WP.ret ?_
    refine blkR ?_
    refine fin.slots' (.inr Z) (fsC (L 1 Z Z) (fsC (L 0 Z Z) fsN)) Z ⟨V19, Z, (le5.trans le20), ?_⟩
    have ow30 := ow21.drop 1 Z
    have e31 := Option.some.inj h29
    subst e31
    exact ⟨rfl, ow30⟩
   ·have h32 := ifF c28 h27
    refine WP.usreg Z ?_
    refine U.p Z Z (.inl Z) (S.move Z (L 6 Z Z)) ?_
    refine U.p Z Z (.inl Z) (S.assign Z (L 0 Z Z)) ?_
    refine U.p Z Z (.inl Z) (S.assign Z K) ?_
    refine U.done (nr Z) ?_
    refine WP.ret ?_
    refine blkR ?_
    refine fin.slots' (.inr Z) (fsC (L 1 Z Z) (fsC (L 0 Z Z) fsN)) Z ⟨V19, Z, (le5.trans le20), ?_⟩
    have ow33 := ow21.drop 1 Z
    have e34 := Option.some.inj h32
    subst e34
    exact ⟨rfl, ow33⟩
 ·skip
  refine WP.usreg Z ?_
  refine U.p Z Z (.inl Z) (S.move Z (L 19 Z Z)) ?_
  refine U.p Z Z (.inl Z) (S.geq Z (L 0 Z Z) K) ?_
  refine U.done (nr Z) ?_
  refine WP.cond _ (L 0 Z Z) Z (fun c35 => ?_) (fun c35 => ?_)
  ·have h36 := ifT c35 h16
   refine WP.seqI (fun l V' => ∃ (x37 : Int) (x38 : Int) (x39 : Int) (x40 : Int), l = [(0, v1), (3, .func (.func 31) #[] #[]), (11, .pointer (some ⟨b3, 0, none⟩)), (12, .int .i64 x38), (13, .int .i64 x39), (14, .int .i64 x40)] ∧ V4.le V' ∧ Ow V' (.os RT_Tflow_Span v1 p0 :: .pt b3 (.cells 1 [.int .i64 x37]) :: Rs) ∧ s_choosePivot_k2 p0 x37 x38 x39 x40 = some r) ?_ ?_
   ·rintro _ V41 ⟨x37, x38, x39, x40, rfl, le42, ow43, h44⟩
    unfold s_choosePivot_k2 at h44
    refine WP.ureg Z ?_
    refine U.p Z Z (.inl Z) (S.move Z (L 0 Z Z)) ?_
    refine U.p Z Z (.inl Z) (S.move Z (L 4 Z Z)) ?_
    refine U.p Z Z (.inl Z) (S.move Z (L 6 Z Z)) ?_
    refine U.p Z Z (.inl Z) (S.move Z (L 8 Z Z)) ?_
    refine U.p Z Z (.inl Z) (S.move Z (L 5 Z Z)) ?_
    have ow45 := ow43.pick 1 Z
    have ow46 := ow45.pick 1 Z
    obtain ⟨x47, hx48, h49⟩ := bindS h44
    refine O.call (V := V41) Z Z (.inl Z) Z en65 (aC (L 4 Z Z) (aC (L 3 Z Z) (aC (L 2 Z Z) (aC (L 1 Z Z) (aC (L 7 Z Z) (aC (L 0 Z Z) aN)))))) (wk_s_median V41 _ p0 x38 x39 x40 x37 v1 b3 1 ow46 _ hx48) (fun _ _ _ _ => nd) (fun v50 V51 le52 hp53 => ?_)
    obtain ⟨rfl, ow54⟩ := hp53
    refine U.p Z Z (.inl Z) (S.assign Z (L 0 Z Z)) ?_
    refine U.done (nr Z) ?_
    refine sqN ?_
    exact ⟨_, V51, Z, ⟨x47.2, x47.1, Z, (le42.trans le52), ow54, h49⟩, (allCons (L 9 Z Z) (allCons (L 0 Z Z) allNil))⟩
   ·skip
    refine WP.usreg Z ?_
    refine U.p Z Z (.inl Z) (S.move Z (L 21 Z Z)) ?_
    refine U.p Z Z (.inl Z) (S.geq Z (L 0 Z Z) K) ?_
    refine U.done (nr Z) ?_
    refine WP.cond _ (L 0 Z Z) Z (fun c55 => ?_) (fun c55 => ?_)
    ·have h56 := ifT c55 h36
     refine WP.usreg Z ?_
     refine U.p Z Z (.inl Z) (S.move Z (L 29 Z Z)) ?_
     refine U.p Z Z (.inl Z) (S.move Z (L 17 Z Z)) ?_
     refine U.p Z Z (.inl Z) (S.move Z (L 34 Z Z)) ?_
     have ow57 := ow6.pick 1 Z
     obtain ⟨x58, hx59, h60⟩ := bindS h56
     refine O.call (V := V4) Z Z (.inl Z) Z en64 (aC (L 2 Z Z) (aC (L 1 Z Z) (aC (L 25 Z Z) (aC (L 0 Z Z) aN)))) (wk_s_medianAdjacent V4 _ p0 (w64 (p1 + (w64 (x8 * 1)))) 0 v1 b3 1 ow57 _ hx59) (fun _ _ _ _ => nd) (fun v61 V62 le63 hp64 => ?_)
     obtain ⟨rfl, ow65⟩ := hp64
     refine U.p Z Z (.inl Z) (S.assign Z (L 0 Z Z)) ?_
     refine U.done (nr Z) ?_
     refine WP.usreg Z ?_
     refine U.p Z Z (.inl Z) (S.move Z (L 34 Z Z)) ?_
     refine U.p Z Z (.inl Z) (S.move Z (L 16 Z Z)) ?_
     refine U.p Z Z (.inl Z) (S.move Z (L 39 Z Z)) ?_
     have ow66 := ow65.pick 1 Z
     have ow67 := ow66.pick 1 Z
     obtain ⟨x68, hx69, h70⟩ := bindS h60
     refine O.call (V := V62) Z Z (.inl Z) Z en64 (aC (L 2 Z Z) (aC (L 1 Z Z) (aC (L 30 Z Z) (aC (L 0 Z Z) aN)))) (wk_s_medianAdjacent V62 _ p0 (w64 (p1 + (w64 (x11 * 2)))) x58.2 v1 b3 1 ow67 _ hx69) (fun _ _ _ _ => nd) (fun v71 V72 le73 hp74 => ?_)
     obtain ⟨rfl, ow75⟩ := hp74
     refine U.p Z Z (.inl Z) (S.assign Z (L 0 Z Z)) ?_
     refine U.done (nr Z) ?_
     refine WP.ureg Z ?_
     refine U.p Z Z (.inl Z) (S.move Z (L 39 Z Z)) ?_
     refine U.p Z Z (.inl Z) (S.move Z (L 15 Z Z)) ?_
     refine U.p Z Z (.inl Z) (S.move Z (L 44 Z Z)) ?_
     have ow76 := ow75.pick 1 Z
     have ow77 := ow76.pick 1 Z
     obtain ⟨x78, hx79, h80⟩ := bindS h70
     refine O.call (V := V72) Z Z (.inl Z) Z en64 (aC (L 2 Z Z) (aC (L 1 Z Z) (aC (L 35 Z Z) (aC (L 0 Z Z) aN)))) (wk_s_medianAdjacent V72 _ p0 (w64 (p1 + (w64 (x14 * 3)))) x68.2 v1 b3 1 ow77 _ hx79) (fun _ _ _ _ => nd) (fun v81 V82 le83 hp84 => ?_)
     obtain ⟨rfl, ow85⟩ := hp84
     refine U.p Z Z (.inl Z) (S.assign Z (L 0 Z Z)) ?_
     refine U.done (nr Z) ?_
     refine sqN ?_
     exact ⟨_, V82, Z, ⟨x78.2, x58.1, x68.1, x78.1, Z, ((le63.trans le73).trans le83), ow85, h80⟩, (allCons (L 44 Z Z) (allCons (L 47 Z Z) (allCons (L 37 Z Z) (allCons (L 10 Z Z) (allCons (L 5 Z Z) (allCons (L 0 Z Z) allNil))))))⟩
    ·have h86 := ifF c55 h36
     refine WP.skip ?_
     refine sqN ?_
     have ow87 := ow6.pick 0 Z
     have ow88 := ow87.pick 1 Z
     exact ⟨_, V4, Z, ⟨0, w64 (p1 + (w64 (x8 * 1))), w64 (p1 + (w64 (x11 * 2))), w64 (p1 + (w64 (x14 * 3))), Z, (.refl _), ow88, h86⟩, (allCons (L 29 Z Z) (allCons (L 32 Z Z) (allCons (L 22 Z Z) (allCons (L 16 Z Z) (allCons (L 10 Z Z) (allCons (L 4 Z Z) allNil))))))⟩
  ·have h89 := ifF c35 h16
   refine WP.skip ?_
   refine sqN ?_
   have ow90 := ow6.pick 0 Z
   have ow91 := ow90.pick 1 Z
   exact ⟨_, V4, Z, ⟨0, w64 (p1 + (w64 (x11 * 2))), Z, (.refl _), ow91, h89⟩, (allCons (L 20 Z Z) (allCons (L 8 Z Z) allNil))⟩
theorem wk_s_reverseRange (V : Vw) (Rs : List At) (p0 : List Tflow_Span) (p1 : Int) (p2 : Int) (v1 : Value) (ow : Ow V (.os RT_Tflow_Span v1 p0 :: Rs)) (r : List Tflow_Span) (h : s_reverseRange p0 p1 p2 = some r) : ∃ v V', Cl Try.prog 0 53 #[v1, .int .i64 p1, .int .i64 p2, .func (.func 31) #[] #[]] V.H v V'.H ∧ V.le V' ∧ (Ow V' (.os RT_Tflow_Span v1 r :: Rs)) := by
 refine Ct.of (Nat.zero_le _) Try.func53 Z (nr Z) ?_
 unfold s_reverseRange at h
 refine WP.usreg Z ?_
 refine U.p Z Z (.inl Z) (S.move Z (L 1 Z Z)) ?_
 refine U.p Z Z (.inl Z) (S.assign Z (L 0 Z Z)) ?_
 refine U.done (nr Z) ?_
 refine WP.usreg Z ?_
 refine U.p Z Z (.inl Z) (S.move Z (L 4 Z Z)) ?_
 refine U.p Z Z (.inl Z) (S.sub Z (L 0 Z Z) K) ?_
 refine U.p Z Z (.inl Z) (S.assign Z (L 0 Z Z)) ?_
 refine U.done (nr Z) ?_
 refine WP.blk ?_
 unfold s_reverseRange_l1 at h
 obtain ⟨n7, hn6⟩ := loopO_some.1 h
 refine WP.loopI2 (fun n l V' => ∃ (xs3 : List Tflow_Span) (x4 : Int) (x5 : Int), l = [(0, v1), (8, .int .i64 x4), (9, .int .i64 x5)] ∧ V.le V' ∧ Ow V' (.os RT_Tflow_Span v1 xs3 :: Rs) ∧ itO (fun s => s_reverseRange_l1b s.1 s.2.1 s.2.2) n (xs3, x4, x5) = some r) n7 _ ⟨p0, p1, w64 (p2 - 1), Z, .refl _, ow, hn6⟩ (allCons (L 5 Z Z) (allCons (L 3 Z Z) (allCons (L 0 Z Z) allNil))) ?_
 rintro _ _ V8 ⟨xs3, x4, x5, rfl, le9, ow10, h14⟩
 obtain ⟨m11, q12, rfl, h15, e13⟩ := itS h14
 replace h15 : s_reverseRange_l1b xs3 x4 x5 = some q12 := h15
 unfold s_reverseRange_l1b at h15
 refine WP.seq ?_
 refine WP.usreg Z ?_
 refine U.p Z Z (.inl Z) (S.move Z (L 1 Z Z)) ?_
 refine U.p Z Z (.inl Z) (S.move Z (L 3 Z Z)) ?_
 refine U.p Z Z (.inl Z) (S.lss Z (L 1 Z Z) (L 0 Z Z)) ?_
 refine U.done (nr Z) ?_
 refine WP.cond _ (L 0 Z Z) Z (fun c16 => ?_) (fun c16 => ?_)
 ·have h17 := ifT c16 h15
  refine WP.skip ?_
  refine sqN ?_
  refine WP.blk ?_
  refine WP.usdreg Z Z Z ?_
  refine U.p Z Z (.inl Z) (S.move Z (L 3 Z Z)) ?_
  refine U.p Z Z (.inl Z) (S.move Z (L 5 Z Z)) ?_
  refine U.p Z Z (.inl Z) (S.move Z (L 5 Z Z)) ?_
  refine U.p Z Z (.inl Z) (S.move Z (L 8 Z Z)) ?_
  refine U.p Z Z (.inl Z) (S.move Z (L 7 Z Z)) ?_
  refine U.p Z Z (.inl Z) (S.move Z (L 10 Z Z)) ?_
  obtain ⟨x18, hx19, h20⟩ := bindS h17
  obtain ⟨b21, o22, n23, c24, hv25⟩ := ow10.ospt (k := 0) Z hx19
  obtain ⟨_, hv26, _⟩ := ow10.osel (k := 0) Z hv25 hx19
  refine U.p Z Z (.inl Z) (S.index Z ((L 1 Z Z).trans hv26) (L 0 Z Z) Try.underlying44 ti49 (ix_ge hx19) (ix_lt hx19)) ?_
  obtain ⟨cs27, hv28, hlt29, hr30, hc31⟩ := ow10.osel (k := 0) Z hv25 hx19
  obtain rfl : cs27 = [.int .i64 x18.reg, .int .i64 x18.from_, .int .i64 x18.to_] := hr30
  refine U.k Z Z (.inl Z) (S.loadN (cs := [.int .i64 x18.reg, .int .i64 x18.from_, .int .i64 x18.to_]) Z (L 0 Z Z) Try.underlying49 Z ti49 Z hc31) (fun _ => (okH.nil (fun r h => by cases h; exact hlt29))) ?_
  refine U.p Z Z (.inl Z) (S.move Z (L 11 Z Z)) ?_
  refine U.p Z Z (.inl Z) (S.move Z (L 13 Z Z)) ?_
  obtain ⟨x32, hx33, h34⟩ := bindS h20
  obtain ⟨_, hv35, _⟩ := ow10.osel (k := 0) Z hv25 hx33
  refine U.p Z Z (.inl Z) (S.index Z ((L 1 Z Z).trans hv35) (L 0 Z Z) Try.underlying44 ti49 (ix_ge hx33) (ix_lt hx33)) ?_
  obtain ⟨cs36, hv37, hlt38, hr39, hc40⟩ := ow10.osel (k := 0) Z hv25 hx33
  obtain rfl : cs36 = [.int .i64 x32.reg, .int .i64 x32.from_, .int .i64 x32.to_] := hr39
  refine U.k Z Z (.inl Z) (S.loadN (cs := [.int .i64 x32.reg, .int .i64 x32.from_, .int .i64 x32.to_]) Z (L 0 Z Z) Try.underlying49 Z ti49 Z hc40) (fun _ => (okH.cons trivial (okH.nil (fun r h => by cases h; exact hlt38)))) ?_
  obtain ⟨x41, hx42, h43⟩ := bindS h34
  obtain ⟨_, hv44, _⟩ := ow10.osel (k := 0) Z hv25 hx42
  refine U.p Z Z (.inl Z) (S.index Z ((L 11 Z Z).trans hv44) (L 10 Z Z) Try.underlying44 ti49 (ix_ge hx42) (ix_lt hx42)) ?_
  obtain ⟨cs45, hv46, hlt47, hr48, hc49⟩ := ow10.osel (k := 0) Z hv25 hx42
  obtain rfl : cs45 = [.int .i64 x41.reg, .int .i64 x41.from_, .int .i64 x41.to_] := hr48
  refine O.storeE (k := 0) (R := RT_Tflow_Span) (j := 0) (y := x18) (cs := [.int .i64 x18.reg, .int .i64 x18.from_, .int .i64 x18.to_]) ow10 Z hv46 Z Z (.inl Z) Z (L 0 Z Z) (L 5 Z Z) ti49 hx42 (by simp [topV]) Z Z Z (full Z) (fun H1 hs => (fun _ => (okH.cons (Or.inl Z) (okH.cons (Or.inl Z) (okH.nil (fun r h => nomatch h)))))) (fun V50 le51 ow52 => ?_)
  obtain ⟨x53, hx54, h55⟩ := bindS h43
  obtain ⟨_, hv56, _⟩ := ow52.osel (k := 0) Z hv25 hx54
  refine U.p Z Z (.inl Z) (S.index Z ((L 10 Z Z).trans hv56) (L 9 Z Z) Try.underlying44 ti49 (ix_ge hx54) (ix_lt hx54)) ?_
  obtain ⟨cs57, hv58, hlt59, hr60, hc61⟩ := ow52.osel (k := 0) Z hv25 hx54
  obtain rfl : cs57 = [.int .i64 x53.reg, .int .i64 x53.from_, .int .i64 x53.to_] := hr60
  refine O.storeE (k := 0) (R := RT_Tflow_Span) (j := 0) (y := x32) (cs := [.int .i64 x32.reg, .int .i64 x32.from_, .int .i64 x32.to_]) ow52 Z hv58 Z Z (.inl Z) Z (L 0 Z Z) (L 2 Z Z) ti49 hx54 (by simp [topV]) Z Z Z (full Z) (fun H1 hs => (fun _ => (okH.cons Z (okH.cons (Or.inl Z) (okH.cons (Or.inl Z) (okH.nil (fun r h => nomatch h))))))) (fun V62 le63 ow64 => ?_)
  refine U.done (nr Z) ?_
  refine WP.usreg Z ?_
  refine U.p Z Z (.inl Z) (S.move Z (L 18 Z Z)) ?_
  refine U.p Z Z (.inl Z) (S.add Z (L 0 Z Z) K) ?_
  refine U.p Z Z (.inl Z) (S.assign Z (L 0 Z Z)) ?_
  refine U.done (nr Z) ?_
  refine WP.ureg Z ?_
  refine U.p Z Z (.inl Z) (S.move Z (L 22 Z Z)) ?_
  refine U.p Z Z (.inl Z) (S.sub Z (L 0 Z Z) K) ?_
  refine U.p Z Z (.inl Z) (S.assign Z (L 0 Z Z)) ?_
  refine U.done (nr Z) ?_
  refine blkN (sqN ?_)
  exact ⟨_, V62, Z, ⟨m11, Nat.lt_succ_self _, (xs3.set (Int.toNat x4) x18).set (Int.toNat x5) x32, w64 (x4 + 1), w64 (x5 - 1), Z, ((le9.trans le51).trans le63), ow64, backS h55 e13⟩, (allCons (L 23 Z Z) (allCons (L 3 Z Z) (allCons (L 0 Z Z) allNil)))⟩
 ·have h65 := ifF c16 h15
  refine WP.exit ?_
  refine sqE (sqE (blkE ?_))
  have h66 := exitS h65 e13
  refine fin.slots' (.inl Z) fsN Z ⟨V8, Z, le9, ?_⟩
  have e67 := Option.some.inj h66
  subst e67
  exact ow10
theorem wk_s_partialInsertionSort (V : Vw) (Rs : List At) (p0 : List Tflow_Span) (p1 : Int) (p2 : Int) (v1 : Value) (ow : Ow V (.os RT_Tflow_Span v1 p0 :: Rs)) (r : Bool × (List Tflow_Span)) (h : s_partialInsertionSort p0 p1 p2 = some r) : ∃ v V', Cl Try.prog 0 54 #[v1, .int .i64 p1, .int .i64 p2, .func (.func 31) #[] #[]] V.H v V'.H ∧ V.le V' ∧ (v = .bool r.1 ∧ Ow V' (.os RT_Tflow_Span v1 r.2 :: Rs)) := by
 refine Ct.of (Nat.zero_le _) Try.func54 Z (nr Z) ?_
 unfold s_partialInsertionSort at h
 refine WP.usreg Z ?_
 refine U.p Z Z (.inl Z) (S.assign Z K) ?_
 refine U.done (nr Z) ?_
 refine WP.usreg Z ?_
 refine U.p Z Z (.inl Z) (S.move Z (L 2 Z Z)) ?_
 refine U.p Z Z (.inl Z) (S.add Z (L 0 Z Z) K) ?_
 refine U.p Z Z (.inl Z) (S.assign Z (L 0 Z Z)) ?_
 refine U.done (nr Z) ?_
 refine WP.seq ?_
 refine WP.usreg Z ?_
 refine U.p Z Z (.inl Z) (S.assign Z K) ?_
 refine U.done (nr Z) ?_
 refine WP.blk ?_
 unfold s_partialInsertionSort_l1 at h
 obtain ⟨n7, hn6⟩ := loopO_some.1 h
 refine WP.loopI2 (fun n l V' => ∃ (xs3 : List Tflow_Span) (x4 : Int) (x5 : Int), l = [(0, v1), (1, .int .i64 p1), (2, .int .i64 p2), (3, .func (.func 31) #[] #[]), (9, .int .i64 x4), (10, .int .i64 x5)] ∧ V.le V' ∧ Ow V' (.os RT_Tflow_Span v1 xs3 :: Rs) ∧ itO (fun s => s_partialInsertionSort_l1b p1 p2 s.1 s.2.1 s.2.2) n (xs3, x4, x5) = some r) n7 _ ⟨p0, w64 (p1 + 1), 0, Z, .refl _, ow, hn6⟩ (allCons (L 5 Z Z) (allCons (L 6 Z Z) (allCons (L 7 Z Z) (allCons (L 8 Z Z) (allCons (L 1 Z Z) (allCons (L 0 Z Z) allNil)))))) ?_
 rintro _ _ V8 ⟨xs3, x4, x5, rfl, le9, ow10, h14⟩
 obtain ⟨m11, q12, rfl, h15, e13⟩ := itS h14
 replace h15 : s_partialInsertionSort_l1b p1 p2 xs3 x4 x5 = some q12 := h15
 unfold s_partialInsertionSort_l1b at h15
 refine WP.seq ?_
 refine WP.usreg Z ?_
 refine U.p Z Z (.inl Z) (S.move Z (L 5 Z Z)) ?_
 refine U.p Z Z (.inl Z) (S.lss Z (L 0 Z Z) K) ?_
 refine U.done (nr Z) ?_
 refine WP.cond _ (L 0 Z Z) Z (fun c16 => ?_) (fun c16 => ?_)
 ·have h17 := ifT c16 h15
  refine WP.skip ?_
  refine sqN ?_
  refine WP.seqI (fun l V' => ∃ (xs18 : List Tflow_Span) (x19 : Int), l = [(0, v1), (1, .int .i64 p1), (2, .int .i64 p2), (3, .func (.func 31) #[] #[]), (9, .int .i64 x19), (10, .int .i64 x5)] ∧ V8.le V' ∧ Ow V' (.os RT_Tflow_Span v1 xs18 :: Rs) ∧ s_partialInsertionSort_k1 x5 xs18 x19 = some q12) ?_ ?_
  ·rintro _ V20 ⟨xs18, x19, rfl, le21, ow22, h23⟩
   unfold s_partialInsertionSort_k1 at h23
   refine WP.ureg Z ?_
   refine U.p Z Z (.inl Z) (S.move Z (L 5 Z Z)) ?_
   refine U.p Z Z (.inl Z) (S.add Z (L 0 Z Z) K) ?_
   refine U.p Z Z (.inl Z) (S.assign Z (L 0 Z Z)) ?_
   refine U.done (nr Z) ?_
   refine sqN ?_
   exact ⟨_, V20, Z, ⟨m11, Nat.lt_succ_self _, xs18, x19, w64 (x5 + 1), Z, (le9.trans le21), ow22, backS h23 e13⟩, (allCons (L 3 Z Z) (allCons (L 4 Z Z) (allCons (L 5 Z Z) (allCons (L 6 Z Z) (allCons (L 7 Z Z) (allCons (L 0 Z Z) allNil))))))⟩
  ·skip
   refine WP.blk ?_
   refine WP.seq ?_
   refine WP.blk ?_
   unfold s_partialInsertionSort_l2 at h17
   obtain ⟨n26, hn25⟩ := loopO_some.1 h17
   refine WP.loopI2 (fun n l V' => ∃ (x24 : Int), l = [(0, v1), (1, .int .i64 p1), (2, .int .i64 p2), (3, .func (.func 31) #[] #[]), (9, .int .i64 x24), (10, .int .i64 x5)] ∧ V8.le V' ∧ Ow V' (.os RT_Tflow_Span v1 xs3 :: Rs) ∧ itO (fun s => s_partialInsertionSort_l2b p1 p2 xs3 x5 s) n x24 = some q12) n26 _ ⟨x4, Z, .refl _, ow10, hn25⟩ (allCons (L 2 Z Z) (allCons (L 3 Z Z) (allCons (L 4 Z Z) (allCons (L 5 Z Z) (allCons (L 6 Z Z) (allCons (L 7 Z Z) allNil)))))) ?_
   rintro _ _ V27 ⟨x24, rfl, le28, ow29, h33⟩
   obtain ⟨m30, q31, rfl, h34, e32⟩ := itS h33
   replace h34 : s_partialInsertionSort_l2b p1 p2 xs3 x5 x24 = some q31 := h34
   unfold s_partialInsertionSort_l2b at h34
   refine WP.seq ?_
   refine WP.seqI (fun l V' => ∃ (x35 : Bool), l = [(0, v1), (1, .int .i64 p1), (2, .int .i64 p2), (3, .func (.func 31) #[] #[]), (9, .int .i64 x24), (10, .int .i64 x5), (36, .bool x35)] ∧ V27.le V' ∧ Ow V' (.os RT_Tflow_Span v1 xs3 :: Rs) ∧ s_partialInsertionSort_k2 p1 p2 xs3 x5 x24 x35 = some q31) ?_ ?_
   ·rintro _ V36 ⟨x35, rfl, le37, ow38, h39⟩
    unfold s_partialInsertionSort_k2 at h39
    refine WP.cond _ (L 6 Z Z) Z (fun c40 => ?_) (fun c40 => ?_)
    ·have h41 := ifT c40 h39
     refine WP.skip ?_
     refine sqN ?_
     refine WP.blk ?_
     refine WP.ureg Z ?_
     refine U.p Z Z (.inl Z) (S.move Z (L 4 Z Z)) ?_
     refine U.p Z Z (.inl Z) (S.add Z (L 0 Z Z) K) ?_
     refine U.p Z Z (.inl Z) (S.assign Z (L 0 Z Z)) ?_
     refine U.done (nr Z) ?_
     refine blkN (sqN ?_)
     exact ⟨_, V36, Z, ⟨m30, Nat.lt_succ_self _, w64 (x24 + 1), Z, (le28.trans le37), ow38, backS h41 e32⟩, (allCons (L 3 Z Z) (allCons (L 4 Z Z) (allCons (L 5 Z Z) (allCons (L 6 Z Z) (allCons (L 0 Z Z) (allCons (L 8 Z Z) allNil))))))⟩
    ·have h42 := ifF c40 h39
     refine WP.exit ?_
     refine sqE (sqE (blkE (sqN ?_)))
     have h43 := exitS h42 e32
     refine WP.seq ?_
     refine WP.usreg Z ?_
     refine U.p Z Z (.inl Z) (S.move Z (L 4 Z Z)) ?_
     refine U.p Z Z (.inl Z) (S.move Z (L 3 Z Z)) ?_
     refine U.p Z Z (.inl Z) (S.eqlI Z (L 1 Z Z) (L 0 Z Z)) ?_
     refine U.done (nr Z) ?_
     refine WP.cond _ (L 0 Z Z) Z (fun c44 => ?_) (fun c44 => ?_)
     ·have h45 := ifT c44 h43
      refine WP.usreg Z ?_
      refine U.p Z Z (.inl Z) (S.assign Z K) ?_
      refine U.done (nr Z) ?_
      refine WP.ret ?_
      refine sqR (blkR (sqR (sqR (blkR (sqR ?_)))))
      have h46 := exitS h45 e13
      refine fin.slot (.inr Z) Z (L 0 Z Z) ⟨V36, Z, ((le9.trans le28).trans le37), ?_⟩
      have e47 := Option.some.inj h46
      subst e47
      exact ⟨rfl, ow38⟩
     ·have h48 := ifF c44 h43
      refine WP.skip ?_
      refine sqN ?_
      refine WP.seq ?_
      refine WP.usreg Z ?_
      refine U.p Z Z (.inl Z) (S.move Z (L 5 Z Z)) ?_
      refine U.p Z Z (.inl Z) (S.move Z (L 5 Z Z)) ?_
      refine U.p Z Z (.inl Z) (S.sub Z (L 1 Z Z) (L 0 Z Z)) ?_
      refine U.p Z Z (.inl Z) (S.lss Z (L 0 Z Z) K) ?_
      refine U.done (nr Z) ?_
      refine WP.cond _ (L 0 Z Z) Z (fun c49 => ?_) (fun c49 => ?_)
      ·have h50 := ifT c49 h48
       refine WP.usreg Z ?_
       refine U.p Z Z (.inl Z) (S.assign Z K) ?_
       refine U.done (nr Z) ?_
       refine WP.ret ?_
       refine sqR (blkR (sqR (sqR (blkR (sqR ?_)))))
       have h51 := exitS h50 e13
       refine fin.slot (.inr Z) Z (L 0 Z Z) ⟨V36, Z, ((le9.trans le28).trans le37), ?_⟩
       have e52 := Option.some.inj h51
       subst e52
       exact ⟨rfl, ow38⟩
      ·have h53 := ifF c49 h48
       refine WP.skip ?_
       refine sqN ?_
       refine WP.usdreg Z Z Z ?_
       refine U.p Z Z (.inl Z) (S.move Z (L 7 Z Z)) ?_
       refine U.p Z Z (.inl Z) (S.move Z (L 12 Z Z)) ?_
       refine U.p Z Z (.inl Z) (S.move Z (L 9 Z Z)) ?_
       refine U.p Z Z (.inl Z) (S.move Z (L 14 Z Z)) ?_
       refine U.p Z Z (.inl Z) (S.sub Z (L 0 Z Z) K) ?_
       refine U.p Z Z (.inl Z) (S.move Z (L 12 Z Z)) ?_
       refine U.p Z Z (.inl Z) (S.move Z (L 17 Z Z)) ?_
       refine U.p Z Z (.inl Z) (S.sub Z (L 0 Z Z) K) ?_
       obtain ⟨x54, hx55, h56⟩ := bindS h53
       obtain ⟨b57, o58, n59, c60, hv61⟩ := ow38.ospt (k := 0) Z hx55
       obtain ⟨_, hv62, _⟩ := ow38.osel (k := 0) Z hv61 hx55
       refine U.p Z Z (.inl Z) (S.index Z ((L 2 Z Z).trans hv62) (L 0 Z Z) Try.underlying44 ti49 (ix_ge hx55) (ix_lt hx55)) ?_
       obtain ⟨cs63, hv64, hlt65, hr66, hc67⟩ := ow38.osel (k := 0) Z hv61 hx55
       obtain rfl : cs63 = [.int .i64 x54.reg, .int .i64 x54.from_, .int .i64 x54.to_] := hr66
       refine U.k Z Z (.inl Z) (S.loadN (cs := [.int .i64 x54.reg, .int .i64 x54.from_, .int .i64 x54.to_]) Z (L 0 Z Z) Try.underlying49 Z ti49 Z hc67) (fun _ => (okH.nil (fun r h => by cases h; exact hlt65))) ?_
       refine U.p Z Z (.inl Z) (S.move Z (L 17 Z Z)) ?_
       refine U.p Z Z (.inl Z) (S.move Z (L 22 Z Z)) ?_
       obtain ⟨x68, hx69, h70⟩ := bindS h56
       obtain ⟨_, hv71, _⟩ := ow38.osel (k := 0) Z hv61 hx69
       refine U.p Z Z (.inl Z) (S.index Z ((L 1 Z Z).trans hv71) (L 0 Z Z) Try.underlying44 ti49 (ix_ge hx69) (ix_lt hx69)) ?_
       obtain ⟨cs72, hv73, hlt74, hr75, hc76⟩ := ow38.osel (k := 0) Z hv61 hx69
       obtain rfl : cs72 = [.int .i64 x68.reg, .int .i64 x68.from_, .int .i64 x68.to_] := hr75
       refine U.k Z Z (.inl Z) (S.loadN (cs := [.int .i64 x68.reg, .int .i64 x68.from_, .int .i64 x68.to_]) Z (L 0 Z Z) Try.underlying49 Z ti49 Z hc76) (fun _ => (okH.cons trivial (okH.nil (fun r h => by cases h; exact hlt74)))) ?_
       obtain ⟨x77, hx78, h79⟩ := bindS h70
       obtain ⟨_, hv80, _⟩ := ow38.osel (k := 0) Z hv61 hx78
       refine U.p Z Z (.inl Z) (S.index Z ((L 13 Z Z).trans hv80) (L 12 Z Z) Try.underlying44 ti49 (ix_ge hx78) (ix_lt hx78)) ?_
       obtain ⟨cs81, hv82, hlt83, hr84, hc85⟩ := ow38.osel (k := 0) Z hv61 hx78
       obtain rfl : cs81 = [.int .i64 x77.reg, .int .i64 x77.from_, .int .i64 x77.to_] := hr84
       refine O.storeE (k := 0) (R := RT_Tflow_Span) (j := 0) (y := x54) (cs := [.int .i64 x54.reg, .int .i64 x54.from_, .int .i64 x54.to_]) ow38 Z hv82 Z Z (.inl Z) Z (L 0 Z Z) (L 5 Z Z) ti49 hx78 (by simp [topV]) Z Z Z (full Z) (fun H1 hs => (fun _ => (okH.cons (Or.inl Z) (okH.cons (Or.inl Z) (okH.nil (fun r h => nomatch h)))))) (fun V86 le87 ow88 => ?_)
       obtain ⟨x89, hx90, h91⟩ := bindS h79
       obtain ⟨_, hv92, _⟩ := ow88.osel (k := 0) Z hv61 hx90
       refine U.p Z Z (.inl Z) (S.index Z ((L 12 Z Z).trans hv92) (L 10 Z Z) Try.underlying44 ti49 (ix_ge hx90) (ix_lt hx90)) ?_
       obtain ⟨cs93, hv94, hlt95, hr96, hc97⟩ := ow88.osel (k := 0) Z hv61 hx90
       obtain rfl : cs93 = [.int .i64 x89.reg, .int .i64 x89.from_, .int .i64 x89.to_] := hr96
       refine O.storeE (k := 0) (R := RT_Tflow_Span) (j := 0) (y := x68) (cs := [.int .i64 x68.reg, .int .i64 x68.from_, .int .i64 x68.to_]) ow88 Z hv94 Z Z (.inl Z) Z (L 0 Z Z) (L 2 Z Z) ti49 hx90 (by simp [topV]) Z Z Z (full Z) (fun H1 hs => (fun _ => (okH.cons Z (okH.cons (Or.inl Z) (okH.cons (Or.inl Z) (okH.nil (fun r h => nomatch h))))))) (fun V98 le99 ow100 => ?_)
       refine U.done (nr Z) ?_
       refine WP.seqI (fun l V' => ∃ (xs101 : List Tflow_Span), l = [(0, v1), (1, .int .i64 p1), (2, .int .i64 p2), (3, .func (.func 31) #[] #[]), (9, .int .i64 x24), (10, .int .i64 x5)] ∧ V98.le V' ∧ Ow V' (.os RT_Tflow_Span v1 xs101 :: Rs) ∧ s_partialInsertionSort_k3 p2 x5 x24 xs101 = some q12) ?_ ?_
       ·rintro _ V102 ⟨xs101, rfl, le103, ow104, h105⟩
        unfold s_partialInsertionSort_k3 at h105
        refine WP.usreg Z ?_
        refine U.p Z Z (.inl Z) (S.move Z (L 2 Z Z)) ?_
        refine U.p Z Z (.inl Z) (S.move Z (L 5 Z Z)) ?_
        refine U.p Z Z (.inl Z) (S.sub Z (L 1 Z Z) (L 0 Z Z)) ?_
        refine U.p Z Z (.inl Z) (S.geq Z (L 0 Z Z) K) ?_
        refine U.done (nr Z) ?_
        refine WP.cond _ (L 0 Z Z) Z (fun c106 => ?_) (fun c106 => ?_)
        ·have h107 := ifT c106 h105
         refine WP.usreg Z ?_
         refine U.p Z Z (.inl Z) (S.move Z (L 8 Z Z)) ?_
         refine U.p Z Z (.inl Z) (S.add Z (L 0 Z Z) K) ?_
         refine U.p Z Z (.inl Z) (S.assign Z (L 0 Z Z)) ?_
         refine U.done (nr Z) ?_
         refine WP.blk ?_
         unfold s_partialInsertionSort_l3 at h107
         obtain ⟨n111, hn110⟩ := loopO_some.1 h107
         refine WP.loopI2 (fun n l V' => ∃ (xs108 : List Tflow_Span) (x109 : Int), l = [(0, v1), (1, .int .i64 p1), (2, .int .i64 p2), (3, .func (.func 31) #[] #[]), (9, .int .i64 x24), (10, .int .i64 x5), (12, .int .i64 x109)] ∧ V102.le V' ∧ Ow V' (.os RT_Tflow_Span v1 xs108 :: Rs) ∧ itO (fun s => s_partialInsertionSort_l3b p2 x5 x24 s.1 s.2) n (xs108, x109) = some q12) n111 _ ⟨xs101, w64 (x24 + 1), Z, .refl _, ow104, hn110⟩ (allCons (L 7 Z Z) (allCons (L 8 Z Z) (allCons (L 9 Z Z) (allCons (L 10 Z Z) (allCons (L 11 Z Z) (allCons (L 12 Z Z) (allCons (L 0 Z Z) allNil))))))) ?_
         rintro _ _ V112 ⟨xs108, x109, rfl, le113, ow114, h118⟩
         obtain ⟨m115, q116, rfl, h119, e117⟩ := itS h118
         replace h119 : s_partialInsertionSort_l3b p2 x5 x24 xs108 x109 = some q116 := h119
         unfold s_partialInsertionSort_l3b at h119
         refine WP.seq ?_
         refine WP.usreg Z ?_
         refine U.p Z Z (.inl Z) (S.move Z (L 6 Z Z)) ?_
         refine U.p Z Z (.inl Z) (S.move Z (L 3 Z Z)) ?_
         refine U.p Z Z (.inl Z) (S.lss Z (L 1 Z Z) (L 0 Z Z)) ?_
         refine U.done (nr Z) ?_
         refine WP.cond _ (L 0 Z Z) Z (fun c120 => ?_) (fun c120 => ?_)
         ·have h121 := ifT c120 h119
          refine WP.skip ?_
          refine sqN ?_
          refine WP.seq ?_
          refine WP.blk ?_
          refine WP.seq ?_
          refine WP.usdreg Z Z Z ?_
          refine U.p Z Z (.inl Z) (S.move Z (L 6 Z Z)) ?_
          refine U.p Z Z (.inl Z) (S.move Z (L 4 Z Z)) ?_
          refine U.p Z Z (.inl Z) (S.move Z (L 11 Z Z)) ?_
          obtain ⟨x122, hx123, h124⟩ := bindS h121
          obtain ⟨_, hv125, _⟩ := ow114.osel (k := 0) Z hv61 hx123
          refine U.p Z Z (.inl Z) (S.index Z ((L 1 Z Z).trans hv125) (L 0 Z Z) Try.underlying44 ti49 (ix_ge hx123) (ix_lt hx123)) ?_
          obtain ⟨cs126, hv127, hlt128, hr129, hc130⟩ := ow114.osel (k := 0) Z hv61 hx123
          obtain rfl : cs126 = [.int .i64 x122.reg, .int .i64 x122.from_, .int .i64 x122.to_] := hr129
          refine U.k Z Z (.inl Z) (S.loadN (cs := [.int .i64 x122.reg, .int .i64 x122.from_, .int .i64 x122.to_]) Z (L 0 Z Z) Try.underlying49 Z ti49 Z hc130) (fun _ => (okH.nil (fun r h => by cases h; exact hlt128))) ?_
          refine U.p Z Z (.inl Z) (S.move Z (L 8 Z Z)) ?_
          refine U.p Z Z (.inl Z) (S.move Z (L 15 Z Z)) ?_
          refine U.p Z Z (.inl Z) (S.sub Z (L 0 Z Z) K) ?_
          obtain ⟨x131, hx132, h133⟩ := bindS h124
          obtain ⟨_, hv134, _⟩ := ow114.osel (k := 0) Z hv61 hx132
          refine U.p Z Z (.inl Z) (S.index Z ((L 2 Z Z).trans hv134) (L 0 Z Z) Try.underlying44 ti49 (ix_ge hx132) (ix_lt hx132)) ?_
          obtain ⟨cs135, hv136, hlt137, hr138, hc139⟩ := ow114.osel (k := 0) Z hv61 hx132
          obtain rfl : cs135 = [.int .i64 x131.reg, .int .i64 x131.from_, .int .i64 x131.to_] := hr138
          refine U.k Z Z (.inl Z) (S.loadN (cs := [.int .i64 x131.reg, .int .i64 x131.from_, .int .i64 x131.to_]) Z (L 0 Z Z) Try.underlying49 Z ti49 Z hc139) (fun _ => (okH.cons trivial (okH.nil (fun r h => by cases h; exact hlt137)))) ?_
          obtain ⟨x140, hx141, h142⟩ := bindS h133
          refine O.callv (V := V112) Z Z (.inl Z) Z (L 9 Z Z) en31 (aC (L 5 Z Z) (aC (L 0 Z Z) aN)) (wk_flow_Spans_c1 V112 _ x122 x131 ow114 _ hx141) (fun v143 V144 le145 hp146 => by obtain ⟨rfl, ow147⟩ := hp146; exact (fun _ => (okH.cons (Or.inl Z) (okH.cons (Or.inl Z) (okH.nil (fun r h => nomatch h)))))) (fun v143 V144 le145 hp146 => ?_)
          obtain ⟨rfl, ow147⟩ := hp146
          refine U.p Z Z (.inl Z) (S.lss Z (L 0 Z Z) K) ?_
          refine U.p Z Z (.inl Z) (S.not Z (L 0 Z Z)) ?_
          refine U.done (nr Z) ?_
          refine WP.cond _ (L 0 Z Z) Z (fun c148 => ?_) (fun c148 => ?_)
          ·have h149 := ifT c148 h142
           have k150 : (decide (x140 < 0)) = false := nT c148
           refine WP.exit ?_
           refine sqE (blkO Z (sqE (sqE (blkE (blkN (sqN ?_))))))
           have h151 := exitS h149 e117
           exact ⟨_, V144, Z, ⟨xs108, x24, Z, ((((((le28.trans le37).trans le87).trans le99).trans le103).trans le113).trans le145), ow147, h151⟩, (allCons (L 16 Z Z) (allCons (L 17 Z Z) (allCons (L 18 Z Z) (allCons (L 19 Z Z) (allCons (L 20 Z Z) (allCons (L 21 Z Z) allNil))))))⟩
          ·have h152 := ifF c148 h142
           have k153 : (decide (x140 < 0)) = true := nF c148
           refine WP.skip ?_
           refine sqN ?_
           refine WP.udreg Z Z Z ?_
           refine U.p Z Z (.inl Z) (S.move Z (L 16 Z Z)) ?_
           refine U.p Z Z (.inl Z) (S.move Z (L 23 Z Z)) ?_
           refine U.p Z Z (.inl Z) (S.move Z (L 18 Z Z)) ?_
           refine U.p Z Z (.inl Z) (S.move Z (L 25 Z Z)) ?_
           refine U.p Z Z (.inl Z) (S.sub Z (L 0 Z Z) K) ?_
           refine U.p Z Z (.inl Z) (S.move Z (L 21 Z Z)) ?_
           refine U.p Z Z (.inl Z) (S.move Z (L 28 Z Z)) ?_
           refine U.p Z Z (.inl Z) (S.sub Z (L 0 Z Z) K) ?_
           obtain ⟨x154, hx155, h156⟩ := bindS h152
           obtain ⟨_, hv157, _⟩ := ow147.osel (k := 0) Z hv61 hx155
           refine U.p Z Z (.inl Z) (S.index Z ((L 2 Z Z).trans hv157) (L 0 Z Z) Try.underlying44 ti49 (ix_ge hx155) (ix_lt hx155)) ?_
           obtain ⟨cs158, hv159, hlt160, hr161, hc162⟩ := ow147.osel (k := 0) Z hv61 hx155
           obtain rfl : cs158 = [.int .i64 x154.reg, .int .i64 x154.from_, .int .i64 x154.to_] := hr161
           refine U.k Z Z (.inl Z) (S.loadN (cs := [.int .i64 x154.reg, .int .i64 x154.from_, .int .i64 x154.to_]) Z (L 0 Z Z) Try.underlying49 Z ti49 Z hc162) (fun _ => (okH.nil (fun r h => by cases h; exact hlt160))) ?_
           refine U.p Z Z (.inl Z) (S.move Z (L 26 Z Z)) ?_
           refine U.p Z Z (.inl Z) (S.move Z (L 33 Z Z)) ?_
           obtain ⟨x163, hx164, h165⟩ := bindS h156
           obtain ⟨_, hv166, _⟩ := ow147.osel (k := 0) Z hv61 hx164
           refine U.p Z Z (.inl Z) (S.index Z ((L 1 Z Z).trans hv166) (L 0 Z Z) Try.underlying44 ti49 (ix_ge hx164) (ix_lt hx164)) ?_
           obtain ⟨cs167, hv168, hlt169, hr170, hc171⟩ := ow147.osel (k := 0) Z hv61 hx164
           obtain rfl : cs167 = [.int .i64 x163.reg, .int .i64 x163.from_, .int .i64 x163.to_] := hr170
           refine U.k Z Z (.inl Z) (S.loadN (cs := [.int .i64 x163.reg, .int .i64 x163.from_, .int .i64 x163.to_]) Z (L 0 Z Z) Try.underlying49 Z ti49 Z hc171) (fun _ => (okH.cons trivial (okH.nil (fun r h => by cases h; exact hlt169)))) ?_
           obtain ⟨x172, hx173, h174⟩ := bindS h165
           obtain ⟨_, hv175, _⟩ := ow147.osel (k := 0) Z hv61 hx173
           refine U.p Z Z (.inl Z) (S.index Z ((L 13 Z Z).trans hv175) (L 12 Z Z) Try.underlying44 ti49 (ix_ge hx173) (ix_lt hx173)) ?_
           obtain ⟨cs176, hv177, hlt178, hr179, hc180⟩ := ow147.osel (k := 0) Z hv61 hx173
           obtain rfl : cs176 = [.int .i64 x172.reg, .int .i64 x172.from_, .int .i64 x172.to_] := hr179
           refine O.storeE (k := 0) (R := RT_Tflow_Span) (j := 0) (y := x154) (cs := [.int .i64 x154.reg, .int .i64 x154.from_, .int .i64 x154.to_]) ow147 Z hv177 Z Z (.inl Z) Z (L 0 Z Z) (L 5 Z Z) ti49 hx173 (by simp [topV]) Z Z Z (full Z) (fun H1 hs => (fun _ => (okH.cons (Or.inl Z) (okH.cons (Or.inl Z) (okH.nil (fun r h => nomatch h)))))) (fun V181 le182 ow183 => ?_)
           obtain ⟨x184, hx185, h186⟩ := bindS h174
           obtain ⟨_, hv187, _⟩ := ow183.osel (k := 0) Z hv61 hx185
           refine U.p Z Z (.inl Z) (S.index Z ((L 12 Z Z).trans hv187) (L 10 Z Z) Try.underlying44 ti49 (ix_ge hx185) (ix_lt hx185)) ?_
           obtain ⟨cs188, hv189, hlt190, hr191, hc192⟩ := ow183.osel (k := 0) Z hv61 hx185
           obtain rfl : cs188 = [.int .i64 x184.reg, .int .i64 x184.from_, .int .i64 x184.to_] := hr191
           refine O.storeE (k := 0) (R := RT_Tflow_Span) (j := 0) (y := x163) (cs := [.int .i64 x163.reg, .int .i64 x163.from_, .int .i64 x163.to_]) ow183 Z hv189 Z Z (.inl Z) Z (L 0 Z Z) (L 2 Z Z) ti49 hx185 (by simp [topV]) Z Z Z (full Z) (fun H1 hs => (fun _ => (okH.cons Z (okH.cons (Or.inl Z) (okH.cons (Or.inl Z) (okH.nil (fun r h => nomatch h))))))) (fun V193 le194 ow195 => ?_)
           refine U.done (nr Z) ?_
           refine blkN (sqN ?_)
           refine WP.ureg Z ?_
           refine U.p Z Z (.inl Z) (S.move Z (L 38 Z Z)) ?_
           refine U.p Z Z (.inl Z) (S.add Z (L 0 Z Z) K) ?_
           refine U.p Z Z (.inl Z) (S.assign Z (L 0 Z Z)) ?_
           refine U.done (nr Z) ?_
           refine sqN ?_
           exact ⟨_, V193, Z, ⟨m115, Nat.lt_succ_self _, (xs108.set (Int.toNat x109) x154).set (Int.toNat (w64 (x109 - 1))) x163, w64 (x109 + 1), Z, (((le113.trans le145).trans le182).trans le194), ow195, backS h186 e117⟩, (allCons (L 35 Z Z) (allCons (L 36 Z Z) (allCons (L 37 Z Z) (allCons (L 38 Z Z) (allCons (L 39 Z Z) (allCons (L 40 Z Z) (allCons (L 0 Z Z) allNil)))))))⟩
         ·have h196 := ifF c120 h119
          refine WP.exit ?_
          refine sqE (sqE (blkE (blkN (sqN ?_))))
          have h197 := exitS h196 e117
          exact ⟨_, V112, Z, ⟨xs108, x24, Z, (((((le28.trans le37).trans le87).trans le99).trans le103).trans le113), ow114, h197⟩, (allCons (L 3 Z Z) (allCons (L 4 Z Z) (allCons (L 5 Z Z) (allCons (L 6 Z Z) (allCons (L 7 Z Z) (allCons (L 8 Z Z) allNil))))))⟩
        ·have h198 := ifF c106 h105
         refine WP.skip ?_
         refine blkN (sqN ?_)
         exact ⟨_, V102, Z, ⟨xs101, x24, Z, ((((le28.trans le37).trans le87).trans le99).trans le103), ow104, h198⟩, (allCons (L 4 Z Z) (allCons (L 5 Z Z) (allCons (L 6 Z Z) (allCons (L 7 Z Z) (allCons (L 8 Z Z) (allCons (L 9 Z Z) allNil))))))⟩
       ·skip
        refine WP.usreg Z ?_
        refine U.p Z Z (.inl Z) (S.move Z (L 27 Z Z)) ?_
        refine U.p Z Z (.inl Z) (S.move Z (L 25 Z Z)) ?_
        refine U.p Z Z (.inl Z) (S.sub Z (L 1 Z Z) (L 0 Z Z)) ?_
        refine U.p Z Z (.inl Z) (S.geq Z (L 0 Z Z) K) ?_
        refine U.done (nr Z) ?_
        refine WP.cond _ (L 0 Z Z) Z (fun c199 => ?_) (fun c199 => ?_)
        ·have h200 := ifT c199 h91
         refine WP.usreg Z ?_
         refine U.p Z Z (.inl Z) (S.move Z (L 31 Z Z)) ?_
         refine U.p Z Z (.inl Z) (S.sub Z (L 0 Z Z) K) ?_
         refine U.p Z Z (.inl Z) (S.assign Z (L 0 Z Z)) ?_
         refine U.done (nr Z) ?_
         refine WP.blk ?_
         unfold s_partialInsertionSort_l4 at h200
         obtain ⟨n204, hn203⟩ := loopO_some.1 h200
         refine WP.loopI2 (fun n l V' => ∃ (xs201 : List Tflow_Span) (x202 : Int), l = [(0, v1), (1, .int .i64 p1), (2, .int .i64 p2), (3, .func (.func 31) #[] #[]), (9, .int .i64 x24), (10, .int .i64 x5), (11, .int .i64 x202)] ∧ V98.le V' ∧ Ow V' (.os RT_Tflow_Span v1 xs201 :: Rs) ∧ itO (fun s => s_partialInsertionSort_l4b p2 x5 x24 s.1 s.2) n (xs201, x202) = some q12) n204 _ ⟨(xs3.set (Int.toNat x24) x54).set (Int.toNat (w64 (x24 - 1))) x68, w64 (x24 - 1), Z, .refl _, ow100, hn203⟩ (allCons (L 30 Z Z) (allCons (L 31 Z Z) (allCons (L 32 Z Z) (allCons (L 33 Z Z) (allCons (L 34 Z Z) (allCons (L 35 Z Z) (allCons (L 0 Z Z) allNil))))))) ?_
         rintro _ _ V205 ⟨xs201, x202, rfl, le206, ow207, h211⟩
         obtain ⟨m208, q209, rfl, h212, e210⟩ := itS h211
         replace h212 : s_partialInsertionSort_l4b p2 x5 x24 xs201 x202 = some q209 := h212
         unfold s_partialInsertionSort_l4b at h212
         refine WP.seq ?_
         refine WP.usreg Z ?_
         refine U.p Z Z (.inl Z) (S.move Z (L 6 Z Z)) ?_
         refine U.p Z Z (.inl Z) (S.geq Z (L 0 Z Z) K) ?_
         refine U.done (nr Z) ?_
         refine WP.cond _ (L 0 Z Z) Z (fun c213 => ?_) (fun c213 => ?_)
         ·have h214 := ifT c213 h212
          refine WP.skip ?_
          refine sqN ?_
          refine WP.seq ?_
          refine WP.blk ?_
          refine WP.seq ?_
          refine WP.usdreg Z Z Z ?_
          refine U.p Z Z (.inl Z) (S.move Z (L 5 Z Z)) ?_
          refine U.p Z Z (.inl Z) (S.move Z (L 3 Z Z)) ?_
          refine U.p Z Z (.inl Z) (S.move Z (L 10 Z Z)) ?_
          obtain ⟨x215, hx216, h217⟩ := bindS h214
          obtain ⟨_, hv218, _⟩ := ow207.osel (k := 0) Z hv61 hx216
          refine U.p Z Z (.inl Z) (S.index Z ((L 1 Z Z).trans hv218) (L 0 Z Z) Try.underlying44 ti49 (ix_ge hx216) (ix_lt hx216)) ?_
          obtain ⟨cs219, hv220, hlt221, hr222, hc223⟩ := ow207.osel (k := 0) Z hv61 hx216
          obtain rfl : cs219 = [.int .i64 x215.reg, .int .i64 x215.from_, .int .i64 x215.to_] := hr222
          refine U.k Z Z (.inl Z) (S.loadN (cs := [.int .i64 x215.reg, .int .i64 x215.from_, .int .i64 x215.to_]) Z (L 0 Z Z) Try.underlying49 Z ti49 Z hc223) (fun _ => (okH.nil (fun r h => by cases h; exact hlt221))) ?_
          refine U.p Z Z (.inl Z) (S.move Z (L 7 Z Z)) ?_
          refine U.p Z Z (.inl Z) (S.move Z (L 14 Z Z)) ?_
          refine U.p Z Z (.inl Z) (S.sub Z (L 0 Z Z) K) ?_
          obtain ⟨x224, hx225, h226⟩ := bindS h217
          obtain ⟨_, hv227, _⟩ := ow207.osel (k := 0) Z hv61 hx225
          refine U.p Z Z (.inl Z) (S.index Z ((L 2 Z Z).trans hv227) (L 0 Z Z) Try.underlying44 ti49 (ix_ge hx225) (ix_lt hx225)) ?_
          obtain ⟨cs228, hv229, hlt230, hr231, hc232⟩ := ow207.osel (k := 0) Z hv61 hx225
          obtain rfl : cs228 = [.int .i64 x224.reg, .int .i64 x224.from_, .int .i64 x224.to_] := hr231
          refine U.k Z Z (.inl Z) (S.loadN (cs := [.int .i64 x224.reg, .int .i64 x224.from_, .int .i64 x224.to_]) Z (L 0 Z Z) Try.underlying49 Z ti49 Z hc232) (fun _ => (okH.cons trivial (okH.nil (fun r h => by cases h; exact hlt230)))) ?_
          obtain ⟨x233, hx234, h235⟩ := bindS h226
          refine O.callv (V := V205) Z Z (.inl Z) Z (L 9 Z Z) en31 (aC (L 5 Z Z) (aC (L 0 Z Z) aN)) (wk_flow_Spans_c1 V205 _ x215 x224 ow207 _ hx234) (fun v236 V237 le238 hp239 => by obtain ⟨rfl, ow240⟩ := hp239; exact (fun _ => (okH.cons (Or.inl Z) (okH.cons (Or.inl Z) (okH.nil (fun r h => nomatch h)))))) (fun v236 V237 le238 hp239 => ?_)
          obtain ⟨rfl, ow240⟩ := hp239
          refine U.p Z Z (.inl Z) (S.lss Z (L 0 Z Z) K) ?_
          refine U.p Z Z (.inl Z) (S.not Z (L 0 Z Z)) ?_
          refine U.done (nr Z) ?_
          refine WP.cond _ (L 0 Z Z) Z (fun c241 => ?_) (fun c241 => ?_)
          ·have h242 := ifT c241 h235
           have k243 : (decide (x233 < 0)) = false := nT c241
           refine WP.exit ?_
           refine sqE (blkO Z (sqE (sqE (blkE (sqN ?_)))))
           have h244 := exitS h242 e210
           exact ⟨_, V237, Z, ⟨xs201, Z, (le206.trans le238), ow240, h244⟩, (allCons (L 15 Z Z) (allCons (L 16 Z Z) (allCons (L 17 Z Z) (allCons (L 18 Z Z) (allCons (L 19 Z Z) (allCons (L 20 Z Z) allNil))))))⟩
          ·have h245 := ifF c241 h235
           have k246 : (decide (x233 < 0)) = true := nF c241
           refine WP.skip ?_
           refine sqN ?_
           refine WP.udreg Z Z Z ?_
           refine U.p Z Z (.inl Z) (S.move Z (L 15 Z Z)) ?_
           refine U.p Z Z (.inl Z) (S.move Z (L 22 Z Z)) ?_
           refine U.p Z Z (.inl Z) (S.move Z (L 17 Z Z)) ?_
           refine U.p Z Z (.inl Z) (S.move Z (L 24 Z Z)) ?_
           refine U.p Z Z (.inl Z) (S.sub Z (L 0 Z Z) K) ?_
           refine U.p Z Z (.inl Z) (S.move Z (L 20 Z Z)) ?_
           refine U.p Z Z (.inl Z) (S.move Z (L 27 Z Z)) ?_
           refine U.p Z Z (.inl Z) (S.sub Z (L 0 Z Z) K) ?_
           obtain ⟨x247, hx248, h249⟩ := bindS h245
           obtain ⟨_, hv250, _⟩ := ow240.osel (k := 0) Z hv61 hx248
           refine U.p Z Z (.inl Z) (S.index Z ((L 2 Z Z).trans hv250) (L 0 Z Z) Try.underlying44 ti49 (ix_ge hx248) (ix_lt hx248)) ?_
           obtain ⟨cs251, hv252, hlt253, hr254, hc255⟩ := ow240.osel (k := 0) Z hv61 hx248
           obtain rfl : cs251 = [.int .i64 x247.reg, .int .i64 x247.from_, .int .i64 x247.to_] := hr254
           refine U.k Z Z (.inl Z) (S.loadN (cs := [.int .i64 x247.reg, .int .i64 x247.from_, .int .i64 x247.to_]) Z (L 0 Z Z) Try.underlying49 Z ti49 Z hc255) (fun _ => (okH.nil (fun r h => by cases h; exact hlt253))) ?_
           refine U.p Z Z (.inl Z) (S.move Z (L 25 Z Z)) ?_
           refine U.p Z Z (.inl Z) (S.move Z (L 32 Z Z)) ?_
           obtain ⟨x256, hx257, h258⟩ := bindS h249
           obtain ⟨_, hv259, _⟩ := ow240.osel (k := 0) Z hv61 hx257
           refine U.p Z Z (.inl Z) (S.index Z ((L 1 Z Z).trans hv259) (L 0 Z Z) Try.underlying44 ti49 (ix_ge hx257) (ix_lt hx257)) ?_
           obtain ⟨cs260, hv261, hlt262, hr263, hc264⟩ := ow240.osel (k := 0) Z hv61 hx257
           obtain rfl : cs260 = [.int .i64 x256.reg, .int .i64 x256.from_, .int .i64 x256.to_] := hr263
           refine U.k Z Z (.inl Z) (S.loadN (cs := [.int .i64 x256.reg, .int .i64 x256.from_, .int .i64 x256.to_]) Z (L 0 Z Z) Try.underlying49 Z ti49 Z hc264) (fun _ => (okH.cons trivial (okH.nil (fun r h => by cases h; exact hlt262)))) ?_
           obtain ⟨x265, hx266, h267⟩ := bindS h258
           obtain ⟨_, hv268, _⟩ := ow240.osel (k := 0) Z hv61 hx266
           refine U.p Z Z (.inl Z) (S.index Z ((L 13 Z Z).trans hv268) (L 12 Z Z) Try.underlying44 ti49 (ix_ge hx266) (ix_lt hx266)) ?_
           obtain ⟨cs269, hv270, hlt271, hr272, hc273⟩ := ow240.osel (k := 0) Z hv61 hx266
           obtain rfl : cs269 = [.int .i64 x265.reg, .int .i64 x265.from_, .int .i64 x265.to_] := hr272
           refine O.storeE (k := 0) (R := RT_Tflow_Span) (j := 0) (y := x247) (cs := [.int .i64 x247.reg, .int .i64 x247.from_, .int .i64 x247.to_]) ow240 Z hv270 Z Z (.inl Z) Z (L 0 Z Z) (L 5 Z Z) ti49 hx266 (by simp [topV]) Z Z Z (full Z) (fun H1 hs => (fun _ => (okH.cons (Or.inl Z) (okH.cons (Or.inl Z) (okH.nil (fun r h => nomatch h)))))) (fun V274 le275 ow276 => ?_)
           obtain ⟨x277, hx278, h279⟩ := bindS h267
           obtain ⟨_, hv280, _⟩ := ow276.osel (k := 0) Z hv61 hx278
           refine U.p Z Z (.inl Z) (S.index Z ((L 12 Z Z).trans hv280) (L 10 Z Z) Try.underlying44 ti49 (ix_ge hx278) (ix_lt hx278)) ?_
           obtain ⟨cs281, hv282, hlt283, hr284, hc285⟩ := ow276.osel (k := 0) Z hv61 hx278
           obtain rfl : cs281 = [.int .i64 x277.reg, .int .i64 x277.from_, .int .i64 x277.to_] := hr284
           refine O.storeE (k := 0) (R := RT_Tflow_Span) (j := 0) (y := x256) (cs := [.int .i64 x256.reg, .int .i64 x256.from_, .int .i64 x256.to_]) ow276 Z hv282 Z Z (.inl Z) Z (L 0 Z Z) (L 2 Z Z) ti49 hx278 (by simp [topV]) Z Z Z (full Z) (fun H1 hs => (fun _ => (okH.cons Z (okH.cons (Or.inl Z) (okH.cons (Or.inl Z) (okH.nil (fun r h => nomatch h))))))) (fun V286 le287 ow288 => ?_)
           refine U.done (nr Z) ?_
           refine blkN (sqN ?_)
           refine WP.ureg Z ?_
           refine U.p Z Z (.inl Z) (S.move Z (L 37 Z Z)) ?_
           refine U.p Z Z (.inl Z) (S.sub Z (L 0 Z Z) K) ?_
           refine U.p Z Z (.inl Z) (S.assign Z (L 0 Z Z)) ?_
           refine U.done (nr Z) ?_
           refine sqN ?_
           exact ⟨_, V286, Z, ⟨m208, Nat.lt_succ_self _, (xs201.set (Int.toNat x202) x247).set (Int.toNat (w64 (x202 - 1))) x256, w64 (x202 - 1), Z, (((le206.trans le238).trans le275).trans le287), ow288, backS h279 e210⟩, (allCons (L 34 Z Z) (allCons (L 35 Z Z) (allCons (L 36 Z Z) (allCons (L 37 Z Z) (allCons (L 38 Z Z) (allCons (L 39 Z Z) (allCons (L 0 Z Z) allNil)))))))⟩
         ·have h289 := ifF c213 h212
          refine WP.exit ?_
          refine sqE (sqE (blkE (sqN ?_)))
          have h290 := exitS h289 e210
          exact ⟨_, V205, Z, ⟨xs201, Z, le206, ow207, h290⟩, (allCons (L 2 Z Z) (allCons (L 3 Z Z) (allCons (L 4 Z Z) (allCons (L 5 Z Z) (allCons (L 6 Z Z) (allCons (L 7 Z Z) allNil))))))⟩
        ·have h291 := ifF c199 h91
         refine WP.skip ?_
         refine sqN ?_
         exact ⟨_, V98, Z, ⟨(xs3.set (Int.toNat x24) x54).set (Int.toNat (w64 (x24 - 1))) x68, Z, (.refl _), ow100, h291⟩, (allCons (L 27 Z Z) (allCons (L 28 Z Z) (allCons (L 29 Z Z) (allCons (L 30 Z Z) (allCons (L 31 Z Z) (allCons (L 32 Z Z) allNil))))))⟩
   ·skip
    refine WP.udreg Z Z Z ?_
    refine U.p Z Z (.inl Z) (S.move Z (L 4 Z Z)) ?_
    refine U.p Z Z (.inl Z) (S.move Z (L 3 Z Z)) ?_
    refine U.p Z Z (.inl Z) (S.lss Z (L 1 Z Z) (L 0 Z Z)) ?_
    refine U.p Z Z (.inl Z) (S.move Z (L 0 Z Z)) ?_
    refine bcase (b := decide (x24 < p2)) (fun g292 => ?_) (fun g292 => ?_)
    ·have h293 := ifT g292 h34
     refine U.p Z Z (.inr ⟨_, _, _, Z, Z, ((L 0 Z Z).trans (cB g292))⟩) (S.move Z (L 7 Z Z)) ?_
     refine U.p Z Z (.inr ⟨_, _, _, Z, Z, ((L 1 Z Z).trans (cB g292))⟩) (S.move Z (L 5 Z Z)) ?_
     refine U.p Z Z (.inr ⟨_, _, _, Z, Z, ((L 2 Z Z).trans (cB g292))⟩) (S.move Z (L 10 Z Z)) ?_
     obtain ⟨x294, hx295, h296⟩ := bindS h293
     obtain ⟨b297, o298, n299, c300, hv301⟩ := ow29.ospt (k := 0) Z hx295
     obtain ⟨_, hv302, _⟩ := ow29.osel (k := 0) Z hv301 hx295
     refine U.p Z Z (.inr ⟨_, _, _, Z, Z, ((L 3 Z Z).trans (cB g292))⟩) (S.index Z ((L 1 Z Z).trans hv302) (L 0 Z Z) Try.underlying44 ti49 (ix_ge hx295) (ix_lt hx295)) ?_
     obtain ⟨cs303, hv304, hlt305, hr306, hc307⟩ := ow29.osel (k := 0) Z hv301 hx295
     obtain rfl : cs303 = [.int .i64 x294.reg, .int .i64 x294.from_, .int .i64 x294.to_] := hr306
     refine U.k Z Z (.inr ⟨_, _, _, Z, Z, ((L 4 Z Z).trans (cB g292))⟩) (S.loadN (cs := [.int .i64 x294.reg, .int .i64 x294.from_, .int .i64 x294.to_]) Z (L 0 Z Z) Try.underlying49 Z ti49 Z hc307) (fun _ => (okH.nil (fun r h => by cases h; exact hlt305))) ?_
     refine U.p Z Z (.inr ⟨_, _, _, Z, Z, ((L 5 Z Z).trans (cB g292))⟩) (S.move Z (L 9 Z Z)) ?_
     refine U.p Z Z (.inr ⟨_, _, _, Z, Z, ((L 6 Z Z).trans (cB g292))⟩) (S.move Z (L 14 Z Z)) ?_
     refine U.p Z Z (.inr ⟨_, _, _, Z, Z, ((L 7 Z Z).trans (cB g292))⟩) (S.sub Z (L 0 Z Z) K) ?_
     obtain ⟨x308, hx309, h310⟩ := bindS h296
     obtain ⟨_, hv311, _⟩ := ow29.osel (k := 0) Z hv301 hx309
     refine U.p Z Z (.inr ⟨_, _, _, Z, Z, ((L 8 Z Z).trans (cB g292))⟩) (S.index Z ((L 2 Z Z).trans hv311) (L 0 Z Z) Try.underlying44 ti49 (ix_ge hx309) (ix_lt hx309)) ?_
     obtain ⟨cs312, hv313, hlt314, hr315, hc316⟩ := ow29.osel (k := 0) Z hv301 hx309
     obtain rfl : cs312 = [.int .i64 x308.reg, .int .i64 x308.from_, .int .i64 x308.to_] := hr315
     refine U.k Z Z (.inr ⟨_, _, _, Z, Z, ((L 9 Z Z).trans (cB g292))⟩) (S.loadN (cs := [.int .i64 x308.reg, .int .i64 x308.from_, .int .i64 x308.to_]) Z (L 0 Z Z) Try.underlying49 Z ti49 Z hc316) (fun _ => (okH.cons trivial (okH.nil (fun r h => by cases h; exact hlt314)))) ?_
     obtain ⟨x317, hx318, h319⟩ := bindS h310
     refine O.callv (V := V27) Z Z (.inr ⟨_, _, _, Z, Z, ((L 10 Z Z).trans (cB g292))⟩) Z (L 9 Z Z) en31 (aC (L 5 Z Z) (aC (L 0 Z Z) aN)) (wk_flow_Spans_c1 V27 _ x294 x308 ow29 _ hx318) (fun v320 V321 le322 hp323 => by obtain ⟨rfl, ow324⟩ := hp323; exact (fun _ => (okH.cons (Or.inl Z) (okH.cons (Or.inl Z) (okH.nil (fun r h => nomatch h)))))) (fun v320 V321 le322 hp323 => ?_)
     obtain ⟨rfl, ow324⟩ := hp323
     refine U.p Z Z (.inr ⟨_, _, _, Z, Z, ((L 11 Z Z).trans (cB g292))⟩) (S.lss Z (L 0 Z Z) K) ?_
     refine U.p Z Z (.inr ⟨_, _, _, Z, Z, ((L 12 Z Z).trans (cB g292))⟩) (S.not Z (L 0 Z Z)) ?_
     refine U.p Z Z (.inl Z) (S.pickT Z ((L 13 Z Z).trans (cB g292)) (L 0 Z Z)) ?_
     refine U.done (nr Z) ?_
     refine sqN ?_
     exact ⟨_, V321, Z, ⟨!(decide (x317 < 0)), Z, le322, ow324, h319⟩, (allCons (L 18 Z Z) (allCons (L 19 Z Z) (allCons (L 20 Z Z) (allCons (L 21 Z Z) (allCons (L 22 Z Z) (allCons (L 23 Z Z) (allCons (L 0 Z Z) allNil)))))))⟩
    ·have h325 := ifF g292 h34
     refine U.x Z Z Z Z ((L 0 Z Z).trans (cB g292)) (by decide) ?_
     refine U.x Z Z Z Z ((L 1 Z Z).trans (cB g292)) (by decide) ?_
     refine U.x Z Z Z Z ((L 2 Z Z).trans (cB g292)) (by decide) ?_
     refine U.x Z Z Z Z ((L 3 Z Z).trans (cB g292)) (by decide) ?_
     refine U.x Z Z Z Z ((L 4 Z Z).trans (cB g292)) (by decide) ?_
     refine U.x Z Z Z Z ((L 5 Z Z).trans (cB g292)) (by decide) ?_
     refine U.x Z Z Z Z ((L 6 Z Z).trans (cB g292)) (by decide) ?_
     refine U.x Z Z Z Z ((L 7 Z Z).trans (cB g292)) (by decide) ?_
     refine U.x Z Z Z Z ((L 8 Z Z).trans (cB g292)) (by decide) ?_
     refine U.x Z Z Z Z ((L 9 Z Z).trans (cB g292)) (by decide) ?_
     refine U.x Z Z Z Z ((L 10 Z Z).trans (cB g292)) (by decide) ?_
     refine U.x Z Z Z Z ((L 11 Z Z).trans (cB g292)) (by decide) ?_
     refine U.x Z Z Z Z ((L 12 Z Z).trans (cB g292)) (by decide) ?_
     refine U.p Z Z (.inl Z) (S.pickF Z ((L 13 Z Z).trans (cB g292)) K) ?_
     refine U.done (nr Z) ?_
     refine sqN ?_
     exact ⟨_, V27, Z, ⟨false, Z, (.refl _), ow29, h325⟩, (allCons (L 18 Z Z) (allCons (L 19 Z Z) (allCons (L 20 Z Z) (allCons (L 21 Z Z) (allCons (L 22 Z Z) (allCons (L 23 Z Z) (allCons (L 0 Z Z) allNil)))))))⟩
 ·have h326 := ifF c16 h15
  refine WP.exit ?_
  refine sqE (sqE (blkE (sqN ?_)))
  have h327 := exitS h326 e13
  refine WP.usreg Z ?_
  refine U.p Z Z (.inl Z) (S.assign Z K) ?_
  refine U.done (nr Z) ?_
  refine WP.ret ?_
  refine fin.slot (.inr Z) Z (L 0 Z Z) ⟨V8, Z, le9, ?_⟩
  have e328 := Option.some.inj h327
  subst e328
  exact ⟨rfl, ow10⟩
end Go.Vm.G13s
