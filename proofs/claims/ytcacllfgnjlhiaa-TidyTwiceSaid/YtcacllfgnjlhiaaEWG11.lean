/-
  What the functions compute is what the plain ones say, for all inputs at which those answer.
-/
import Derived.Test.YtcacllfgnjlhiaaEDG11
import Derived.Test.YtcacllfgnjlhiaaProg
import Derived.Test.YtcacllfgnjlhiaaEF11c
set_option linter.unusedSimpArgs false
set_option linter.unusedVariables false
namespace Go.Vm.G11
open Go Go.Proofs
set_option maxHeartbeats 4000000
set_option maxRecDepth 10000
theorem ti3 : tinfo Try.prog 3 (.int .i64 0) 1 8 := by unfold tinfo; kernel_rfl
theorem ti4 : tinfo Try.prog 4 (.bool false) 1 1 := by unfold tinfo; kernel_rfl
theorem ti22 : tinfo Try.prog 22 (.slice none 0 0) 1 24 := by unfold tinfo; kernel_rfl
theorem ti23 : tinfo Try.prog 23 (.slice none 0 0) 1 24 := by unfold tinfo; kernel_rfl
theorem ti25 : tinfo Try.prog 25 (.agg #[.slice none 0 0, .slice none 0 0]) 2 48 := by unfold tinfo; kernel_rfl
theorem ti27 : tinfo Try.prog 27 (.agg #[.bool false, .bool false, .bool false]) 3 3 := by unfold tinfo; kernel_rfl
theorem ti31 : tinfo Try.prog 31 (.slice none 0 0) 1 24 := by unfold tinfo; kernel_rfl
theorem ti36 : tinfo Try.prog 36 (.slice none 0 0) 1 24 := by unfold tinfo; kernel_rfl
theorem ti38 : tinfo Try.prog 38 (.agg #[.string ByteArray.empty, .int .i64 0, .int .i64 0, .slice none 0 0]) 4 56 := by unfold tinfo; kernel_rfl
theorem ti44 : tinfo Try.prog 44 (.agg #[.int .i64 0, .int .i64 0, .int .i64 0, .int .i64 0, .int .i64 0, .slice none 0 0, .int .i64 0, .bool false, .bool false]) 9 80 := by unfold tinfo; kernel_rfl
theorem ti51 : tinfo Try.prog 51 (.agg #[.int .i64 0, .int .i64 0, .int .i64 0, .int .i64 0, .bool false, .bool false]) 6 40 := by unfold tinfo; kernel_rfl
theorem ti56 : tinfo Try.prog 56 (.map none) 1 8 := by unfold tinfo; kernel_rfl
theorem ti58 : tinfo Try.prog 58 (.agg #[.slice none 0 0, .slice none 0 0, .int .i64 0, .slice none 0 0, .int .i64 0, .int .i64 0, .map none, .slice none 0 0, .bool false, .bool false, .int .i64 0]) 11 144 := by unfold tinfo; kernel_rfl
theorem ti68 : tinfo Try.prog 68 (.slice none 0 0) 1 24 := by unfold tinfo; kernel_rfl
theorem ti79 : tinfo Try.prog 79 (.agg #[.map none, .map none]) 2 16 := by unfold tinfo; kernel_rfl
theorem ti85 : tinfo Try.prog 85 (.slice none 0 0) 1 24 := by unfold tinfo; kernel_rfl
theorem pl25 : placesAre Try.prog 25 #[(0, 1), (1, 1)] := ⟨_, Try.underlying25, by kernel_rfl⟩
theorem pl27 : placesAre Try.prog 27 #[(0, 1), (1, 1), (2, 1)] := ⟨_, Try.underlying27, by kernel_rfl⟩
theorem pl38 : placesAre Try.prog 38 #[(0, 1), (1, 1), (2, 1), (3, 1)] := ⟨_, Try.underlying38, by kernel_rfl⟩
theorem pl44 : placesAre Try.prog 44 #[(0, 1), (1, 1), (2, 1), (3, 1), (4, 1), (5, 1), (6, 1), (7, 1), (8, 1)] := ⟨_, Try.underlying44, by kernel_rfl⟩
theorem pl51 : placesAre Try.prog 51 #[(0, 1), (1, 1), (2, 1), (3, 1), (4, 1), (5, 1)] := ⟨_, Try.underlying51, by kernel_rfl⟩
theorem pl58 : placesAre Try.prog 58 #[(0, 2), (2, 1), (3, 1), (4, 1), (5, 1), (6, 1), (7, 1), (8, 1), (9, 1), (10, 1)] := ⟨_, Try.underlying58, by kernel_rfl⟩
theorem pl79 : placesAre Try.prog 79 #[(0, 1), (1, 1)] := ⟨_, Try.underlying79, by kernel_rfl⟩
theorem en6 : enterable Try.prog 6 := ⟨Try.f6, Try.func6, by kernel_rfl, rfl⟩
theorem en7 : enterable Try.prog 7 := ⟨Try.f7, Try.func7, by kernel_rfl, rfl⟩
theorem en8 : enterable Try.prog 8 := ⟨Try.f8, Try.func8, by kernel_rfl, rfl⟩
theorem en9 : enterable Try.prog 9 := ⟨Try.f9, Try.func9, by kernel_rfl, rfl⟩
theorem en10 : enterable Try.prog 10 := ⟨Try.f10, Try.func10, by kernel_rfl, rfl⟩
theorem en11 : enterable Try.prog 11 := ⟨Try.f11, Try.func11, by kernel_rfl, rfl⟩
theorem en14 : enterable Try.prog 14 := ⟨Try.f14, Try.func14, by kernel_rfl, rfl⟩
theorem en15 : enterable Try.prog 15 := ⟨Try.f15, Try.func15, by kernel_rfl, rfl⟩
theorem en16 : enterable Try.prog 16 := ⟨Try.f16, Try.func16, by kernel_rfl, rfl⟩
theorem en17 : enterable Try.prog 17 := ⟨Try.f17, Try.func17, by kernel_rfl, rfl⟩
theorem en18 : enterable Try.prog 18 := ⟨Try.f18, Try.func18, by kernel_rfl, rfl⟩
theorem en19 : enterable Try.prog 19 := ⟨Try.f19, Try.func19, by kernel_rfl, rfl⟩
theorem en20 : enterable Try.prog 20 := ⟨Try.f20, Try.func20, by kernel_rfl, rfl⟩
theorem en21 : enterable Try.prog 21 := ⟨Try.f21, Try.func21, by kernel_rfl, rfl⟩
theorem en22 : enterable Try.prog 22 := ⟨Try.f22, Try.func22, by kernel_rfl, rfl⟩
theorem en23 : enterable Try.prog 23 := ⟨Try.f23, Try.func23, by kernel_rfl, rfl⟩
theorem en24 : enterable Try.prog 24 := ⟨Try.f24, Try.func24, by kernel_rfl, rfl⟩
theorem en25 : enterable Try.prog 25 := ⟨Try.f25, Try.func25, by kernel_rfl, rfl⟩
theorem en26 : enterable Try.prog 26 := ⟨Try.f26, Try.func26, by kernel_rfl, rfl⟩
theorem en27 : enterable Try.prog 27 := ⟨Try.f27, Try.func27, by kernel_rfl, rfl⟩
theorem en28 : enterable Try.prog 28 := ⟨Try.f28, Try.func28, by kernel_rfl, rfl⟩
theorem en29 : enterable Try.prog 29 := ⟨Try.f29, Try.func29, by kernel_rfl, rfl⟩
theorem en30 : enterable Try.prog 30 := ⟨Try.f30, Try.func30, by kernel_rfl, rfl⟩
theorem en31 : enterable Try.prog 31 := ⟨Try.f31, Try.func31, by kernel_rfl, rfl⟩
theorem en32 : enterable Try.prog 32 := ⟨Try.f32, Try.func32, by kernel_rfl, rfl⟩
theorem en33 : enterable Try.prog 33 := ⟨Try.f33, Try.func33, by kernel_rfl, rfl⟩
theorem en34 : enterable Try.prog 34 := ⟨Try.f34, Try.func34, by kernel_rfl, rfl⟩
theorem en35 : enterable Try.prog 35 := ⟨Try.f35, Try.func35, by kernel_rfl, rfl⟩
theorem en36 : enterable Try.prog 36 := ⟨Try.f36, Try.func36, by kernel_rfl, rfl⟩
theorem en37 : enterable Try.prog 37 := ⟨Try.f37, Try.func37, by kernel_rfl, rfl⟩
theorem en38 : enterable Try.prog 38 := ⟨Try.f38, Try.func38, by kernel_rfl, rfl⟩
theorem en39 : enterable Try.prog 39 := ⟨Try.f39, Try.func39, by kernel_rfl, rfl⟩
theorem en40 : enterable Try.prog 40 := ⟨Try.f40, Try.func40, by kernel_rfl, rfl⟩
theorem en41 : enterable Try.prog 41 := ⟨Try.f41, Try.func41, by kernel_rfl, rfl⟩
theorem en42 : enterable Try.prog 42 := ⟨Try.f42, Try.func42, by kernel_rfl, rfl⟩
theorem en43 : enterable Try.prog 43 := ⟨Try.f43, Try.func43, by kernel_rfl, rfl⟩
theorem en44 : enterable Try.prog 44 := ⟨Try.f44, Try.func44, by kernel_rfl, rfl⟩
theorem en45 : enterable Try.prog 45 := ⟨Try.f45, Try.func45, by kernel_rfl, rfl⟩
theorem en46 : enterable Try.prog 46 := ⟨Try.f46, Try.func46, by kernel_rfl, rfl⟩
theorem en47 : enterable Try.prog 47 := ⟨Try.f47, Try.func47, by kernel_rfl, rfl⟩
theorem en48 : enterable Try.prog 48 := ⟨Try.f48, Try.func48, by kernel_rfl, rfl⟩
theorem en49 : enterable Try.prog 49 := ⟨Try.f49, Try.func49, by kernel_rfl, rfl⟩
theorem en50 : enterable Try.prog 50 := ⟨Try.f50, Try.func50, by kernel_rfl, rfl⟩
theorem en51 : enterable Try.prog 51 := ⟨Try.f51, Try.func51, by kernel_rfl, rfl⟩
theorem en52 : enterable Try.prog 52 := ⟨Try.f52, Try.func52, by kernel_rfl, rfl⟩
theorem en53 : enterable Try.prog 53 := ⟨Try.f53, Try.func53, by kernel_rfl, rfl⟩
theorem en54 : enterable Try.prog 54 := ⟨Try.f54, Try.func54, by kernel_rfl, rfl⟩
theorem en55 : enterable Try.prog 55 := ⟨Try.f55, Try.func55, by kernel_rfl, rfl⟩
theorem en56 : enterable Try.prog 56 := ⟨Try.f56, Try.func56, by kernel_rfl, rfl⟩
theorem en57 : enterable Try.prog 57 := ⟨Try.f57, Try.func57, by kernel_rfl, rfl⟩
theorem en58 : enterable Try.prog 58 := ⟨Try.f58, Try.func58, by kernel_rfl, rfl⟩
theorem en59 : enterable Try.prog 59 := ⟨Try.f59, Try.func59, by kernel_rfl, rfl⟩
theorem wk_law11_con (V : Vw) (Rs : List At) (p0 : Int) (p1 : Int) (ow : Ow V (Rs)) (r : TIns) (h : law11_con p0 p1 = some r) : ∃ v V', Cl Try.prog 0 14 #[.int .i64 p0, .int .i64 p1] V.H v V'.H ∧ V.le V' ∧ (∃ (v1 : Value), v = .agg #[.int .i64 r.op, .int .i64 r.d, .int .i64 r.a, .int .i64 r.b, .int .i64 r.imm, v1, .int .i64 r.what, .bool r.volatile, .bool r.final] ∧ Fz (RT.int .i64) V' v1 r.args ∧ Ow V' (Rs)) := by
 refine Ct.of (Nat.zero_le _) Try.func14 rfl (nr rfl) ?_
 unfold law11_con at h
 refine WP.usreg rfl ?_
 refine O.alloc ow rfl rfl (.inl rfl) rfl ti44 rfl rfl nd (fun b3 V4 le5 ow6 => ?_)
 refine U.done (nr rfl) ?_
 refine WP.usreg rfl ?_
 refine U.p rfl rfl (.inl rfl) (S.move rfl (L 1 rfl rfl)) ?_
 refine U.p rfl rfl (.inl rfl) (S.move rfl (L 3 rfl rfl)) ?_
 refine U.p (v := .agg #[.int .i64 1, .int .i64 p0, .int .i64 (-1), .int .i64 (-1), .int .i64 p1, .slice none 0 0, .int .i64 0, .bool false, .bool false]) rfl rfl (.inl rfl) (S.build (vs := [.int .i64 1, .int .i64 p0, .int .i64 (-1), .int .i64 (-1), .int .i64 p1]) rfl ti44 rfl pl44 (aC K (aC (L 1 rfl rfl) (aC K (aC K (aC (L 0 rfl rfl) aN))))) (allC (by simp [topV]) (allC (by simp [topV]) (allC (by simp [topV]) (allC (by simp [topV]) (allC (by simp [topV]) allN))))) rfl) ?_
 refine O.store (k := 0) (cs := [.int .i64 1, .int .i64 p0, .int .i64 (-1), .int .i64 (-1), .int .i64 p1, .slice none 0 0, .int .i64 0, .bool false, .bool false]) (c' := [.int .i64 1, .int .i64 p0, .int .i64 (-1), .int .i64 (-1), .int .i64 p1, .slice none 0 0, .int .i64 0, .bool false, .bool false]) ow6 rfl rfl rfl (.inl rfl) rfl (L 3 rfl rfl) (L 0 rfl rfl) ti44 (by simp [topV]) rfl rfl (nr rfl) rfl rfl nd (fun V8 le9 ow10 => ?_)
 refine U.done (nr rfl) ?_
 refine WP.ret ?_
 refine fin.cellN (.inr rfl) rfl (L 3 rfl rfl) Try.underlying44 rfl ti44 (ow10.own (k := 0) rfl).get rfl ⟨V8, rfl, (le5.trans le9), ?_⟩
 have ow11 := ow10.drop 0 rfl
 have e12 := Option.some.inj h
 subst e12
 exact ⟨(.slice none 0 0), rfl, Fz.nil, ow11⟩
theorem wk_tidy_fresh (V : Vw) (Rs : List At) (ow : Ow V (Rs)) (r : Ttidy_facts) (h : tidy_fresh = some r) : ∃ v V', Cl Try.prog 0 25 #[] V.H v V'.H ∧ V.le V' ∧ (∃ (b1 : Nat) (z2 : Nat) (v4 : Value) (v6 : Value), v = .pointer (some ⟨b1, 0, none⟩) ∧ Ow V' (.pt b1 (.cells z2 [v4, v6]) :: .om (RT.int .i64) false v4 r.num :: .om (RT.int .i64) false v6 r.same :: Rs)) := by
 refine Ct.of (Nat.zero_le _) Try.func25 rfl (nr rfl) ?_
 unfold tidy_fresh at h
 refine WP.usreg rfl ?_
 refine U.p rfl rfl (.inl rfl) (S.assign rfl K) ?_
 refine U.done (nr rfl) ?_
 refine WP.usreg rfl ?_
 refine O.makeMap (RT.int .i64) false ow rfl rfl (.inl rfl) rfl (fun _ => nd) (fun v8 V9 le10 ow11 => ?_)
 refine O.makeMap (RT.int .i64) false ow11 rfl rfl (.inl rfl) rfl (fun _ => nd) (fun v13 V14 le15 ow16 => ?_)
 refine U.p (v := .agg #[v8, v13]) rfl rfl (.inl rfl) (S.build (vs := [v8, v13]) rfl ti79 rfl pl79 (aC (L 1 rfl rfl) (aC (L 0 rfl rfl) aN)) (allC (ow16.omne (k := 1) rfl) (allC (ow16.omne (k := 0) rfl) allN)) (fill1 rfl (ow16.omcells (k := 1) rfl) (nr rfl) (fill1 rfl (ow16.omcells (k := 0) rfl) (nr rfl) rfl))) ?_
 refine O.box ow16 rfl rfl (.inl rfl) rfl (L 0 rfl rfl) (by simp [topV]) rfl nd (fun b18 V19 le20 ow21 => ?_)
 refine U.p rfl rfl (.inl rfl) (S.assign rfl (L 0 rfl rfl)) ?_
 refine U.done (nr rfl) ?_
 refine WP.ret ?_
 refine fin.slot (.inr rfl) rfl (L 0 rfl rfl) ⟨V19, rfl, ((le10.trans le15).trans le20), ?_⟩
 have ow23 := ow21.pick 1 rfl
 have ow24 := ow23.pick 2 rfl
 have ow25 := ow24.pick 2 rfl
 have e26 := Option.some.inj h
 subst e26
 exact ⟨b18, 0, v8, v13, rfl, ow25⟩
theorem wk_slices_Clone (V : Vw) (Rs : List At) (p0 : List TIns) (v1 : Value) (f2 : Fz RT_TIns V v1 p0) (ow : Ow V (Rs)) (r : List TIns) (h : slices_Clone p0 = some r) : ∃ v V', Cl Try.prog 0 26 #[v1] V.H v V'.H ∧ V.le V' ∧ (∃ (v3 : Value), v = v3 ∧ Ow V' (.os RT_TIns v3 r :: Rs)) := by
 refine Ct.of (Nat.zero_le _) Try.func26 rfl (nr rfl) ?_
 unfold slices_Clone at h
 refine WP.usreg rfl ?_
 refine U.p rfl rfl (.inl rfl) (S.assign rfl K) ?_
 refine U.done (nr rfl) ?_
 refine WP.seq ?_
 refine WP.usreg rfl ?_
 refine U.p rfl rfl (.inl rfl) (S.move rfl (L 1 rfl rfl)) ?_
 refine U.p rfl rfl (.inl rfl) (f2.1.eqNil rfl (L 0 rfl rfl) K Try.underlying36) ?_
 refine U.done (nr rfl) ?_
 refine WP.cond _ (L 0 rfl rfl) rfl (fun c5 => ?_) (fun c5 => ?_)
 ·have hz := (f2.1.nil_of c5)
  have h6 : (some [] : Option _) = some r := by simpa [hz, ap] using h
  refine WP.usreg rfl ?_
  refine U.p rfl rfl (.inl rfl) (S.assign rfl K) ?_
  refine U.done (nr rfl) ?_
  refine WP.ret ?_
  refine sqR ?_
  have ow7 := ow.nil RT_TIns
  refine fin.slot (.inr rfl) rfl (L 0 rfl rfl) ⟨V, rfl, (.refl _), ?_⟩
  have e9 := Option.some.inj h6
  subst e9
  exact ⟨(.slice none 0 0), rfl, ow7⟩
 ·skip
  refine WP.skip ?_
  refine sqN ?_
  refine WP.usreg rfl ?_
  refine O.lit (R := RT_TIns) ow rfl rfl (.inl rfl) rfl Try.underlying36 ti44 rfl rfl rfl (nr rfl) rfl aN .nil (fun _ => nd) (fun v10 V11 le12 ow13 => ?_)
  refine U.p rfl rfl (.inl rfl) (S.move rfl (L 4 rfl rfl)) ?_
  have f15 := f2.up le12
  obtain ⟨xs16, hx17, h18⟩ := bindS h
  refine O.append (k := 0) ow13 rfl rfl rfl (.inl rfl) rfl (L 1 rfl rfl) (L 0 rfl rfl) Try.underlying36 ti44 rfl rfl (nr rfl) (f15.src Try.underlying36) hx17 (fun _ _ => nd) (fun v19 V20 le21 ow22 => ?_)
  refine U.p rfl rfl (.inl rfl) (S.assign rfl (L 0 rfl rfl)) ?_
  refine U.done (nr rfl) ?_
  refine WP.ret ?_
  refine fin.slot (.inr rfl) rfl (L 0 rfl rfl) ⟨V20, rfl, (le12.trans le21), ?_⟩
  have e24 := Option.some.inj h18
  subst e24
  exact ⟨v19, rfl, ow22⟩
theorem wk_tidy_facts_look (V : Vw) (Rs : List At) (p0 : Ttidy_facts) (p1 : Int) (b1 : Nat) (z2 : Nat) (v4 : Value) (v6 : Value) (ow : Ow V (.pt b1 (.cells z2 [v4, v6]) :: .om (RT.int .i64) false v4 p0.num :: .om (RT.int .i64) false v6 p0.same :: Rs)) (r : Int) (h : tidy_facts_look p0 p1 = some r) : ∃ v V', Cl Try.prog 0 41 #[.pointer (some ⟨b1, 0, none⟩), .int .i64 p1] V.H v V'.H ∧ V.le V' ∧ (v = .int .i64 r ∧ Ow V' (.pt b1 (.cells z2 [v4, v6]) :: .om (RT.int .i64) false v4 p0.num :: .om (RT.int .i64) false v6 p0.same :: Rs)) := by
 refine Ct.of (Nat.zero_le _) Try.func41 rfl (nr rfl) ?_
 unfold tidy_facts_look at h
 refine WP.usreg rfl ?_
 refine U.p rfl rfl (.inl rfl) (S.assign rfl K) ?_
 refine U.done (nr rfl) ?_
 refine WP.seq ?_
 refine WP.usreg rfl ?_
 refine U.p rfl rfl (.inl rfl) (S.move rfl (L 1 rfl rfl)) ?_
 refine U.p rfl rfl (.inl rfl) (S.nilCheck rfl (L 0 rfl rfl)) ?_
 refine U.p (v := .pointer (some ⟨b1, 1, none⟩)) rfl rfl (.inl rfl) (S.fieldAddr rfl (L 0 rfl rfl) Try.underlying79 rfl ti56 rfl rfl) ?_
 refine U.k rfl rfl (.inl rfl) (S.load rfl (L 0 rfl rfl) Try.underlying56 rfl ((ow.own (k := 0) rfl).cell rfl)) nd ?_
 refine U.p rfl rfl (.inl rfl) (S.move rfl (L 6 rfl rfl)) ?_
 refine O.lookup2 (k := 2) 0 ow rfl rfl rfl (.inl rfl) rfl (L 1 rfl rfl) (L 0 rfl rfl) Try.underlying56 Try.underlying3 ti3 rfl (cell_vrel rfl) (fun b8 hlt10 => nd) (fun b8 u9 hlt10 hr11 => ?_)
 obtain rfl : u9 = .int .i64 ((mG p0.same p1).getD 0) := (List.cons.inj (vrel_cell hr11)).1
 refine U.p rfl rfl (.inl rfl) (S.move rfl (L 0 rfl rfl)) ?_
 refine U.p rfl rfl (.inl rfl) (S.extract rfl (L 0 rfl rfl) rfl (nr rfl)) ?_
 refine U.p rfl rfl (.inl rfl) (S.extract rfl (L 1 rfl rfl) rfl (nr rfl)) ?_
 refine U.p rfl rfl (.inl rfl) (S.assign rfl (L 1 rfl rfl)) ?_
 refine U.p rfl rfl (.inl rfl) (S.assign rfl (L 1 rfl rfl)) ?_
 refine U.done (nr rfl) ?_
 refine WP.usreg rfl ?_
 refine U.p rfl rfl (.inl rfl) (S.move rfl (L 0 rfl rfl)) ?_
 refine U.p rfl rfl (.inl rfl) (S.move rfl (L 0 rfl rfl)) ?_
 refine U.joinX 5 (fun e H => ∃ (u13 u14 : Value), H = V.H ∧ e = [(20, .bool (((mG p0.same p1).isSome) && (decide (0 ≤ p1)))), (19, u13), (18, u14)]) ?_ ?_
 ·rintro _ _ ⟨u13, u14, rfl, rfl⟩
  refine U.done (nr rfl) ?_
  refine WP.cond _ (L 0 rfl rfl) rfl (fun c18 => ?_) (fun c18 => ?_)
  ·have h19 := ifT c18 h
   refine WP.usreg rfl ?_
   refine U.p rfl rfl (.inl rfl) (S.move rfl (L 6 rfl rfl)) ?_
   refine U.p rfl rfl (.inl rfl) (S.assign rfl (L 0 rfl rfl)) ?_
   refine U.done (nr rfl) ?_
   refine WP.ret ?_
   refine sqR ?_
   refine fin.slot (.inr rfl) rfl (L 0 rfl rfl) ⟨V, rfl, (.refl _), ?_⟩
   have e20 := Option.some.inj h19
   subst e20
   exact ⟨rfl, ow⟩
  ·have h21 := ifF c18 h
   refine WP.skip ?_
   refine sqN ?_
   refine WP.usreg rfl ?_
   refine U.p rfl rfl (.inl rfl) (S.move rfl (L 18 rfl rfl)) ?_
   refine U.p rfl rfl (.inl rfl) (S.assign rfl (L 0 rfl rfl)) ?_
   refine U.done (nr rfl) ?_
   refine WP.ret ?_
   refine fin.slot (.inr rfl) rfl (L 0 rfl rfl) ⟨V, rfl, (.refl _), ?_⟩
   have e22 := Option.some.inj h21
   subst e22
   exact ⟨rfl, ow⟩
 ·intro kk
  refine bcase (b := (mG p0.same p1).isSome) (fun g23 => ?_) (fun g23 => ?_)
  ·skip
   refine U.p rfl rfl (.inr ⟨_, _, _, rfl, rfl, ((L 0 rfl rfl).trans (cB g23))⟩) (S.move rfl (L 15 rfl rfl)) ?_
   refine U.p rfl rfl (.inr ⟨_, _, _, rfl, rfl, ((L 1 rfl rfl).trans (cB g23))⟩) (S.geq rfl (L 0 rfl rfl) K) ?_
   refine U.p rfl rfl (.inl rfl) (S.pickT rfl ((L 2 rfl rfl).trans (cB g23)) (L 0 rfl rfl)) ?_
   exact kk [(20, .bool (decide (0 ≤ p1))), (19, .bool (decide (0 ≤ p1))), (18, .int .i64 p1)] _ ⟨.bool (decide (0 ≤ p1)), .int .i64 p1, rfl, (by rw [g23, Bool.true_and])⟩
  ·skip
   refine U.x rfl rfl rfl rfl ((L 0 rfl rfl).trans (cB g23)) (by decide) ?_
   refine U.x rfl rfl rfl rfl ((L 1 rfl rfl).trans (cB g23)) (by decide) ?_
   refine U.p rfl rfl (.inl rfl) (S.pickF rfl ((L 2 rfl rfl).trans (cB g23)) K) ?_
   exact kk [(20, .bool false), (19, .tuple #[]), (18, .tuple #[])] _ ⟨.tuple #[], .tuple #[], rfl, (by rw [g23, Bool.false_and])⟩
theorem wk_slices_Clone_2 (V : Vw) (Rs : List At) (p0 : List Int) (v1 : Value) (f2 : Fz (RT.int .i64) V v1 p0) (ow : Ow V (Rs)) (r : List Int) (h : slices_Clone_2 p0 = some r) : ∃ v V', Cl Try.prog 0 16 #[v1] V.H v V'.H ∧ V.le V' ∧ (∃ (v3 : Value), v = v3 ∧ Ow V' (.os (RT.int .i64) v3 r :: Rs)) := by
 refine Ct.of (Nat.zero_le _) Try.func16 rfl (nr rfl) ?_
 unfold slices_Clone_2 at h
 refine WP.usreg rfl ?_
 refine U.p rfl rfl (.inl rfl) (S.assign rfl K) ?_
 refine U.done (nr rfl) ?_
 refine WP.seq ?_
 refine WP.usreg rfl ?_
 refine U.p rfl rfl (.inl rfl) (S.move rfl (L 1 rfl rfl)) ?_
 refine U.p rfl rfl (.inl rfl) (f2.1.eqNil rfl (L 0 rfl rfl) K Try.underlying23) ?_
 refine U.done (nr rfl) ?_
 refine WP.cond _ (L 0 rfl rfl) rfl (fun c5 => ?_) (fun c5 => ?_)
 ·have hz := (f2.1.nil_of c5)
  have h6 : (some [] : Option _) = some r := by simpa [hz, ap] using h
  refine WP.usreg rfl ?_
  refine U.p rfl rfl (.inl rfl) (S.assign rfl K) ?_
  refine U.done (nr rfl) ?_
  refine WP.ret ?_
  refine sqR ?_
  have ow7 := ow.nil (RT.int .i64)
  refine fin.slot (.inr rfl) rfl (L 0 rfl rfl) ⟨V, rfl, (.refl _), ?_⟩
  have e9 := Option.some.inj h6
  subst e9
  exact ⟨(.slice none 0 0), rfl, ow7⟩
 ·skip
  refine WP.skip ?_
  refine sqN ?_
  refine WP.usreg rfl ?_
  refine O.lit (R := (RT.int .i64)) ow rfl rfl (.inl rfl) rfl Try.underlying23 ti3 rfl rfl rfl (nr rfl) rfl aN .nil (fun _ => nd) (fun v10 V11 le12 ow13 => ?_)
  refine U.p rfl rfl (.inl rfl) (S.move rfl (L 4 rfl rfl)) ?_
  have f15 := f2.up le12
  obtain ⟨xs16, hx17, h18⟩ := bindS h
  refine O.append (k := 0) ow13 rfl rfl rfl (.inl rfl) rfl (L 1 rfl rfl) (L 0 rfl rfl) Try.underlying23 ti3 rfl rfl (nr rfl) (f15.src Try.underlying23) hx17 (fun _ _ => nd) (fun v19 V20 le21 ow22 => ?_)
  refine U.p rfl rfl (.inl rfl) (S.assign rfl (L 0 rfl rfl)) ?_
  refine U.done (nr rfl) ?_
  refine WP.ret ?_
  refine fin.slot (.inr rfl) rfl (L 0 rfl rfl) ⟨V20, rfl, (le12.trans le21), ?_⟩
  have e24 := Option.some.inj h18
  subst e24
  exact ⟨v19, rfl, ow22⟩
theorem wk_tidy_facts_renamed (V : Vw) (Rs : List At) (p0 : Ttidy_facts) (p1 : TIns) (b1 : Nat) (z2 : Nat) (v4 : Value) (v6 : Value) (v8 : Value) (f9 : Fz (RT.int .i64) V v8 p1.args) (ow : Ow V (.pt b1 (.cells z2 [v4, v6]) :: .om (RT.int .i64) false v4 p0.num :: .om (RT.int .i64) false v6 p0.same :: Rs)) (r : TIns) (h : tidy_facts_renamed p0 p1 = some r) : ∃ v V', Cl Try.prog 0 27 #[.pointer (some ⟨b1, 0, none⟩), .agg #[.int .i64 p1.op, .int .i64 p1.d, .int .i64 p1.a, .int .i64 p1.b, .int .i64 p1.imm, v8, .int .i64 p1.what, .bool p1.volatile, .bool p1.final]] V.H v V'.H ∧ V.le V' ∧ (∃ (v10 : Value), v = .agg #[.int .i64 r.op, .int .i64 r.d, .int .i64 r.a, .int .i64 r.b, .int .i64 r.imm, v10, .int .i64 r.what, .bool r.volatile, .bool r.final] ∧ Fz (RT.int .i64) V' v10 r.args ∧ Ow V' (.pt b1 (.cells z2 [v4, v6]) :: .om (RT.int .i64) false v4 p0.num :: .om (RT.int .i64) false v6 p0.same :: Rs)) := by
 refine Ct.of (Nat.zero_le _) Try.func27 rfl (nr rfl) ?_
 unfold tidy_facts_renamed at h
 refine WP.usreg rfl ?_
 refine O.box ow rfl rfl (.inl rfl) rfl (L 1 rfl rfl) (by simp [topV]) rfl nd (fun b12 V13 le14 ow15 => ?_)
 refine O.alloc ow15 rfl rfl (.inl rfl) rfl ti44 rfl rfl nd (fun b17 V18 le19 ow20 => ?_)
 refine U.done (nr rfl) ?_
 refine WP.usdreg rfl rfl rfl ?_
 refine U.p rfl rfl (.inl rfl) (S.move rfl (L 2 rfl rfl)) ?_
 refine U.p (v := .pointer (some ⟨b12, 2, none⟩)) rfl rfl (.inl rfl) (S.fieldAddr rfl (L 2 rfl rfl) Try.underlying44 rfl ti3 rfl rfl) ?_
 refine U.k rfl rfl (.inl rfl) (S.load rfl (L 0 rfl rfl) Try.underlying3 rfl ((ow20.own (k := 1) rfl).cell rfl)) (fun _ => (okH.nil (fun r h => by cases h; exact (ow20.own (k := 1) rfl).lt))) ?_
 have ow22 := ow20.pick 4 rfl
 have ow23 := ow22.pick 4 rfl
 have ow24 := ow23.pick 4 rfl
 obtain ⟨x25, hx26, h27⟩ := bindS h
 refine O.call (V := V18) rfl rfl (.inl rfl) rfl en41 (aC (L 2 rfl rfl) (aC (L 0 rfl rfl) aN)) (wk_tidy_facts_look V18 _ p0 p1.a b1 z2 v4 v6 ow24 _ hx26) (fun v28 V29 le30 hp31 => by obtain ⟨rfl, ow32⟩ := hp31; exact (fun _ => (okH.cons (Or.inl rfl) (okH.nil (fun r h => nomatch h))))) (fun v28 V29 le30 hp31 => ?_)
 obtain ⟨rfl, ow32⟩ := hp31
 refine U.p rfl rfl (.inl rfl) (S.move rfl (L 6 rfl rfl)) ?_
 refine U.p (v := .pointer (some ⟨b12, 3, none⟩)) rfl rfl (.inl rfl) (S.fieldAddr rfl (L 6 rfl rfl) Try.underlying44 rfl ti3 rfl rfl) ?_
 refine U.k rfl rfl (.inl rfl) (S.load rfl (L 0 rfl rfl) Try.underlying3 rfl ((ow32.own (k := 4) rfl).cell rfl)) (fun _ => (okH.cons (Or.inr (Or.inl ((ow32.own (k := 4) rfl).get.trans (ow24.own (k := 4) rfl).get.symm))) (okH.cons trivial (okH.nil (fun r h => by cases h; exact (ow32.own (k := 4) rfl).lt))))) ?_
 have ow33 := ow32.pick 2 rfl
 have ow34 := ow33.pick 2 rfl
 have ow35 := ow34.pick 2 rfl
 obtain ⟨x36, hx37, h38⟩ := bindS h27
 refine O.call (V := V29) rfl rfl (.inl rfl) rfl en41 (aC (L 2 rfl rfl) (aC (L 0 rfl rfl) aN)) (wk_tidy_facts_look V29 _ p0 p1.b b1 z2 v4 v6 ow35 _ hx37) (fun v39 V40 le41 hp42 => by obtain ⟨rfl, ow43⟩ := hp42; exact (fun _ => (okH.cons (Or.inl rfl) (okH.cons rfl (okH.cons (Or.inl rfl) (okH.nil (fun r h => nomatch h))))))) (fun v39 V40 le41 hp42 => ?_)
 obtain ⟨rfl, ow43⟩ := hp42
 refine U.p (v := .pointer (some ⟨b12, 2, none⟩)) rfl rfl (.inl rfl) (S.fieldAddr rfl (L 9 rfl rfl) Try.underlying44 rfl ti3 rfl rfl) ?_
 refine O.store (k := 4) (cs := [.int .i64 x25]) (c' := [.int .i64 p1.op, .int .i64 p1.d, .int .i64 x25, .int .i64 p1.b, .int .i64 p1.imm, v8, .int .i64 p1.what, .bool p1.volatile, .bool p1.final]) ow43 rfl rfl rfl (.inl rfl) rfl (L 0 rfl rfl) (L 5 rfl rfl) ti3 (by simp [topV]) rfl rfl (nr rfl) rfl rfl (fun _ => (okH.cons rfl (okH.cons (Or.inl rfl) (okH.cons rfl (okH.cons (Or.inl rfl) (okH.nil (fun r h => nomatch h))))))) (fun V44 le45 ow46 => ?_)
 refine U.p (v := .pointer (some ⟨b12, 3, none⟩)) rfl rfl (.inl rfl) (S.fieldAddr rfl (L 10 rfl rfl) Try.underlying44 rfl ti3 rfl rfl) ?_
 refine O.store (k := 4) (cs := [.int .i64 x36]) (c' := [.int .i64 p1.op, .int .i64 p1.d, .int .i64 x25, .int .i64 x36, .int .i64 p1.imm, v8, .int .i64 p1.what, .bool p1.volatile, .bool p1.final]) ow46 rfl rfl rfl (.inl rfl) rfl (L 0 rfl rfl) (L 2 rfl rfl) ti3 (by simp [topV]) rfl rfl (nr rfl) rfl rfl (fun _ => (okH.cons rfl (okH.cons rfl (okH.cons (Or.inl rfl) (okH.cons rfl (okH.cons (Or.inl rfl) (okH.nil (fun r h => nomatch h)))))))) (fun V47 le48 ow49 => ?_)
 refine U.done (nr rfl) ?_
 refine WP.usreg rfl ?_
 refine U.p (v := .pointer (some ⟨b12, 5, none⟩)) rfl rfl (.inl rfl) (S.fieldAddr rfl (L 11 rfl rfl) Try.underlying44 rfl ti23 rfl rfl) ?_
 refine U.k rfl rfl (.inl rfl) (S.load rfl (L 0 rfl rfl) Try.underlying23 rfl ((ow49.own (k := 4) rfl).cell rfl)) nd ?_
 have f50 := f9.up (((((le14.trans le19).trans le30).trans le41).trans le45).trans le48)
 obtain ⟨x51, hx52, h53⟩ := bindS h38
 refine O.call (V := V47) rfl rfl (.inl rfl) rfl en16 (aC (L 0 rfl rfl) aN) (wk_slices_Clone_2 V47 _ p1.args v8 f50 ow49 _ hx52) (fun _ _ _ _ => nd) (fun v54 V55 le56 hp57 => ?_)
 obtain ⟨_, rfl, ow58⟩ := hp57
 refine U.p (v := .pointer (some ⟨b12, 5, none⟩)) rfl rfl (.inl rfl) (S.fieldAddr rfl (L 14 rfl rfl) Try.underlying44 rfl ti23 rfl rfl) ?_
 refine O.store (k := 5) (cs := [v54]) (c' := [.int .i64 p1.op, .int .i64 p1.d, .int .i64 x25, .int .i64 x36, .int .i64 p1.imm, v54, .int .i64 p1.what, .bool p1.volatile, .bool p1.final]) ow58 rfl rfl rfl (.inl rfl) rfl (L 0 rfl rfl) (L 1 rfl rfl) ti23 (ow58.osne (k := 0) rfl) (by rw [ow58.oscells (k := 0) rfl]) rfl (nr rfl) (by have q0 := (ow58.osone (k := 0) rfl); simp only [List.all_cons, List.all_nil, q0]; rfl) rfl nd (fun V61 le62 ow63 => ?_)
 refine U.done (nr rfl) ?_
 refine WP.seq ?_
 refine WP.usreg rfl ?_
 refine U.p (v := .pointer (some ⟨b12, 5, none⟩)) rfl rfl (.inl rfl) (S.fieldAddr rfl (L 15 rfl rfl) Try.underlying44 rfl ti23 rfl rfl) ?_
 refine U.k rfl rfl (.inl rfl) (S.load rfl (L 0 rfl rfl) Try.underlying23 rfl ((ow63.own (k := 5) rfl).cell rfl)) nd ?_
 refine U.p rfl rfl (.inl rfl) (ow63.oslen (k := 0) rfl rfl (L 0 rfl rfl) Try.underlying23) ?_
 refine U.p rfl rfl (.inl rfl) (S.move rfl K) ?_
 refine U.done (nr rfl) ?_
 refine WP.blk ?_
 have ow66 := ow63.pick 4 rfl
 have ow67 := ow66.pick 1 rfl
 have ow68 := ow67.pick 5 rfl
 have ow69 := ow68.pick 5 rfl
 have ow70 := ow69.pick 5 rfl
 have ow71 := ow70.pick 5 rfl
 unfold tidy_facts_renamed_l1 at h53
 obtain ⟨n73, hn72⟩ := loopO_some.1 h53
 refine WP.loopI2 (fun n l V' => ∃ (xs64 : List Int) (x65 : Int), l = [(0, .pointer (some ⟨b1, 0, none⟩)), (3, .pointer (some ⟨b12, 0, none⟩)), (4, .pointer (some ⟨b17, 0, none⟩)), (22, v54), (23, .int .i64 (x51.length : Int)), (24, .int .i64 x65)] ∧ V61.le V' ∧ Ow V' (.pt b1 (.cells z2 [v4, v6]) :: .om (RT.int .i64) false v4 p0.num :: .om (RT.int .i64) false v6 p0.same :: .pt b12 (.cells 0 [.int .i64 p1.op, .int .i64 p1.d, .int .i64 x25, .int .i64 x36, .int .i64 p1.imm, v54, .int .i64 p1.what, .bool p1.volatile, .bool p1.final]) :: .os (RT.int .i64) v54 xs64 :: .pt b17 (.cells 9 [.int .i64 0, .int .i64 0, .int .i64 0, .int .i64 0, .int .i64 0, .slice none 0 0, .int .i64 0, .bool false, .bool false]) :: Rs) ∧ itO (fun s => tidy_facts_renamed_l1b p0 p1 x25 x36 x51 s.1 s.2) n (xs64, x65) = some r) n73 _ ⟨x51, 0, rfl, .refl _, ow71, hn72⟩ (allCons (L 20 rfl rfl) (allCons (L 19 rfl rfl) (allCons (L 18 rfl rfl) (allCons (L 2 rfl rfl) (allCons (L 1 rfl rfl) (allCons (L 0 rfl rfl) allNil)))))) ?_
 rintro _ _ V74 ⟨xs64, x65, rfl, le75, ow76, h80⟩
 obtain ⟨m77, q78, rfl, h81, e79⟩ := itS h80
 replace h81 : tidy_facts_renamed_l1b p0 p1 x25 x36 x51 xs64 x65 = some q78 := h81
 unfold tidy_facts_renamed_l1b at h81
 refine WP.usreg rfl ?_
 refine U.p rfl rfl (.inl rfl) (S.lss rfl (L 5 rfl rfl) (L 4 rfl rfl)) ?_
 refine U.done (nr rfl) ?_
 refine WP.seq ?_
 refine WP.cond _ (L 0 rfl rfl) rfl (fun c82 => ?_) (fun c82 => ?_)
 ·have h83 := ifT c82 h81
  refine WP.skip ?_
  refine sqN ?_
  refine WP.seq ?_
  refine WP.blk ?_
  refine WP.usreg rfl ?_
  refine U.p rfl rfl (.inl rfl) (S.move rfl (L 6 rfl rfl)) ?_
  obtain ⟨x84, hx85, h86⟩ := bindS h83
  obtain ⟨b87, o88, n89, c90, hv91⟩ := ow76.ospt (k := 4) rfl hx85
  obtain ⟨_, hv92, _⟩ := ow76.osel (k := 4) rfl hv91 hx85
  refine U.p rfl rfl (.inl rfl) (S.index rfl ((L 5 rfl rfl).trans hv92) (L 7 rfl rfl) Try.underlying23 ti3 (ix_ge hx85) (ix_lt hx85)) ?_
  obtain ⟨cs93, hv94, hlt95, hr96, hc97⟩ := ow76.osel (k := 4) rfl hv91 hx85
  obtain rfl : cs93 = [.int .i64 x84] := hr96
  refine U.k rfl rfl (.inl rfl) (S.load rfl (L 0 rfl rfl) Try.underlying3 rfl (hc97 0 _ rfl)) nd ?_
  refine U.p rfl rfl (.inl rfl) (S.assign rfl (L 2 rfl rfl)) ?_
  refine U.p rfl rfl (.inl rfl) (S.assign rfl (L 1 rfl rfl)) ?_
  refine U.done (nr rfl) ?_
  refine WP.udreg rfl rfl rfl ?_
  refine U.p (v := .pointer (some ⟨b12, 5, none⟩)) rfl rfl (.inl rfl) (S.fieldAddr rfl (L 7 rfl rfl) Try.underlying44 rfl ti23 rfl rfl) ?_
  refine U.k rfl rfl (.inl rfl) (S.load rfl (L 0 rfl rfl) Try.underlying23 rfl ((ow76.own (k := 3) rfl).cell rfl)) (fun _ => (okH.nil (fun r h => by cases h; exact (ow76.own (k := 3) rfl).lt))) ?_
  refine U.p rfl rfl (.inl rfl) (S.move rfl (L 3 rfl rfl)) ?_
  refine U.p rfl rfl (.inl rfl) (S.move rfl (L 9 rfl rfl)) ?_
  refine U.p rfl rfl (.inl rfl) (S.move rfl (L 4 rfl rfl)) ?_
  have ow98 := ow76.pick 2 rfl
  have ow99 := ow98.pick 2 rfl
  have ow100 := ow99.pick 2 rfl
  obtain ⟨x101, hx102, h103⟩ := bindS h86
  refine O.call (V := V74) rfl rfl (.inl rfl) rfl en41 (aC (L 1 rfl rfl) (aC (L 0 rfl rfl) aN)) (wk_tidy_facts_look V74 _ p0 x84 b1 z2 v4 v6 ow100 _ hx102) (fun v104 V105 le106 hp107 => by obtain ⟨rfl, ow108⟩ := hp107; exact (fun _ => (okH.cons (Or.inr (((ow108.own (k := 3) rfl).get.trans (ow100.own (k := 3) rfl).get.symm))) (okH.nil (fun r h => nomatch h))))) (fun v104 V105 le106 hp107 => ?_)
  obtain ⟨rfl, ow108⟩ := hp107
  obtain ⟨x109, hx110, h111⟩ := bindS h103
  obtain ⟨_, hv112, _⟩ := ow108.osel (k := 4) rfl hv91 hx110
  refine U.p rfl rfl (.inl rfl) (S.index rfl ((L 4 rfl rfl).trans hv112) (L 3 rfl rfl) Try.underlying23 ti3 (ix_ge hx110) (ix_lt hx110)) ?_
  obtain ⟨cs113, hv114, hlt115, hr116, hc117⟩ := ow108.osel (k := 4) rfl hv91 hx110
  obtain rfl : cs113 = [.int .i64 x109] := hr116
  refine O.storeE (k := 4) (R := (RT.int .i64)) (j := 0) (y := x101) (cs := [.int .i64 x101]) ow108 rfl hv114 rfl rfl (.inl rfl) rfl (L 0 rfl rfl) (L 1 rfl rfl) ti3 hx110 (by simp [topV]) rfl rfl rfl (full rfl) (fun H1 hs => (fun _ => (okH.cons rfl (okH.cons (Or.inl rfl) (okH.nil (fun r h => nomatch h)))))) (fun V118 le119 ow120 => ?_)
  refine U.done (nr rfl) ?_
  refine blkN (sqN ?_)
  refine WP.ureg rfl ?_
  refine U.p rfl rfl (.inl rfl) (S.add rfl (L 18 rfl rfl) K) ?_
  refine U.p rfl rfl (.inl rfl) (S.move rfl (L 0 rfl rfl)) ?_
  refine U.done (nr rfl) ?_
  refine sqN ?_
  exact ⟨_, V118, rfl, ⟨m77, Nat.lt_succ_self _, xs64.set (Int.toNat x65) x101, w64 (x65 + 1), rfl, ((le75.trans le106).trans le119), ow120, backS h111 e79⟩, (allCons (L 15 rfl rfl) (allCons (L 16 rfl rfl) (allCons (L 17 rfl rfl) (allCons (L 18 rfl rfl) (allCons (L 19 rfl rfl) (allCons (L 0 rfl rfl) allNil))))))⟩
 ·have h121 := ifF c82 h81
  refine WP.exit ?_
  refine sqE (sqE (blkE (sqN ?_)))
  have h122 := exitS h121 e79
  refine WP.usreg rfl ?_
  refine U.k rfl rfl (.inl rfl) (S.loadB rfl (L 2 rfl rfl) Try.underlying44 rfl ti44 (ow76.own (k := 3) rfl).get rfl) nd ?_
  refine O.store (k := 5) (cs := [.int .i64 p1.op, .int .i64 p1.d, .int .i64 x25, .int .i64 x36, .int .i64 p1.imm, v54, .int .i64 p1.what, .bool p1.volatile, .bool p1.final]) (c' := [.int .i64 p1.op, .int .i64 p1.d, .int .i64 x25, .int .i64 x36, .int .i64 p1.imm, v54, .int .i64 p1.what, .bool p1.volatile, .bool p1.final]) ow76 rfl rfl rfl (.inl rfl) rfl (L 4 rfl rfl) (L 0 rfl rfl) ti44 (by simp [topV]) rfl rfl (nr rfl) (by have q0 := (ow76.osone (k := 4) rfl); simp only [List.all_cons, List.all_nil, q0]; rfl) rfl nd (fun V123 le124 ow125 => ?_)
  refine U.done (nr rfl) ?_
  refine WP.ret ?_
  obtain ⟨V126, eV130, le127, f128, ow129⟩ := ow125.osfz (k := 4) rfl
  rw [← eV130]
  refine fin.cellN (.inr rfl) rfl (L 4 rfl rfl) Try.underlying44 rfl ti44 (ow129.own (k := 4) rfl).get rfl ⟨V126, rfl, ((((((((((le14.trans le19).trans le30).trans le41).trans le45).trans le48).trans le56).trans le62).trans le75).trans le124).trans le127), ?_⟩
  have ow132 := ow129.drop 3 rfl
  have ow133 := ow132.drop 3 rfl
  have e134 := Option.some.inj h122
  subst e134
  exact ⟨v54, rfl, f128, ow133⟩
theorem wk_tidy_small (V : Vw) (Rs : List At) (p0 : Int) (ow : Ow V (Rs)) (r : Bool) (h : tidy_small p0 = some r) : ∃ v V', Cl Try.prog 0 42 #[.int .i64 p0] V.H v V'.H ∧ V.le V' ∧ (v = .bool r ∧ Ow V' (Rs)) := by
 refine Ct.of (Nat.zero_le _) Try.func42 rfl (nr rfl) ?_
 unfold tidy_small at h
 refine WP.usreg rfl ?_
 refine U.p rfl rfl (.inl rfl) (S.assign rfl K) ?_
 refine U.done (nr rfl) ?_
 refine WP.usreg rfl ?_
 refine U.p rfl rfl (.inl rfl) (S.move rfl (L 1 rfl rfl)) ?_
 refine U.p rfl rfl (.inl rfl) (S.geq rfl (L 0 rfl rfl) K) ?_
 refine U.p rfl rfl (.inl rfl) (S.move rfl (L 0 rfl rfl)) ?_
 refine U.joinX 6 (fun e H => ∃ (u1 u2 : Value), H = V.H ∧ e = [(8, .bool ((decide ((-32768) ≤ p0)) && (decide (p0 ≤ 32767)))), (7, u1), (6, u2)]) ?_ ?_
 ·rintro _ _ ⟨u1, u2, rfl, rfl⟩
  refine U.p rfl rfl (.inl rfl) (S.assign rfl (L 0 rfl rfl)) ?_
  refine U.done (nr rfl) ?_
  refine WP.ret ?_
  refine fin.slot (.inr rfl) rfl (L 0 rfl rfl) ⟨V, rfl, (.refl _), ?_⟩
  have e6 := Option.some.inj h
  subst e6
  exact ⟨rfl, ow⟩
 ·intro kk
  refine bcase (b := decide ((-32768) ≤ p0)) (fun g7 => ?_) (fun g7 => ?_)
  ·skip
   refine U.p rfl rfl (.inr ⟨_, _, _, rfl, rfl, ((L 0 rfl rfl).trans (cB g7))⟩) (S.move rfl (L 4 rfl rfl)) ?_
   refine U.p rfl rfl (.inr ⟨_, _, _, rfl, rfl, ((L 1 rfl rfl).trans (cB g7))⟩) (S.leq rfl (L 0 rfl rfl) K) ?_
   refine U.p rfl rfl (.inl rfl) (S.pickT rfl ((L 2 rfl rfl).trans (cB g7)) (L 0 rfl rfl)) ?_
   exact kk [(8, .bool (decide (p0 ≤ 32767))), (7, .bool (decide (p0 ≤ 32767))), (6, .int .i64 p0)] _ ⟨.bool (decide (p0 ≤ 32767)), .int .i64 p0, rfl, (by rw [g7, Bool.true_and])⟩
  ·skip
   refine U.x rfl rfl rfl rfl ((L 0 rfl rfl).trans (cB g7)) (by decide) ?_
   refine U.x rfl rfl rfl rfl ((L 1 rfl rfl).trans (cB g7)) (by decide) ?_
   refine U.p rfl rfl (.inl rfl) (S.pickF rfl ((L 2 rfl rfl).trans (cB g7)) K) ?_
   exact kk [(8, .bool false), (7, .tuple #[]), (6, .tuple #[])] _ ⟨.tuple #[], .tuple #[], rfl, (by rw [g7, Bool.false_and])⟩
theorem wk_tidy_reckon (V : Vw) (Rs : List At) (p0 : Int) (p1 : Int) (p2 : Int) (ow : Ow V (Rs)) (r : Int × Bool) (h : tidy_reckon p0 p1 p2 = some r) : ∃ v V', Cl Try.prog 0 43 #[.int .i64 p0, .int .i64 p1, .int .i64 p2] V.H v V'.H ∧ V.le V' ∧ (v = .tuple #[.int .i64 r.1, .bool r.2] ∧ Ow V' (Rs)) := by
 refine Ct.of (Nat.zero_le _) Try.func43 rfl (nr rfl) ?_
 unfold tidy_reckon at h
 refine WP.usreg rfl ?_
 refine U.p rfl rfl (.inl rfl) (S.assign rfl K) ?_
 refine U.p rfl rfl (.inl rfl) (S.assign rfl K) ?_
 refine U.done (nr rfl) ?_
 refine WP.usreg rfl ?_
 refine U.p rfl rfl (.inl rfl) (S.assign rfl K) ?_
 refine U.done (nr rfl) ?_
 refine WP.seqI (fun l V' => ∃ (x1 : Bool), l = [(8, .bool x1)] ∧ V.le V' ∧ Ow V' (Rs) ∧ tidy_reckon_k1 x1 = some r) ?_ ?_
 ·rintro _ V2 ⟨x1, rfl, le3, ow4, h5⟩
  unfold tidy_reckon_k1 at h5
  refine WP.seq ?_
  refine WP.usreg rfl ?_
  refine U.p rfl rfl (.inl rfl) (S.move rfl (L 0 rfl rfl)) ?_
  refine U.done (nr rfl) ?_
  refine WP.cond _ (L 0 rfl rfl) rfl (fun c6 => ?_) (fun c6 => ?_)
  ·have h7 := ifT c6 h5
   refine WP.usreg rfl ?_
   refine U.p rfl rfl (.inl rfl) (S.assign rfl K) ?_
   refine U.p rfl rfl (.inl rfl) (S.assign rfl K) ?_
   refine U.done (nr rfl) ?_
   refine WP.ret ?_
   refine sqR ?_
   refine fin.slots' (.inr rfl) (fsC (L 1 rfl rfl) (fsC (L 0 rfl rfl) fsN)) rfl ⟨V2, rfl, le3, ?_⟩
   have e8 := Option.some.inj h7
   subst e8
   exact ⟨rfl, ow4⟩
  ·have h9 := ifF c6 h5
   refine WP.skip ?_
   refine sqN ?_
   refine WP.usreg rfl ?_
   refine U.p rfl rfl (.inl rfl) (S.assign rfl K) ?_
   refine U.p rfl rfl (.inl rfl) (S.assign rfl K) ?_
   refine U.done (nr rfl) ?_
   refine WP.ret ?_
   refine fin.slots' (.inr rfl) (fsC (L 1 rfl rfl) (fsC (L 0 rfl rfl) fsN)) rfl ⟨V2, rfl, le3, ?_⟩
   have e10 := Option.some.inj h9
   subst e10
   exact ⟨rfl, ow4⟩
 ·skip
  refine WP.usreg rfl ?_
  refine U.p rfl rfl (.inl rfl) (S.move rfl (L 3 rfl rfl)) ?_
  refine U.done (nr rfl) ?_
  refine WP.blk ?_
  refine WP.usreg rfl ?_
  refine U.p rfl rfl (.inl rfl) (S.eqlI rfl (L 0 rfl rfl) K) ?_
  refine U.p rfl rfl (.inl rfl) (S.assign rfl (L 0 rfl rfl)) ?_
  refine U.done (nr rfl) ?_
  refine WP.cond _ (L 0 rfl rfl) rfl (fun c11 => ?_) (fun c11 => ?_)
  ·have h12 := ifT c11 h
   refine WP.usreg rfl ?_
   refine U.p rfl rfl (.inl rfl) (S.move rfl (L 7 rfl rfl)) ?_
   refine U.p rfl rfl (.inl rfl) (S.move rfl (L 9 rfl rfl)) ?_
   refine U.p rfl rfl (.inl rfl) (S.add rfl (L 1 rfl rfl) (L 0 rfl rfl)) ?_
   refine U.p rfl rfl (.inl rfl) (S.assign rfl (L 0 rfl rfl)) ?_
   refine U.p rfl rfl (.inl rfl) (S.assign rfl K) ?_
   refine U.done (nr rfl) ?_
   refine WP.ret ?_
   refine blkR (sqR ?_)
   refine fin.slots' (.inr rfl) (fsC (L 1 rfl rfl) (fsC (L 0 rfl rfl) fsN)) rfl ⟨V, rfl, (.refl _), ?_⟩
   have e13 := Option.some.inj h12
   subst e13
   exact ⟨rfl, ow⟩
  ·have h14 := ifF c11 h
   refine WP.usreg rfl ?_
   refine U.p rfl rfl (.inl rfl) (S.eqlI rfl (L 2 rfl rfl) K) ?_
   refine U.p rfl rfl (.inl rfl) (S.assign rfl (L 0 rfl rfl)) ?_
   refine U.done (nr rfl) ?_
   refine WP.cond _ (L 0 rfl rfl) rfl (fun c15 => ?_) (fun c15 => ?_)
   ·have h16 := ifT c15 h14
    refine WP.usreg rfl ?_
    refine U.p rfl rfl (.inl rfl) (S.move rfl (L 9 rfl rfl)) ?_
    refine U.p rfl rfl (.inl rfl) (S.move rfl (L 11 rfl rfl)) ?_
    refine U.p rfl rfl (.inl rfl) (S.sub rfl (L 1 rfl rfl) (L 0 rfl rfl)) ?_
    refine U.p rfl rfl (.inl rfl) (S.assign rfl (L 0 rfl rfl)) ?_
    refine U.p rfl rfl (.inl rfl) (S.assign rfl K) ?_
    refine U.done (nr rfl) ?_
    refine WP.ret ?_
    refine blkR (sqR ?_)
    refine fin.slots' (.inr rfl) (fsC (L 1 rfl rfl) (fsC (L 0 rfl rfl) fsN)) rfl ⟨V, rfl, (.refl _), ?_⟩
    have e17 := Option.some.inj h16
    subst e17
    exact ⟨rfl, ow⟩
   ·have h18 := ifF c15 h14
    refine WP.usreg rfl ?_
    refine U.p rfl rfl (.inl rfl) (S.eqlI rfl (L 4 rfl rfl) K) ?_
    refine U.p rfl rfl (.inl rfl) (S.assign rfl (L 0 rfl rfl)) ?_
    refine U.done (nr rfl) ?_
    refine WP.cond _ (L 0 rfl rfl) rfl (fun c19 => ?_) (fun c19 => ?_)
    ·have h20 := ifT c19 h18
     refine WP.usreg rfl ?_
     refine U.p rfl rfl (.inl rfl) (S.move rfl (L 11 rfl rfl)) ?_
     refine U.p rfl rfl (.inl rfl) (S.move rfl (L 13 rfl rfl)) ?_
     refine U.p rfl rfl (.inl rfl) (S.mul rfl (L 1 rfl rfl) (L 0 rfl rfl)) ?_
     refine U.p rfl rfl (.inl rfl) (S.assign rfl (L 0 rfl rfl)) ?_
     refine U.p rfl rfl (.inl rfl) (S.assign rfl K) ?_
     refine U.done (nr rfl) ?_
     refine WP.ret ?_
     refine blkR (sqR ?_)
     refine fin.slots' (.inr rfl) (fsC (L 1 rfl rfl) (fsC (L 0 rfl rfl) fsN)) rfl ⟨V, rfl, (.refl _), ?_⟩
     have e21 := Option.some.inj h20
     subst e21
     exact ⟨rfl, ow⟩
    ·have h22 := ifF c19 h18
     refine WP.usreg rfl ?_
     refine U.p rfl rfl (.inl rfl) (S.eqlI rfl (L 6 rfl rfl) K) ?_
     refine U.p rfl rfl (.inl rfl) (S.assign rfl (L 0 rfl rfl)) ?_
     refine U.done (nr rfl) ?_
     refine WP.cond _ (L 0 rfl rfl) rfl (fun c23 => ?_) (fun c23 => ?_)
     ·have h24 := ifT c23 h22
      refine WP.ureg rfl ?_
      refine U.p rfl rfl (.inl rfl) (S.move rfl (L 13 rfl rfl)) ?_
      refine U.p rfl rfl (.inl rfl) (S.move rfl (L 15 rfl rfl)) ?_
      refine U.p rfl rfl (.inl rfl) (S.lss rfl (L 1 rfl rfl) (L 0 rfl rfl)) ?_
      refine U.p rfl rfl (.inl rfl) (S.assign rfl (L 0 rfl rfl)) ?_
      refine U.done (nr rfl) ?_
      refine blkN (sqN ?_)
      exact ⟨_, V, rfl, ⟨decide (p1 < p2), rfl, (.refl _), ow, h24⟩, (allCons (L 0 rfl rfl) allNil)⟩
     ·have h25 := ifF c23 h22
      refine WP.usreg rfl ?_
      refine U.p rfl rfl (.inl rfl) (S.eqlI rfl (L 8 rfl rfl) K) ?_
      refine U.p rfl rfl (.inl rfl) (S.assign rfl (L 0 rfl rfl)) ?_
      refine U.done (nr rfl) ?_
      refine WP.cond _ (L 0 rfl rfl) rfl (fun c26 => ?_) (fun c26 => ?_)
      ·have h27 := ifT c26 h25
       refine WP.ureg rfl ?_
       refine U.p rfl rfl (.inl rfl) (S.move rfl (L 15 rfl rfl)) ?_
       refine U.p rfl rfl (.inl rfl) (S.move rfl (L 17 rfl rfl)) ?_
       refine U.p rfl rfl (.inl rfl) (S.eqlI rfl (L 1 rfl rfl) (L 0 rfl rfl)) ?_
       refine U.p rfl rfl (.inl rfl) (S.assign rfl (L 0 rfl rfl)) ?_
       refine U.done (nr rfl) ?_
       refine blkN (sqN ?_)
       exact ⟨_, V, rfl, ⟨decide (p1 = p2), rfl, (.refl _), ow, h27⟩, (allCons (L 0 rfl rfl) allNil)⟩
      ·have h28 := ifF c26 h25
       refine WP.usreg rfl ?_
       refine U.p rfl rfl (.inl rfl) (S.assign rfl K) ?_
       refine U.p rfl rfl (.inl rfl) (S.assign rfl K) ?_
       refine U.done (nr rfl) ?_
       refine WP.ret ?_
       refine blkR (sqR ?_)
       refine fin.slots' (.inr rfl) (fsC (L 1 rfl rfl) (fsC (L 0 rfl rfl) fsN)) rfl ⟨V, rfl, (.refl _), ?_⟩
       have e29 := Option.some.inj h28
       subst e29
       exact ⟨rfl, ow⟩
theorem wk_tidy_facts_fold (V : Vw) (Rs : List At) (p0 : Ttidy_facts) (p1 : TIns) (b1 : Nat) (z2 : Nat) (v4 : Value) (v6 : Value) (v8 : Value) (f9 : Fz (RT.int .i64) V v8 p1.args) (ow : Ow V (.pt b1 (.cells z2 [v4, v6]) :: .om (RT.int .i64) false v4 p0.num :: .om (RT.int .i64) false v6 p0.same :: Rs)) (r : TIns) (h : tidy_facts_fold p0 p1 = some r) : ∃ v V', Cl Try.prog 0 28 #[.pointer (some ⟨b1, 0, none⟩), .agg #[.int .i64 p1.op, .int .i64 p1.d, .int .i64 p1.a, .int .i64 p1.b, .int .i64 p1.imm, v8, .int .i64 p1.what, .bool p1.volatile, .bool p1.final]] V.H v V'.H ∧ V.le V' ∧ (∃ (v10 : Value), v = .agg #[.int .i64 r.op, .int .i64 r.d, .int .i64 r.a, .int .i64 r.b, .int .i64 r.imm, v10, .int .i64 r.what, .bool r.volatile, .bool r.final] ∧ Fz (RT.int .i64) V' v10 r.args ∧ Ow V' (.pt b1 (.cells z2 [v4, v6]) :: .om (RT.int .i64) false v4 p0.num :: .om (RT.int .i64) false v6 p0.same :: Rs)) := by
 refine Ct.of (Nat.zero_le _) Try.func28 rfl (nr rfl) ?_
 unfold tidy_facts_fold at h
 refine WP.usreg rfl ?_
 refine O.box ow rfl rfl (.inl rfl) rfl (L 1 rfl rfl) (by simp [topV]) rfl nd (fun b12 V13 le14 ow15 => ?_)
 refine O.alloc ow15 rfl rfl (.inl rfl) rfl ti44 rfl rfl nd (fun b17 V18 le19 ow20 => ?_)
 refine U.done (nr rfl) ?_
 refine WP.usdreg rfl rfl rfl ?_
 refine U.p rfl rfl (.inl rfl) (S.move rfl (L 2 rfl rfl)) ?_
 refine U.p rfl rfl (.inl rfl) (S.nilCheck rfl (L 0 rfl rfl)) ?_
 refine U.p (v := .pointer (some ⟨b1, 0, none⟩)) rfl rfl (.inl rfl) (S.fieldAddr rfl (L 0 rfl rfl) Try.underlying79 rfl ti56 rfl rfl) ?_
 refine U.k rfl rfl (.inl rfl) (S.load rfl (L 0 rfl rfl) Try.underlying56 rfl ((ow20.own (k := 2) rfl).cell rfl)) (fun _ => (okH.nil (fun r h => by cases h; exact (ow20.own (k := 2) rfl).lt))) ?_
 refine U.p (v := .pointer (some ⟨b12, 2, none⟩)) rfl rfl (.inl rfl) (S.fieldAddr rfl (L 5 rfl rfl) Try.underlying44 rfl ti3 rfl rfl) ?_
 refine U.k rfl rfl (.inl rfl) (S.load rfl (L 0 rfl rfl) Try.underlying3 rfl ((ow20.own (k := 1) rfl).cell rfl)) (fun _ => (okH.cons trivial (okH.nil (fun r h => by cases h; exact (ow20.own (k := 1) rfl).lt)))) ?_
 refine O.lookup2 (k := 3) 0 ow20 rfl rfl rfl (.inl rfl) rfl (L 2 rfl rfl) (L 0 rfl rfl) Try.underlying56 Try.underlying3 ti3 rfl (cell_vrel rfl) (fun b22 hlt24 => (fun _ => (okH.cons trivial (okH.cons trivial (okH.nil (fun r h => by cases h; exact hlt24.1)))))) (fun b22 u23 hlt24 hr25 => ?_)
 obtain rfl : u23 = .int .i64 ((mG p0.num p1.a).getD 0) := (List.cons.inj (vrel_cell hr25)).1
 refine U.p rfl rfl (.inl rfl) (S.move rfl (L 0 rfl rfl)) ?_
 refine U.p rfl rfl (.inl rfl) (S.extract rfl (L 0 rfl rfl) rfl (nr rfl)) ?_
 refine U.p rfl rfl (.inl rfl) (S.extract rfl (L 1 rfl rfl) rfl (nr rfl)) ?_
 refine U.p rfl rfl (.inl rfl) (S.assign rfl (L 1 rfl rfl)) ?_
 refine U.p rfl rfl (.inl rfl) (S.assign rfl (L 1 rfl rfl)) ?_
 refine U.done (nr rfl) ?_
 refine WP.usdreg rfl rfl rfl ?_
 refine U.p rfl rfl (.inl rfl) (S.move rfl (L 14 rfl rfl)) ?_
 refine U.p rfl rfl (.inl rfl) (S.nilCheck rfl (L 0 rfl rfl)) ?_
 refine U.p (v := .pointer (some ⟨b1, 0, none⟩)) rfl rfl (.inl rfl) (S.fieldAddr rfl (L 0 rfl rfl) Try.underlying79 rfl ti56 rfl rfl) ?_
 refine U.k rfl rfl (.inl rfl) (S.load rfl (L 0 rfl rfl) Try.underlying56 rfl ((ow20.own (k := 2) rfl).cell rfl)) (fun _ => (okH.nil (fun r h => by cases h; exact (ow20.own (k := 2) rfl).lt))) ?_
 refine U.p (v := .pointer (some ⟨b12, 3, none⟩)) rfl rfl (.inl rfl) (S.fieldAddr rfl (L 17 rfl rfl) Try.underlying44 rfl ti3 rfl rfl) ?_
 refine U.k rfl rfl (.inl rfl) (S.load rfl (L 0 rfl rfl) Try.underlying3 rfl ((ow20.own (k := 1) rfl).cell rfl)) (fun _ => (okH.cons trivial (okH.nil (fun r h => by cases h; exact (ow20.own (k := 1) rfl).lt)))) ?_
 refine O.lookup2 (k := 3) 0 ow20 rfl rfl rfl (.inl rfl) rfl (L 2 rfl rfl) (L 0 rfl rfl) Try.underlying56 Try.underlying3 ti3 rfl (cell_vrel rfl) (fun b27 hlt29 => (fun _ => (okH.cons trivial (okH.cons trivial (okH.nil (fun r h => by cases h; exact hlt29.1)))))) (fun b27 u28 hlt29 hr30 => ?_)
 obtain rfl : u28 = .int .i64 ((mG p0.num p1.b).getD 0) := (List.cons.inj (vrel_cell hr30)).1
 refine U.p rfl rfl (.inl rfl) (S.move rfl (L 0 rfl rfl)) ?_
 refine U.p rfl rfl (.inl rfl) (S.extract rfl (L 0 rfl rfl) rfl (nr rfl)) ?_
 refine U.p rfl rfl (.inl rfl) (S.extract rfl (L 1 rfl rfl) rfl (nr rfl)) ?_
 refine U.p rfl rfl (.inl rfl) (S.assign rfl (L 1 rfl rfl)) ?_
 refine U.p rfl rfl (.inl rfl) (S.assign rfl (L 1 rfl rfl)) ?_
 refine U.done (nr rfl) ?_
 refine WP.seq ?_
 refine WP.blk ?_
 refine WP.usreg rfl ?_
 refine U.p (v := .pointer (some ⟨b12, 0, none⟩)) rfl rfl (.inl rfl) (S.fieldAddr rfl (L 25 rfl rfl) Try.underlying44 rfl ti3 rfl rfl) ?_
 refine U.k rfl rfl (.inl rfl) (S.load rfl (L 0 rfl rfl) Try.underlying3 rfl ((ow20.own (k := 1) rfl).cell rfl)) nd ?_
 refine U.p rfl rfl (.inl rfl) (S.eqlI rfl (L 0 rfl rfl) K) ?_
 refine U.p rfl rfl (.inl rfl) (S.move rfl (L 0 rfl rfl)) ?_
 refine U.joinX 6 (fun e H => ∃ (u32 : Value), H = V18.H ∧ e = [(37, .bool ((decide (p1.op = 2)) && ((mG p0.num p1.a).isSome))), (36, u32)]) ?_ ?_
 ·rintro _ _ ⟨u32, rfl, rfl⟩
  refine U.p rfl rfl (.inl rfl) (S.move rfl (L 0 rfl rfl)) ?_
  obtain ⟨y36, hy37, h38⟩ := bindS h
  refine U.joinX 10 (fun e H => ∃ (u39 u40 : Value), ∃ V' : Vw, H = V'.H ∧ V18.le V' ∧ e = [(41, .bool y36), (40, u39), (39, u40)] ∧ Ow V' (.pt b17 (.cells 9 [.int .i64 0, .int .i64 0, .int .i64 0, .int .i64 0, .int .i64 0, .slice none 0 0, .int .i64 0, .bool false, .bool false]) :: .pt b12 (.cells 0 [.int .i64 p1.op, .int .i64 p1.d, .int .i64 p1.a, .int .i64 p1.b, .int .i64 p1.imm, v8, .int .i64 p1.what, .bool p1.volatile, .bool p1.final]) :: .pt b1 (.cells z2 [v4, v6]) :: .om (RT.int .i64) false v4 p0.num :: .om (RT.int .i64) false v6 p0.same :: Rs)) ?_ ?_
  ·rintro _ _ ⟨u39, u40, V41, rfl, le42, rfl, ow43⟩
   refine U.p rfl rfl (.inl rfl) (S.assign rfl (L 0 rfl rfl)) ?_
   refine U.done (nr rfl) ?_
   refine WP.cond _ (L 0 rfl rfl) rfl (fun c44 => ?_) (fun c44 => ?_)
   ·have h45 := ifT c44 h38
    refine WP.usreg rfl ?_
    refine U.p (v := .pointer (some ⟨b12, 1, none⟩)) rfl rfl (.inl rfl) (S.fieldAddr rfl (L 36 rfl rfl) Try.underlying44 rfl ti3 rfl rfl) ?_
    refine U.k rfl rfl (.inl rfl) (S.load rfl (L 0 rfl rfl) Try.underlying3 rfl ((ow43.own (k := 1) rfl).cell rfl)) nd ?_
    refine U.p rfl rfl (.inl rfl) (S.move rfl (L 26 rfl rfl)) ?_
    refine U.p (v := .agg #[.int .i64 1, .int .i64 p1.d, .int .i64 (-1), .int .i64 (-1), .int .i64 ((mG p0.num p1.a).getD 0), .slice none 0 0, .int .i64 0, .bool false, .bool false]) rfl rfl (.inl rfl) (S.build (vs := [.int .i64 1, .int .i64 p1.d, .int .i64 (-1), .int .i64 (-1), .int .i64 ((mG p0.num p1.a).getD 0)]) rfl ti44 rfl pl44 (aC K (aC (L 1 rfl rfl) (aC K (aC K (aC (L 0 rfl rfl) aN))))) (allC (by simp [topV]) (allC (by simp [topV]) (allC (by simp [topV]) (allC (by simp [topV]) (allC (by simp [topV]) allN))))) rfl) ?_
    refine O.store (k := 0) (cs := [.int .i64 1, .int .i64 p1.d, .int .i64 (-1), .int .i64 (-1), .int .i64 ((mG p0.num p1.a).getD 0), .slice none 0 0, .int .i64 0, .bool false, .bool false]) (c' := [.int .i64 1, .int .i64 p1.d, .int .i64 (-1), .int .i64 (-1), .int .i64 ((mG p0.num p1.a).getD 0), .slice none 0 0, .int .i64 0, .bool false, .bool false]) ow43 rfl rfl rfl (.inl rfl) rfl (L 39 rfl rfl) (L 0 rfl rfl) ti44 (by simp [topV]) rfl rfl (nr rfl) rfl rfl nd (fun V46 le47 ow48 => ?_)
    refine U.done (nr rfl) ?_
    refine WP.ret ?_
    refine blkR (sqR ?_)
    refine fin.cellN (.inr rfl) rfl (L 39 rfl rfl) Try.underlying44 rfl ti44 (ow48.own (k := 0) rfl).get rfl ⟨V46, rfl, (((le14.trans le19).trans le42).trans le47), ?_⟩
    have ow49 := ow48.drop 0 rfl
    have ow50 := ow49.drop 0 rfl
    have e51 := Option.some.inj h45
    subst e51
    exact ⟨(.slice none 0 0), rfl, Fz.nil, ow50⟩
   ·have h52 := ifF c44 h38
    refine WP.usreg rfl ?_
    refine U.p (v := .pointer (some ⟨b12, 0, none⟩)) rfl rfl (.inl rfl) (S.fieldAddr rfl (L 36 rfl rfl) Try.underlying44 rfl ti3 rfl rfl) ?_
    refine U.k rfl rfl (.inl rfl) (S.load rfl (L 0 rfl rfl) Try.underlying3 rfl ((ow43.own (k := 1) rfl).cell rfl)) nd ?_
    refine U.p rfl rfl (.inl rfl) (S.eqlI rfl (L 0 rfl rfl) K) ?_
    refine U.p rfl rfl (.inl rfl) (S.move rfl (L 0 rfl rfl)) ?_
    refine U.joinX 6 (fun e H => ∃ (u53 : Value), H = V41.H ∧ e = [(52, .bool ((decide (p1.op = 13)) && ((mG p0.num p1.a).isSome))), (51, u53)]) ?_ ?_
    ·rintro _ _ ⟨u53, rfl, rfl⟩
     refine U.p rfl rfl (.inl rfl) (S.move rfl (L 0 rfl rfl)) ?_
     refine U.joinX 10 (fun e H => ∃ (u57 u58 : Value), H = V41.H ∧ e = [(56, .bool (((decide (p1.op = 13)) && ((mG p0.num p1.a).isSome)) && (decide (((mG p0.num p1.a).getD 0) = 0)))), (55, u57), (54, u58)]) ?_ ?_
     ·rintro _ _ ⟨u57, u58, rfl, rfl⟩
      refine U.p rfl rfl (.inl rfl) (S.assign rfl (L 0 rfl rfl)) ?_
      refine U.done (nr rfl) ?_
      refine WP.cond _ (L 0 rfl rfl) rfl (fun c62 => ?_) (fun c62 => ?_)
      ·have h63 := ifT c62 h52
       refine WP.usreg rfl ?_
       refine U.p (v := .pointer (some ⟨b12, 4, none⟩)) rfl rfl (.inl rfl) (S.fieldAddr rfl (L 47 rfl rfl) Try.underlying44 rfl ti3 rfl rfl) ?_
       refine U.k rfl rfl (.inl rfl) (S.load rfl (L 0 rfl rfl) Try.underlying3 rfl ((ow43.own (k := 1) rfl).cell rfl)) nd ?_
       refine U.p (v := .agg #[.int .i64 12, .int .i64 (-1), .int .i64 (-1), .int .i64 (-1), .int .i64 p1.imm, .slice none 0 0, .int .i64 0, .bool false, .bool false]) rfl rfl (.inl rfl) (S.build (vs := [.int .i64 12, .int .i64 (-1), .int .i64 (-1), .int .i64 (-1), .int .i64 p1.imm]) rfl ti44 rfl pl44 (aC K (aC K (aC K (aC K (aC (L 0 rfl rfl) aN))))) (allC (by simp [topV]) (allC (by simp [topV]) (allC (by simp [topV]) (allC (by simp [topV]) (allC (by simp [topV]) allN))))) rfl) ?_
       refine O.store (k := 0) (cs := [.int .i64 12, .int .i64 (-1), .int .i64 (-1), .int .i64 (-1), .int .i64 p1.imm, .slice none 0 0, .int .i64 0, .bool false, .bool false]) (c' := [.int .i64 12, .int .i64 (-1), .int .i64 (-1), .int .i64 (-1), .int .i64 p1.imm, .slice none 0 0, .int .i64 0, .bool false, .bool false]) ow43 rfl rfl rfl (.inl rfl) rfl (L 49 rfl rfl) (L 0 rfl rfl) ti44 (by simp [topV]) rfl rfl (nr rfl) rfl rfl nd (fun V64 le65 ow66 => ?_)
       refine U.done (nr rfl) ?_
       refine WP.ret ?_
       refine blkR (sqR ?_)
       refine fin.cellN (.inr rfl) rfl (L 49 rfl rfl) Try.underlying44 rfl ti44 (ow66.own (k := 0) rfl).get rfl ⟨V64, rfl, (((le14.trans le19).trans le42).trans le65), ?_⟩
       have ow67 := ow66.drop 0 rfl
       have ow68 := ow67.drop 0 rfl
       have e69 := Option.some.inj h63
       subst e69
       exact ⟨(.slice none 0 0), rfl, Fz.nil, ow68⟩
      ·have h70 := ifF c62 h52
       refine WP.usreg rfl ?_
       refine U.p (v := .pointer (some ⟨b12, 0, none⟩)) rfl rfl (.inl rfl) (S.fieldAddr rfl (L 47 rfl rfl) Try.underlying44 rfl ti3 rfl rfl) ?_
       refine U.k rfl rfl (.inl rfl) (S.load rfl (L 0 rfl rfl) Try.underlying3 rfl ((ow43.own (k := 1) rfl).cell rfl)) nd ?_
       refine U.p rfl rfl (.inl rfl) (S.lss rfl (L 0 rfl rfl) K) ?_
       refine U.p rfl rfl (.inl rfl) (S.move rfl (L 0 rfl rfl)) ?_
       refine U.joinX 8 (fun e H => ∃ (u71 u72 u73 : Value), H = V41.H ∧ e = [(68, .bool ((decide (p1.op < 3)) || (decide (8 < p1.op)))), (67, u71), (66, u72), (65, u73)]) ?_ ?_
       ·rintro _ _ ⟨u71, u72, u73, rfl, rfl⟩
        refine U.p rfl rfl (.inl rfl) (S.move rfl (L 0 rfl rfl)) ?_
        refine U.joinX 12 (fun e H => ∃ (u77 u78 : Value), H = V41.H ∧ e = [(72, .bool (((decide (p1.op < 3)) || (decide (8 < p1.op))) || (!((mG p0.num p1.a).isSome)))), (71, u77), (70, u78)]) ?_ ?_
        ·rintro _ _ ⟨u77, u78, rfl, rfl⟩
         refine U.p rfl rfl (.inl rfl) (S.move rfl (L 0 rfl rfl)) ?_
         refine U.joinX 16 (fun e H => ∃ (u82 u83 : Value), H = V41.H ∧ e = [(76, .bool ((((decide (p1.op < 3)) || (decide (8 < p1.op))) || (!((mG p0.num p1.a).isSome))) || (!((mG p0.num p1.b).isSome)))), (75, u82), (74, u83)]) ?_ ?_
         ·rintro _ _ ⟨u82, u83, rfl, rfl⟩
          refine U.p rfl rfl (.inl rfl) (S.assign rfl (L 0 rfl rfl)) ?_
          refine U.done (nr rfl) ?_
          refine WP.cond _ (L 0 rfl rfl) rfl (fun c87 => ?_) (fun c87 => ?_)
          ·have h88 := ifT c87 h70
           refine WP.usreg rfl ?_
           refine U.k rfl rfl (.inl rfl) (S.loadB rfl (L 64 rfl rfl) Try.underlying44 rfl ti44 (ow43.own (k := 1) rfl).get rfl) nd ?_
           refine O.store (k := 0) (cs := [.int .i64 p1.op, .int .i64 p1.d, .int .i64 p1.a, .int .i64 p1.b, .int .i64 p1.imm, v8, .int .i64 p1.what, .bool p1.volatile, .bool p1.final]) (c' := [.int .i64 p1.op, .int .i64 p1.d, .int .i64 p1.a, .int .i64 p1.b, .int .i64 p1.imm, v8, .int .i64 p1.what, .bool p1.volatile, .bool p1.final]) ow43 rfl rfl rfl (.inl rfl) rfl (L 64 rfl rfl) (L 0 rfl rfl) ti44 (by simp [topV]) rfl rfl (nr rfl) (by have q0 := f9.one; simp only [List.all_cons, List.all_nil, q0]; rfl) rfl nd (fun V89 le90 ow91 => ?_)
           refine U.done (nr rfl) ?_
           refine WP.ret ?_
           refine blkR (sqR ?_)
           have f92 := f9.up (((le14.trans le19).trans le42).trans le90)
           refine fin.cellN (.inr rfl) rfl (L 64 rfl rfl) Try.underlying44 rfl ti44 (ow91.own (k := 0) rfl).get rfl ⟨V89, rfl, (((le14.trans le19).trans le42).trans le90), ?_⟩
           have ow93 := ow91.drop 0 rfl
           have ow94 := ow93.drop 0 rfl
           have e95 := Option.some.inj h88
           subst e95
           exact ⟨v8, rfl, f92, ow94⟩
          ·have h96 := ifF c87 h70
           refine WP.skip ?_
           refine blkN (sqN ?_)
           refine WP.seq ?_
           refine WP.usreg rfl ?_
           refine U.p (v := .pointer (some ⟨b12, 0, none⟩)) rfl rfl (.inl rfl) (S.fieldAddr rfl (L 64 rfl rfl) Try.underlying44 rfl ti3 rfl rfl) ?_
           refine U.k rfl rfl (.inl rfl) (S.load rfl (L 0 rfl rfl) Try.underlying3 rfl ((ow43.own (k := 1) rfl).cell rfl)) nd ?_
           refine U.p rfl rfl (.inl rfl) (S.move rfl (L 54 rfl rfl)) ?_
           refine U.p rfl rfl (.inl rfl) (S.move rfl (L 43 rfl rfl)) ?_
           obtain ⟨x97, hx98, h99⟩ := bindS h96
           refine O.call (V := V41) rfl rfl (.inl rfl) rfl en43 (aC (L 2 rfl rfl) (aC (L 1 rfl rfl) (aC (L 0 rfl rfl) aN))) (wk_tidy_reckon V41 _ p1.op ((mG p0.num p1.a).getD 0) ((mG p0.num p1.b).getD 0) ow43 _ hx98) (fun _ _ _ _ => nd) (fun v100 V101 le102 hp103 => ?_)
           obtain ⟨rfl, ow104⟩ := hp103
           refine U.p rfl rfl (.inl rfl) (S.move rfl (L 0 rfl rfl)) ?_
           refine U.p rfl rfl (.inl rfl) (S.extract rfl (L 0 rfl rfl) rfl (nr rfl)) ?_
           refine U.p rfl rfl (.inl rfl) (S.extract rfl (L 1 rfl rfl) rfl (nr rfl)) ?_
           refine U.p rfl rfl (.inl rfl) (S.assign rfl (L 1 rfl rfl)) ?_
           refine U.p rfl rfl (.inl rfl) (S.assign rfl (L 1 rfl rfl)) ?_
           refine U.done (nr rfl) ?_
           refine WP.usreg rfl ?_
           refine U.p rfl rfl (.inl rfl) (S.move rfl (L 0 rfl rfl)) ?_
           refine U.p rfl rfl (.inl rfl) (S.move rfl (L 0 rfl rfl)) ?_
           obtain ⟨y105, hy106, h107⟩ := bindS h99
           refine U.joinX 5 (fun e H => ∃ (u108 u109 : Value), ∃ V' : Vw, H = V'.H ∧ V101.le V' ∧ e = [(90, .bool y105), (89, u108), (88, u109)] ∧ Ow V' (.pt b17 (.cells 9 [.int .i64 0, .int .i64 0, .int .i64 0, .int .i64 0, .int .i64 0, .slice none 0 0, .int .i64 0, .bool false, .bool false]) :: .pt b12 (.cells 0 [.int .i64 p1.op, .int .i64 p1.d, .int .i64 p1.a, .int .i64 p1.b, .int .i64 p1.imm, v8, .int .i64 p1.what, .bool p1.volatile, .bool p1.final]) :: .pt b1 (.cells z2 [v4, v6]) :: .om (RT.int .i64) false v4 p0.num :: .om (RT.int .i64) false v6 p0.same :: Rs)) ?_ ?_
           ·rintro _ _ ⟨u108, u109, V110, rfl, le111, rfl, ow112⟩
            refine U.done (nr rfl) ?_
            refine WP.cond _ (L 0 rfl rfl) rfl (fun c113 => ?_) (fun c113 => ?_)
            ·have h114 := ifT c113 h107
             refine WP.usreg rfl ?_
             refine U.p (v := .pointer (some ⟨b12, 1, none⟩)) rfl rfl (.inl rfl) (S.fieldAddr rfl (L 79 rfl rfl) Try.underlying44 rfl ti3 rfl rfl) ?_
             refine U.k rfl rfl (.inl rfl) (S.load rfl (L 0 rfl rfl) Try.underlying3 rfl ((ow112.own (k := 1) rfl).cell rfl)) nd ?_
             refine U.p rfl rfl (.inl rfl) (S.move rfl (L 8 rfl rfl)) ?_
             refine U.p (v := .agg #[.int .i64 1, .int .i64 p1.d, .int .i64 (-1), .int .i64 (-1), .int .i64 x97.1, .slice none 0 0, .int .i64 0, .bool false, .bool false]) rfl rfl (.inl rfl) (S.build (vs := [.int .i64 1, .int .i64 p1.d, .int .i64 (-1), .int .i64 (-1), .int .i64 x97.1]) rfl ti44 rfl pl44 (aC K (aC (L 1 rfl rfl) (aC K (aC K (aC (L 0 rfl rfl) aN))))) (allC (by simp [topV]) (allC (by simp [topV]) (allC (by simp [topV]) (allC (by simp [topV]) (allC (by simp [topV]) allN))))) rfl) ?_
             refine O.store (k := 0) (cs := [.int .i64 1, .int .i64 p1.d, .int .i64 (-1), .int .i64 (-1), .int .i64 x97.1, .slice none 0 0, .int .i64 0, .bool false, .bool false]) (c' := [.int .i64 1, .int .i64 p1.d, .int .i64 (-1), .int .i64 (-1), .int .i64 x97.1, .slice none 0 0, .int .i64 0, .bool false, .bool false]) ow112 rfl rfl rfl (.inl rfl) rfl (L 82 rfl rfl) (L 0 rfl rfl) ti44 (by simp [topV]) rfl rfl (nr rfl) rfl rfl nd (fun V115 le116 ow117 => ?_)
             refine U.done (nr rfl) ?_
             refine WP.ret ?_
             refine sqR ?_
             refine fin.cellN (.inr rfl) rfl (L 82 rfl rfl) Try.underlying44 rfl ti44 (ow117.own (k := 0) rfl).get rfl ⟨V115, rfl, (((((le14.trans le19).trans le42).trans le102).trans le111).trans le116), ?_⟩
             have ow118 := ow117.drop 0 rfl
             have ow119 := ow118.drop 0 rfl
             have e120 := Option.some.inj h114
             subst e120
             exact ⟨(.slice none 0 0), rfl, Fz.nil, ow119⟩
            ·have h121 := ifF c113 h107
             refine WP.skip ?_
             refine sqN ?_
             refine WP.usreg rfl ?_
             refine U.k rfl rfl (.inl rfl) (S.loadB rfl (L 79 rfl rfl) Try.underlying44 rfl ti44 (ow112.own (k := 1) rfl).get rfl) nd ?_
             refine O.store (k := 0) (cs := [.int .i64 p1.op, .int .i64 p1.d, .int .i64 p1.a, .int .i64 p1.b, .int .i64 p1.imm, v8, .int .i64 p1.what, .bool p1.volatile, .bool p1.final]) (c' := [.int .i64 p1.op, .int .i64 p1.d, .int .i64 p1.a, .int .i64 p1.b, .int .i64 p1.imm, v8, .int .i64 p1.what, .bool p1.volatile, .bool p1.final]) ow112 rfl rfl rfl (.inl rfl) rfl (L 79 rfl rfl) (L 0 rfl rfl) ti44 (by simp [topV]) rfl rfl (nr rfl) (by have q0 := f9.one; simp only [List.all_cons, List.all_nil, q0]; rfl) rfl nd (fun V122 le123 ow124 => ?_)
             refine U.done (nr rfl) ?_
             refine WP.ret ?_
             have f125 := f9.up (((((le14.trans le19).trans le42).trans le102).trans le111).trans le123)
             refine fin.cellN (.inr rfl) rfl (L 79 rfl rfl) Try.underlying44 rfl ti44 (ow124.own (k := 0) rfl).get rfl ⟨V122, rfl, (((((le14.trans le19).trans le42).trans le102).trans le111).trans le123), ?_⟩
             have ow126 := ow124.drop 0 rfl
             have ow127 := ow126.drop 0 rfl
             have e128 := Option.some.inj h121
             subst e128
             exact ⟨v8, rfl, f125, ow127⟩
           ·intro kk
            refine bcase (b := x97.2) (fun g129 => ?_) (fun g129 => ?_)
            ·have h130 := ifT g129 hy106
             refine U.p rfl rfl (.inr ⟨_, _, _, rfl, rfl, ((L 0 rfl rfl).trans (cB g129))⟩) (S.move rfl (L 3 rfl rfl)) ?_
             obtain ⟨x131, hx132, h133⟩ := bindS h130
             refine O.call (V := V101) rfl rfl (.inr ⟨_, _, _, rfl, rfl, ((L 1 rfl rfl).trans (cB g129))⟩) rfl en42 (aC (L 0 rfl rfl) aN) (wk_tidy_small V101 _ x97.1 ow104 _ hx132) (fun _ _ _ _ => nd) (fun v134 V135 le136 hp137 => ?_)
             obtain ⟨rfl, ow138⟩ := hp137
             refine U.p rfl rfl (.inl rfl) (S.pickT rfl ((L 2 rfl rfl).trans (cB g129)) (L 0 rfl rfl)) ?_
             have e139 := Option.some.inj h133
             subst e139
             exact kk [(90, .bool x131), (89, .bool x131), (88, .int .i64 x97.1)] _ ⟨.bool x131, .int .i64 x97.1, V135, rfl, le136, rfl, ow138⟩
            ·have h140 := ifF g129 hy106
             refine U.x rfl rfl rfl rfl ((L 0 rfl rfl).trans (cB g129)) (by decide) ?_
             refine U.x rfl rfl rfl rfl ((L 1 rfl rfl).trans (cB g129)) (by decide) ?_
             refine U.p rfl rfl (.inl rfl) (S.pickF rfl ((L 2 rfl rfl).trans (cB g129)) K) ?_
             have e141 := Option.some.inj h140
             subst e141
             exact kk [(90, .bool false), (89, .tuple #[]), (88, .tuple #[])] _ ⟨.tuple #[], .tuple #[], V101, rfl, (.refl _), rfl, ow104⟩
         ·intro kk
          refine bcase (b := ((decide (p1.op < 3)) || (decide (8 < p1.op))) || (!((mG p0.num p1.a).isSome))) (fun g142 => ?_) (fun g142 => ?_)
          ·skip
           refine U.x rfl rfl rfl rfl ((L 0 rfl rfl).trans (cB g142)) (by decide) ?_
           refine U.x rfl rfl rfl rfl ((L 1 rfl rfl).trans (cB g142)) (by decide) ?_
           refine U.p rfl rfl (.inl rfl) (S.pickT rfl ((L 2 rfl rfl).trans (cB g142)) K) ?_
           exact kk [(76, .bool true), (75, .tuple #[]), (74, .tuple #[])] _ ⟨.tuple #[], .tuple #[], rfl, (by rw [g142, Bool.true_or])⟩
          ·skip
           refine U.p rfl rfl (.inr ⟨_, _, _, rfl, rfl, ((L 0 rfl rfl).trans (cB g142))⟩) (S.move rfl (L 35 rfl rfl)) ?_
           refine U.p rfl rfl (.inr ⟨_, _, _, rfl, rfl, ((L 1 rfl rfl).trans (cB g142))⟩) (S.not rfl (L 0 rfl rfl)) ?_
           refine U.p rfl rfl (.inl rfl) (S.pickF rfl ((L 2 rfl rfl).trans (cB g142)) (L 0 rfl rfl)) ?_
           exact kk [(76, .bool (!((mG p0.num p1.b).isSome))), (75, .bool (!((mG p0.num p1.b).isSome))), (74, .bool ((mG p0.num p1.b).isSome))] _ ⟨.bool (!((mG p0.num p1.b).isSome)), .bool ((mG p0.num p1.b).isSome), rfl, (by rw [g142, Bool.false_or])⟩
        ·intro kk
         refine bcase (b := (decide (p1.op < 3)) || (decide (8 < p1.op))) (fun g143 => ?_) (fun g143 => ?_)
         ·skip
          refine U.x rfl rfl rfl rfl ((L 0 rfl rfl).trans (cB g143)) (by decide) ?_
          refine U.x rfl rfl rfl rfl ((L 1 rfl rfl).trans (cB g143)) (by decide) ?_
          refine U.p rfl rfl (.inl rfl) (S.pickT rfl ((L 2 rfl rfl).trans (cB g143)) K) ?_
          exact kk [(72, .bool true), (71, .tuple #[]), (70, .tuple #[])] _ ⟨.tuple #[], .tuple #[], rfl, (by rw [g143, Bool.true_or])⟩
         ·skip
          refine U.p rfl rfl (.inr ⟨_, _, _, rfl, rfl, ((L 0 rfl rfl).trans (cB g143))⟩) (S.move rfl (L 43 rfl rfl)) ?_
          refine U.p rfl rfl (.inr ⟨_, _, _, rfl, rfl, ((L 1 rfl rfl).trans (cB g143))⟩) (S.not rfl (L 0 rfl rfl)) ?_
          refine U.p rfl rfl (.inl rfl) (S.pickF rfl ((L 2 rfl rfl).trans (cB g143)) (L 0 rfl rfl)) ?_
          exact kk [(72, .bool (!((mG p0.num p1.a).isSome))), (71, .bool (!((mG p0.num p1.a).isSome))), (70, .bool ((mG p0.num p1.a).isSome))] _ ⟨.bool (!((mG p0.num p1.a).isSome)), .bool ((mG p0.num p1.a).isSome), rfl, (by rw [g143, Bool.false_or])⟩
       ·intro kk
        refine bcase (b := decide (p1.op < 3)) (fun g144 => ?_) (fun g144 => ?_)
        ·skip
         refine U.x rfl rfl rfl rfl ((L 0 rfl rfl).trans (cB g144)) (by decide) ?_
         refine U.x rfl rfl rfl rfl ((L 1 rfl rfl).trans (cB g144)) (by decide) ?_
         refine U.x rfl rfl rfl rfl ((L 2 rfl rfl).trans (cB g144)) (by decide) ?_
         refine U.p rfl rfl (.inl rfl) (S.pickT rfl ((L 3 rfl rfl).trans (cB g144)) K) ?_
         exact kk [(68, .bool true), (67, .tuple #[]), (66, .tuple #[]), (65, .tuple #[])] _ ⟨.tuple #[], .tuple #[], .tuple #[], rfl, (by rw [g144, Bool.true_or])⟩
        ·skip
         refine U.p (v := .pointer (some ⟨b12, 0, none⟩)) rfl rfl (.inr ⟨_, _, _, rfl, rfl, ((L 0 rfl rfl).trans (cB g144))⟩) (S.fieldAddr rfl (L 51 rfl rfl) Try.underlying44 rfl ti3 rfl rfl) ?_
         refine U.k rfl rfl (.inr ⟨_, _, _, rfl, rfl, ((L 1 rfl rfl).trans (cB g144))⟩) (S.load rfl (L 0 rfl rfl) Try.underlying3 rfl ((ow43.own (k := 1) rfl).cell rfl)) nd ?_
         refine U.p rfl rfl (.inr ⟨_, _, _, rfl, rfl, ((L 2 rfl rfl).trans (cB g144))⟩) (S.gtr rfl (L 0 rfl rfl) K) ?_
         refine U.p rfl rfl (.inl rfl) (S.pickF rfl ((L 3 rfl rfl).trans (cB g144)) (L 0 rfl rfl)) ?_
         exact kk [(68, .bool (decide (8 < p1.op))), (67, .bool (decide (8 < p1.op))), (66, .int .i64 p1.op), (65, .pointer (some ⟨b12, 0, none⟩))] _ ⟨.bool (decide (8 < p1.op)), .int .i64 p1.op, .pointer (some ⟨b12, 0, none⟩), rfl, (by rw [g144, Bool.false_or])⟩
     ·intro kk
      refine bcase (b := (decide (p1.op = 13)) && ((mG p0.num p1.a).isSome)) (fun g145 => ?_) (fun g145 => ?_)
      ·skip
       refine U.p rfl rfl (.inr ⟨_, _, _, rfl, rfl, ((L 0 rfl rfl).trans (cB g145))⟩) (S.move rfl (L 31 rfl rfl)) ?_
       refine U.p rfl rfl (.inr ⟨_, _, _, rfl, rfl, ((L 1 rfl rfl).trans (cB g145))⟩) (S.eqlI rfl (L 0 rfl rfl) K) ?_
       refine U.p rfl rfl (.inl rfl) (S.pickT rfl ((L 2 rfl rfl).trans (cB g145)) (L 0 rfl rfl)) ?_
       exact kk [(56, .bool (decide (((mG p0.num p1.a).getD 0) = 0))), (55, .bool (decide (((mG p0.num p1.a).getD 0) = 0))), (54, .int .i64 ((mG p0.num p1.a).getD 0))] _ ⟨.bool (decide (((mG p0.num p1.a).getD 0) = 0)), .int .i64 ((mG p0.num p1.a).getD 0), rfl, (by rw [g145, Bool.true_and])⟩
      ·skip
       refine U.x rfl rfl rfl rfl ((L 0 rfl rfl).trans (cB g145)) (by decide) ?_
       refine U.x rfl rfl rfl rfl ((L 1 rfl rfl).trans (cB g145)) (by decide) ?_
       refine U.p rfl rfl (.inl rfl) (S.pickF rfl ((L 2 rfl rfl).trans (cB g145)) K) ?_
       exact kk [(56, .bool false), (55, .tuple #[]), (54, .tuple #[])] _ ⟨.tuple #[], .tuple #[], rfl, (by rw [g145, Bool.false_and])⟩
    ·intro kk
     refine bcase (b := decide (p1.op = 13)) (fun g146 => ?_) (fun g146 => ?_)
     ·skip
      refine U.p rfl rfl (.inr ⟨_, _, _, rfl, rfl, ((L 0 rfl rfl).trans (cB g146))⟩) (S.move rfl (L 27 rfl rfl)) ?_
      refine U.p rfl rfl (.inl rfl) (S.pickT rfl ((L 1 rfl rfl).trans (cB g146)) (L 0 rfl rfl)) ?_
      exact kk [(52, .bool ((mG p0.num p1.a).isSome)), (51, .bool ((mG p0.num p1.a).isSome))] _ ⟨.bool ((mG p0.num p1.a).isSome), rfl, (by rw [g146, Bool.true_and])⟩
     ·skip
      refine U.x rfl rfl rfl rfl ((L 0 rfl rfl).trans (cB g146)) (by decide) ?_
      refine U.p rfl rfl (.inl rfl) (S.pickF rfl ((L 1 rfl rfl).trans (cB g146)) K) ?_
      exact kk [(52, .bool false), (51, .tuple #[])] _ ⟨.tuple #[], rfl, (by rw [g146, Bool.false_and])⟩
  ·intro kk
   refine bcase (b := (decide (p1.op = 2)) && ((mG p0.num p1.a).isSome)) (fun g147 => ?_) (fun g147 => ?_)
   ·have h148 := ifT g147 hy37
    refine U.p rfl rfl (.inr ⟨_, _, _, rfl, rfl, ((L 0 rfl rfl).trans (cB g147))⟩) (S.move rfl (L 20 rfl rfl)) ?_
    obtain ⟨x149, hx150, h151⟩ := bindS h148
    refine O.call (V := V18) rfl rfl (.inr ⟨_, _, _, rfl, rfl, ((L 1 rfl rfl).trans (cB g147))⟩) rfl en42 (aC (L 0 rfl rfl) aN) (wk_tidy_small V18 _ ((mG p0.num p1.a).getD 0) ow20 _ hx150) (fun _ _ _ _ => nd) (fun v152 V153 le154 hp155 => ?_)
    obtain ⟨rfl, ow156⟩ := hp155
    refine U.p rfl rfl (.inl rfl) (S.pickT rfl ((L 2 rfl rfl).trans (cB g147)) (L 0 rfl rfl)) ?_
    have e157 := Option.some.inj h151
    subst e157
    exact kk [(41, .bool x149), (40, .bool x149), (39, .int .i64 ((mG p0.num p1.a).getD 0))] _ ⟨.bool x149, .int .i64 ((mG p0.num p1.a).getD 0), V153, rfl, le154, rfl, ow156⟩
   ·have h158 := ifF g147 hy37
    refine U.x rfl rfl rfl rfl ((L 0 rfl rfl).trans (cB g147)) (by decide) ?_
    refine U.x rfl rfl rfl rfl ((L 1 rfl rfl).trans (cB g147)) (by decide) ?_
    refine U.p rfl rfl (.inl rfl) (S.pickF rfl ((L 2 rfl rfl).trans (cB g147)) K) ?_
    have e159 := Option.some.inj h158
    subst e159
    exact kk [(41, .bool false), (40, .tuple #[]), (39, .tuple #[])] _ ⟨.tuple #[], .tuple #[], V18, rfl, (.refl _), rfl, ow20⟩
 ·intro kk
  refine bcase (b := decide (p1.op = 2)) (fun g160 => ?_) (fun g160 => ?_)
  ·skip
   refine U.p rfl rfl (.inr ⟨_, _, _, rfl, rfl, ((L 0 rfl rfl).trans (cB g160))⟩) (S.move rfl (L 16 rfl rfl)) ?_
   refine U.p rfl rfl (.inl rfl) (S.pickT rfl ((L 1 rfl rfl).trans (cB g160)) (L 0 rfl rfl)) ?_
   exact kk [(37, .bool ((mG p0.num p1.a).isSome)), (36, .bool ((mG p0.num p1.a).isSome))] _ ⟨.bool ((mG p0.num p1.a).isSome), rfl, (by rw [g160, Bool.true_and])⟩
  ·skip
   refine U.x rfl rfl rfl rfl ((L 0 rfl rfl).trans (cB g160)) (by decide) ?_
   refine U.p rfl rfl (.inl rfl) (S.pickF rfl ((L 1 rfl rfl).trans (cB g160)) K) ?_
   exact kk [(37, .bool false), (36, .tuple #[])] _ ⟨.tuple #[], rfl, (by rw [g160, Bool.false_and])⟩
theorem wk_tidy_facts_forget (V : Vw) (Rs : List At) (p0 : Ttidy_facts) (p1 : Int) (b1 : Nat) (z2 : Nat) (v4 : Value) (v6 : Value) (ow : Ow V (.pt b1 (.cells z2 [v4, v6]) :: .om (RT.int .i64) false v4 p0.num :: .om (RT.int .i64) false v6 p0.same :: Rs)) (r : Ttidy_facts) (h : tidy_facts_forget p0 p1 = some r) : ∃ v V', Cl Try.prog 0 44 #[.pointer (some ⟨b1, 0, none⟩), .int .i64 p1] V.H v V'.H ∧ V.le V' ∧ (∃ (v8 : Value) (v10 : Value), Ow V' (.pt b1 (.cells z2 [v8, v10]) :: .om (RT.int .i64) false v8 r.num :: .om (RT.int .i64) false v10 r.same :: Rs)) := by
 unfold tidy_facts_forget at h
 rw [Option.map_eq_some_iff] at h
 obtain ⟨q, h, rfl⟩ := h
 exact forget_cl ow h
theorem wk_tidy_facts_learn (V : Vw) (Rs : List At) (p0 : Ttidy_facts) (p1 : TIns) (b1 : Nat) (z2 : Nat) (v4 : Value) (v6 : Value) (v8 : Value) (f9 : Fz (RT.int .i64) V v8 p1.args) (ow : Ow V (.pt b1 (.cells z2 [v4, v6]) :: .om (RT.int .i64) false v4 p0.num :: .om (RT.int .i64) false v6 p0.same :: Rs)) (r : Ttidy_facts) (h : tidy_facts_learn p0 p1 = some r) : ∃ v V', Cl Try.prog 0 29 #[.pointer (some ⟨b1, 0, none⟩), .agg #[.int .i64 p1.op, .int .i64 p1.d, .int .i64 p1.a, .int .i64 p1.b, .int .i64 p1.imm, v8, .int .i64 p1.what, .bool p1.volatile, .bool p1.final]] V.H v V'.H ∧ V.le V' ∧ (∃ (v10 : Value) (v12 : Value), Ow V' (.pt b1 (.cells z2 [v10, v12]) :: .om (RT.int .i64) false v10 r.num :: .om (RT.int .i64) false v12 r.same :: Rs)) := by
 refine Ct.of (Nat.zero_le _) Try.func29 rfl (nr rfl) ?_
 unfold tidy_facts_learn at h
 refine WP.usreg rfl ?_
 refine O.box ow rfl rfl (.inl rfl) rfl (L 1 rfl rfl) (by simp [topV]) rfl nd (fun b14 V15 le16 ow17 => ?_)
 refine U.done (nr rfl) ?_
 refine WP.seq ?_
 refine WP.usreg rfl ?_
 refine U.p (v := .pointer (some ⟨b14, 1, none⟩)) rfl rfl (.inl rfl) (S.fieldAddr rfl (L 0 rfl rfl) Try.underlying44 rfl ti3 rfl rfl) ?_
 refine U.k rfl rfl (.inl rfl) (S.load rfl (L 0 rfl rfl) Try.underlying3 rfl ((ow17.own (k := 0) rfl).cell rfl)) nd ?_
 refine U.p rfl rfl (.inl rfl) (S.lss rfl (L 0 rfl rfl) K) ?_
 refine U.done (nr rfl) ?_
 refine WP.cond _ (L 0 rfl rfl) rfl (fun c19 => ?_) (fun c19 => ?_)
 ·have h20 := ifT c19 h
  refine WP.ret ?_
  refine sqR ?_
  refine fin.slots' (.inr rfl) fsN rfl ⟨V15, rfl, le16, ?_⟩
  have ow21 := ow17.drop 0 rfl
  have e22 := Option.some.inj h20
  subst e22
  exact ⟨v4, v6, ow21⟩
 ·have h23 := ifF c19 h
  refine WP.skip ?_
  refine sqN ?_
  refine WP.usreg rfl ?_
  refine U.p rfl rfl (.inl rfl) (S.move rfl (L 4 rfl rfl)) ?_
  refine U.p (v := .pointer (some ⟨b14, 1, none⟩)) rfl rfl (.inl rfl) (S.fieldAddr rfl (L 4 rfl rfl) Try.underlying44 rfl ti3 rfl rfl) ?_
  refine U.k rfl rfl (.inl rfl) (S.load rfl (L 0 rfl rfl) Try.underlying3 rfl ((ow17.own (k := 0) rfl).cell rfl)) nd ?_
  have ow24 := ow17.pick 3 rfl
  have ow25 := ow24.pick 3 rfl
  have ow26 := ow25.pick 3 rfl
  obtain ⟨x27, hx28, h29⟩ := bindS h23
  refine O.call (V := V15) rfl rfl (.inl rfl) rfl en44 (aC (L 2 rfl rfl) (aC (L 0 rfl rfl) aN)) (wk_tidy_facts_forget V15 _ p0 p1.d b1 z2 v4 v6 ow26 _ hx28) (fun _ _ _ _ => nd) (fun v30 V31 le32 hp33 => ?_)
  obtain ⟨v35, v37, ow34⟩ := hp33
  refine U.done (nr rfl) ?_
  refine WP.blk ?_
  refine WP.usreg rfl ?_
  refine U.p (v := .pointer (some ⟨b14, 0, none⟩)) rfl rfl (.inl rfl) (S.fieldAddr rfl (L 7 rfl rfl) Try.underlying44 rfl ti3 rfl rfl) ?_
  refine U.k rfl rfl (.inl rfl) (S.load rfl (L 0 rfl rfl) Try.underlying3 rfl ((ow34.own (k := 3) rfl).cell rfl)) nd ?_
  refine U.p rfl rfl (.inl rfl) (S.eqlI rfl (L 0 rfl rfl) K) ?_
  refine U.p rfl rfl (.inl rfl) (S.assign rfl (L 0 rfl rfl)) ?_
  refine U.done (nr rfl) ?_
  refine WP.cond _ (L 0 rfl rfl) rfl (fun c39 => ?_) (fun c39 => ?_)
  ·have h40 := ifT c39 h29
   refine WP.udreg rfl rfl rfl ?_
   refine U.p rfl rfl (.inl rfl) (S.move rfl (L 12 rfl rfl)) ?_
   refine U.p rfl rfl (.inl rfl) (S.nilCheck rfl (L 0 rfl rfl)) ?_
   refine U.p (v := .pointer (some ⟨b1, 0, none⟩)) rfl rfl (.inl rfl) (S.fieldAddr rfl (L 0 rfl rfl) Try.underlying79 rfl ti56 rfl rfl) ?_
   refine U.k rfl rfl (.inl rfl) (S.load rfl (L 0 rfl rfl) Try.underlying56 rfl ((ow34.own (k := 0) rfl).cell rfl)) (fun _ => (okH.nil (fun r h => by cases h; exact (ow34.own (k := 0) rfl).lt))) ?_
   refine U.p (v := .pointer (some ⟨b14, 1, none⟩)) rfl rfl (.inl rfl) (S.fieldAddr rfl (L 15 rfl rfl) Try.underlying44 rfl ti3 rfl rfl) ?_
   refine U.k rfl rfl (.inl rfl) (S.load rfl (L 0 rfl rfl) Try.underlying3 rfl ((ow34.own (k := 3) rfl).cell rfl)) (fun _ => (okH.cons trivial (okH.nil (fun r h => by cases h; exact (ow34.own (k := 3) rfl).lt)))) ?_
   refine U.p (v := .pointer (some ⟨b14, 4, none⟩)) rfl rfl (.inl rfl) (S.fieldAddr rfl (L 17 rfl rfl) Try.underlying44 rfl ti3 rfl rfl) ?_
   refine U.k rfl rfl (.inl rfl) (S.load rfl (L 0 rfl rfl) Try.underlying3 rfl ((ow34.own (k := 3) rfl).cell rfl)) (fun _ => (okH.cons trivial (okH.cons trivial (okH.nil (fun r h => by cases h; exact (ow34.own (k := 3) rfl).lt))))) ?_
   refine O.mapUpdate (k := 1) (w := p1.imm) ow34 rfl rfl rfl (.inl rfl) rfl (L 4 rfl rfl) (L 2 rfl rfl) (L 0 rfl rfl) Try.underlying56 Try.underlying3 (cell_vrel rfl) (fun H1 hs => (fun _ => (okH.cons (Or.inl rfl) (okH.cons (Or.inl rfl) (okH.cons (Or.inl rfl) (okH.nil (fun r h => nomatch h))))))) (fun V41 le42 ow43 => ?_)
   refine U.done (nr rfl) ?_
   refine blkN ?_
   refine fin.slots' (.inl rfl) fsN rfl ⟨V41, rfl, ((le16.trans le32).trans le42), ?_⟩
   have ow44 := ow43.drop 3 rfl
   have e45 := Option.some.inj h40
   subst e45
   exact ⟨v35, v37, ow44⟩
  ·have h46 := ifF c39 h29
   refine WP.usreg rfl ?_
   refine U.p (v := .pointer (some ⟨b14, 0, none⟩)) rfl rfl (.inl rfl) (S.fieldAddr rfl (L 11 rfl rfl) Try.underlying44 rfl ti3 rfl rfl) ?_
   refine U.k rfl rfl (.inl rfl) (S.load rfl (L 0 rfl rfl) Try.underlying3 rfl ((ow34.own (k := 3) rfl).cell rfl)) nd ?_
   refine U.p rfl rfl (.inl rfl) (S.eqlI rfl (L 0 rfl rfl) K) ?_
   refine U.p rfl rfl (.inl rfl) (S.move rfl (L 0 rfl rfl)) ?_
   refine U.joinX 10 (fun e H => ∃ (u47 u48 u49 u50 u51 : Value), H = V31.H ∧ e = [(33, .bool ((decide (p1.op = 2)) && (decide (p1.a ≠ p1.d)))), (32, u47), (31, u48), (30, u49), (29, u50), (28, u51)]) ?_ ?_
   ·rintro _ _ ⟨u47, u48, u49, u50, u51, rfl, rfl⟩
    refine U.p rfl rfl (.inl rfl) (S.assign rfl (L 0 rfl rfl)) ?_
    refine U.done (nr rfl) ?_
    refine WP.cond _ (L 0 rfl rfl) rfl (fun c55 => ?_) (fun c55 => ?_)
    ·have h56 := ifT c55 h46
     refine WP.udreg rfl rfl rfl ?_
     refine U.p rfl rfl (.inl rfl) (S.move rfl (L 23 rfl rfl)) ?_
     refine U.p rfl rfl (.inl rfl) (S.nilCheck rfl (L 0 rfl rfl)) ?_
     refine U.p (v := .pointer (some ⟨b1, 1, none⟩)) rfl rfl (.inl rfl) (S.fieldAddr rfl (L 0 rfl rfl) Try.underlying79 rfl ti56 rfl rfl) ?_
     refine U.k rfl rfl (.inl rfl) (S.load rfl (L 0 rfl rfl) Try.underlying56 rfl ((ow34.own (k := 0) rfl).cell rfl)) (fun _ => (okH.nil (fun r h => by cases h; exact (ow34.own (k := 0) rfl).lt))) ?_
     refine U.p (v := .pointer (some ⟨b14, 1, none⟩)) rfl rfl (.inl rfl) (S.fieldAddr rfl (L 26 rfl rfl) Try.underlying44 rfl ti3 rfl rfl) ?_
     refine U.k rfl rfl (.inl rfl) (S.load rfl (L 0 rfl rfl) Try.underlying3 rfl ((ow34.own (k := 3) rfl).cell rfl)) (fun _ => (okH.cons trivial (okH.nil (fun r h => by cases h; exact (ow34.own (k := 3) rfl).lt)))) ?_
     refine U.p (v := .pointer (some ⟨b14, 2, none⟩)) rfl rfl (.inl rfl) (S.fieldAddr rfl (L 28 rfl rfl) Try.underlying44 rfl ti3 rfl rfl) ?_
     refine U.k rfl rfl (.inl rfl) (S.load rfl (L 0 rfl rfl) Try.underlying3 rfl ((ow34.own (k := 3) rfl).cell rfl)) (fun _ => (okH.cons trivial (okH.cons trivial (okH.nil (fun r h => by cases h; exact (ow34.own (k := 3) rfl).lt))))) ?_
     refine O.mapUpdate (k := 2) (w := p1.a) ow34 rfl rfl rfl (.inl rfl) rfl (L 4 rfl rfl) (L 2 rfl rfl) (L 0 rfl rfl) Try.underlying56 Try.underlying3 (cell_vrel rfl) (fun H1 hs => (fun _ => (okH.cons (Or.inl rfl) (okH.cons (Or.inl rfl) (okH.cons (Or.inl rfl) (okH.nil (fun r h => nomatch h))))))) (fun V57 le58 ow59 => ?_)
     refine U.done (nr rfl) ?_
     refine blkN ?_
     refine fin.slots' (.inl rfl) fsN rfl ⟨V57, rfl, ((le16.trans le32).trans le58), ?_⟩
     have ow60 := ow59.drop 3 rfl
     have e61 := Option.some.inj h56
     subst e61
     exact ⟨v35, v37, ow60⟩
    ·have h62 := ifF c55 h46
     refine WP.skip ?_
     refine blkN ?_
     refine fin.slots' (.inl rfl) fsN rfl ⟨V31, rfl, (le16.trans le32), ?_⟩
     have ow63 := ow34.drop 3 rfl
     have e64 := Option.some.inj h62
     subst e64
     exact ⟨v35, v37, ow63⟩
   ·intro kk
    refine bcase (b := decide (p1.op = 2)) (fun g65 => ?_) (fun g65 => ?_)
    ·skip
     refine U.p (v := .pointer (some ⟨b14, 2, none⟩)) rfl rfl (.inr ⟨_, _, _, rfl, rfl, ((L 0 rfl rfl).trans (cB g65))⟩) (S.fieldAddr rfl (L 15 rfl rfl) Try.underlying44 rfl ti3 rfl rfl) ?_
     refine U.k rfl rfl (.inr ⟨_, _, _, rfl, rfl, ((L 1 rfl rfl).trans (cB g65))⟩) (S.load rfl (L 0 rfl rfl) Try.underlying3 rfl ((ow34.own (k := 3) rfl).cell rfl)) nd ?_
     refine U.p (v := .pointer (some ⟨b14, 1, none⟩)) rfl rfl (.inr ⟨_, _, _, rfl, rfl, ((L 2 rfl rfl).trans (cB g65))⟩) (S.fieldAddr rfl (L 17 rfl rfl) Try.underlying44 rfl ti3 rfl rfl) ?_
     refine U.k rfl rfl (.inr ⟨_, _, _, rfl, rfl, ((L 3 rfl rfl).trans (cB g65))⟩) (S.load rfl (L 0 rfl rfl) Try.underlying3 rfl ((ow34.own (k := 3) rfl).cell rfl)) nd ?_
     refine U.p rfl rfl (.inr ⟨_, _, _, rfl, rfl, ((L 4 rfl rfl).trans (cB g65))⟩) (S.neqI rfl (L 2 rfl rfl) (L 0 rfl rfl)) ?_
     refine U.p rfl rfl (.inl rfl) (S.pickT rfl ((L 5 rfl rfl).trans (cB g65)) (L 0 rfl rfl)) ?_
     exact kk [(33, .bool (decide (p1.a ≠ p1.d))), (32, .bool (decide (p1.a ≠ p1.d))), (31, .int .i64 p1.d), (30, .pointer (some ⟨b14, 1, none⟩)), (29, .int .i64 p1.a), (28, .pointer (some ⟨b14, 2, none⟩))] _ ⟨.bool (decide (p1.a ≠ p1.d)), .int .i64 p1.d, .pointer (some ⟨b14, 1, none⟩), .int .i64 p1.a, .pointer (some ⟨b14, 2, none⟩), rfl, (by rw [g65, Bool.true_and])⟩
    ·skip
     refine U.x rfl rfl rfl rfl ((L 0 rfl rfl).trans (cB g65)) (by decide) ?_
     refine U.x rfl rfl rfl rfl ((L 1 rfl rfl).trans (cB g65)) (by decide) ?_
     refine U.x rfl rfl rfl rfl ((L 2 rfl rfl).trans (cB g65)) (by decide) ?_
     refine U.x rfl rfl rfl rfl ((L 3 rfl rfl).trans (cB g65)) (by decide) ?_
     refine U.x rfl rfl rfl rfl ((L 4 rfl rfl).trans (cB g65)) (by decide) ?_
     refine U.p rfl rfl (.inl rfl) (S.pickF rfl ((L 5 rfl rfl).trans (cB g65)) K) ?_
     exact kk [(33, .bool false), (32, .tuple #[]), (31, .tuple #[]), (30, .tuple #[]), (29, .tuple #[]), (28, .tuple #[])] _ ⟨.tuple #[], .tuple #[], .tuple #[], .tuple #[], .tuple #[], rfl, (by rw [g65, Bool.false_and])⟩
theorem wk_tidy_row (V : Vw) (Rs : List At) (p0 : TFunc) (p1 : Ttidy_Options) (v1 : Value) (f2 : Fz RT_TIns V v1 p0.code) (ow : Ow V (Rs)) (r : TFunc) (h : tidy_row p0 p1 = some r) : ∃ v V', Cl Try.prog 0 19 #[.agg #[.string p0.name, .int .i64 p0.params, .int .i64 p0.regs, v1], .agg #[.bool p1.fold, .bool p1.copy, .bool p1.dead]] V.H v V'.H ∧ V.le V' ∧ (∃ (v3 : Value), v = .agg #[.string r.name, .int .i64 r.params, .int .i64 r.regs, v3] ∧ Fz RT_TIns V' v3 r.code ∧ Ow V' (Rs)) := by
 refine Ct.of (Nat.zero_le _) Try.func19 rfl (nr rfl) ?_
 unfold tidy_row at h
 refine WP.usreg rfl ?_
 refine O.box ow rfl rfl (.inl rfl) rfl (L 0 rfl rfl) (by simp [topV]) rfl nd (fun b5 V6 le7 ow8 => ?_)
 refine O.box ow8 rfl rfl (.inl rfl) rfl (L 2 rfl rfl) (by simp [topV]) rfl nd (fun b10 V11 le12 ow13 => ?_)
 refine O.alloc ow13 rfl rfl (.inl rfl) rfl ti38 rfl rfl nd (fun b15 V16 le17 ow18 => ?_)
 refine U.done (nr rfl) ?_
 refine WP.usreg rfl ?_
 obtain ⟨x20, hx21, h22⟩ := bindS h
 refine O.call (V := V16) rfl rfl (.inl rfl) rfl en25 aN (wk_tidy_fresh V16 _ ow18 _ hx21) (fun _ _ _ _ => nd) (fun v23 V24 le25 hp26 => ?_)
 obtain ⟨b28, z29, v31, v33, rfl, ow27⟩ := hp26
 refine U.p rfl rfl (.inl rfl) (S.assign rfl (L 0 rfl rfl)) ?_
 refine U.done (nr rfl) ?_
 refine WP.usreg rfl ?_
 refine U.p (v := .pointer (some ⟨b5, 3, none⟩)) rfl rfl (.inl rfl) (S.fieldAddr rfl (L 4 rfl rfl) Try.underlying38 rfl ti36 rfl rfl) ?_
 refine U.k rfl rfl (.inl rfl) (S.load rfl (L 0 rfl rfl) Try.underlying36 rfl ((ow27.own (k := 5) rfl).cell rfl)) nd ?_
 have f35 := f2.up (((le7.trans le12).trans le17).trans le25)
 obtain ⟨x36, hx37, h38⟩ := bindS h22
 refine O.call (V := V24) rfl rfl (.inl rfl) rfl en26 (aC (L 0 rfl rfl) aN) (wk_slices_Clone V24 _ p0.code v1 f35 ow27 _ hx37) (fun _ _ _ _ => nd) (fun v39 V40 le41 hp42 => ?_)
 obtain ⟨_, rfl, ow43⟩ := hp42
 refine U.p rfl rfl (.inl rfl) (S.assign rfl (L 0 rfl rfl)) ?_
 refine U.done (nr rfl) ?_
 refine WP.seq ?_
 refine WP.usreg rfl ?_
 refine U.p rfl rfl (.inl rfl) (S.move rfl (L 0 rfl rfl)) ?_
 refine U.p rfl rfl (.inl rfl) (ow43.oslen (k := 0) rfl rfl (L 0 rfl rfl) Try.underlying36) ?_
 refine U.p rfl rfl (.inl rfl) (S.move rfl K) ?_
 refine U.done (nr rfl) ?_
 refine WP.blk ?_
 have ow57 := ow43.pick 0 rfl
 have ow58 := ow57.pick 3 rfl
 have ow59 := ow58.pick 3 rfl
 have ow60 := ow59.pick 3 rfl
 have ow61 := ow60.pick 4 rfl
 have ow62 := ow61.pick 5 rfl
 have ow63 := ow62.pick 6 rfl
 unfold tidy_row_l1 at h38
 obtain ⟨n65, hn64⟩ := loopO_some.1 h38
 refine WP.loopI2 (fun n l V' => ∃ (b47 : Nat) (z48 : Nat) (v50 : Value) (xs51 : List (Int × Int)) (v53 : Value) (xs54 : List (Int × Int)) (xs55 : List TIns) (x56 : Int), l = [(2, .pointer (some ⟨b5, 0, none⟩)), (3, .pointer (some ⟨b10, 0, none⟩)), (4, .pointer (some ⟨b15, 0, none⟩)), (5, .pointer (some ⟨b47, 0, none⟩)), (6, v39), (13, v39), (14, .int .i64 (x36.length : Int)), (15, .int .i64 x56)] ∧ V40.le V' ∧ Ow V' (.pt b5 (.cells 0 [.string p0.name, .int .i64 p0.params, .int .i64 p0.regs, v1]) :: .pt b10 (.cells 0 [.bool p1.fold, .bool p1.copy, .bool p1.dead]) :: .pt b15 (.cells 4 [.string ByteArray.empty, .int .i64 0, .int .i64 0, .slice none 0 0]) :: .pt b47 (.cells z48 [v50, v53]) :: .om (RT.int .i64) false v50 xs51 :: .om (RT.int .i64) false v53 xs54 :: .os RT_TIns v39 xs55 :: Rs) ∧ itO (fun s => tidy_row_l1b p0 p1 x36 s.1 s.2.1 s.2.2.1 s.2.2.2) n (xs51, xs54, xs55, x56) = some r) n65 _ ⟨b28, z29, v31, x20.num, v33, x20.same, x36, 0, rfl, .refl _, ow63, hn64⟩ (allCons (L 11 rfl rfl) (allCons (L 10 rfl rfl) (allCons (L 9 rfl rfl) (allCons (L 7 rfl rfl) (allCons (L 3 rfl rfl) (allCons (L 2 rfl rfl) (allCons (L 1 rfl rfl) (allCons (L 0 rfl rfl) allNil)))))))) ?_
 rintro _ _ V66 ⟨b47, z48, v50, xs51, v53, xs54, xs55, x56, rfl, le67, ow68, h72⟩
 obtain ⟨m69, q70, rfl, h73, e71⟩ := itS h72
 replace h73 : tidy_row_l1b p0 p1 x36 xs51 xs54 xs55 x56 = some q70 := h73
 unfold tidy_row_l1b at h73
 refine WP.usreg rfl ?_
 refine U.p rfl rfl (.inl rfl) (S.lss rfl (L 7 rfl rfl) (L 6 rfl rfl)) ?_
 refine U.done (nr rfl) ?_
 refine WP.seq ?_
 refine WP.cond _ (L 0 rfl rfl) rfl (fun c74 => ?_) (fun c74 => ?_)
 ·have h75 := ifT c74 h73
  refine WP.skip ?_
  refine sqN ?_
  refine WP.seq ?_
  refine WP.blk ?_
  refine WP.usreg rfl ?_
  refine U.p rfl rfl (.inl rfl) (S.move rfl (L 8 rfl rfl)) ?_
  obtain ⟨x76, hx77, h78⟩ := bindS h75
  obtain ⟨b79, o80, n81, c82, hv83⟩ := ow68.ospt (k := 6) rfl hx77
  obtain ⟨_, hv84, _⟩ := ow68.osel (k := 6) rfl hv83 hx77
  refine U.p rfl rfl (.inl rfl) (S.index rfl ((L 7 rfl rfl).trans hv84) (L 9 rfl rfl) Try.underlying36 ti44 (ix_ge hx77) (ix_lt hx77)) ?_
  obtain ⟨cs85, hv86, hlt87, hr88, hc89⟩ := ow68.osel (k := 6) rfl hv83 hx77
  obtain ⟨v90, rfl, f91⟩ := hr88
  refine U.k rfl rfl (.inl rfl) (S.loadN (cs := [.int .i64 x76.op, .int .i64 x76.d, .int .i64 x76.a, .int .i64 x76.b, .int .i64 x76.imm, v90, .int .i64 x76.what, .bool x76.volatile, .bool x76.final]) rfl (L 0 rfl rfl) Try.underlying44 rfl ti44 rfl hc89) nd ?_
  refine O.alloc ow68 rfl rfl (.inl rfl) rfl ti44 rfl rfl nd (fun b92 V93 le94 ow95 => ?_)
  refine U.p rfl rfl (.inl rfl) (S.assign rfl (L 3 rfl rfl)) ?_
  refine O.store (k := 0) (cs := [.int .i64 x76.op, .int .i64 x76.d, .int .i64 x76.a, .int .i64 x76.b, .int .i64 x76.imm, v90, .int .i64 x76.what, .bool x76.volatile, .bool x76.final]) (c' := [.int .i64 x76.op, .int .i64 x76.d, .int .i64 x76.a, .int .i64 x76.b, .int .i64 x76.imm, v90, .int .i64 x76.what, .bool x76.volatile, .bool x76.final]) ow95 rfl rfl rfl (.inl rfl) rfl (L 1 rfl rfl) (L 2 rfl rfl) ti44 (by simp [topV]) rfl rfl (nr rfl) (by have q0 := f91.one; simp only [List.all_cons, List.all_nil, q0]; rfl) rfl nd (fun V97 le98 ow99 => ?_)
  refine U.done (nr rfl) ?_
  refine WP.seqI (fun l V' => ∃ (b101 : Nat) (z102 : Nat) (v104 : Value) (xs105 : List (Int × Int)) (v107 : Value) (xs108 : List (Int × Int)), l = [(2, .pointer (some ⟨b5, 0, none⟩)), (3, .pointer (some ⟨b10, 0, none⟩)), (4, .pointer (some ⟨b15, 0, none⟩)), (5, .pointer (some ⟨b101, 0, none⟩)), (6, v39), (7, .int .i64 x56), (8, .pointer (some ⟨b92, 0, none⟩)), (13, v39), (14, .int .i64 (x36.length : Int)), (15, .int .i64 x56)] ∧ V97.le V' ∧ Ow V' (.pt b5 (.cells 0 [.string p0.name, .int .i64 p0.params, .int .i64 p0.regs, v1]) :: .pt b10 (.cells 0 [.bool p1.fold, .bool p1.copy, .bool p1.dead]) :: .pt b15 (.cells 4 [.string ByteArray.empty, .int .i64 0, .int .i64 0, .slice none 0 0]) :: .pt b101 (.cells z102 [v104, v107]) :: .om (RT.int .i64) false v104 xs105 :: .om (RT.int .i64) false v107 xs108 :: .os RT_TIns v39 xs55 :: .pt b92 (.cells 9 [.int .i64 x76.op, .int .i64 x76.d, .int .i64 x76.a, .int .i64 x76.b, .int .i64 x76.imm, v90, .int .i64 x76.what, .bool x76.volatile, .bool x76.final]) :: Rs) ∧ tidy_row_k1 p1 xs55 x56 x76 xs105 xs108 = some q70) ?_ ?_
  ·rintro _ V109 ⟨b101, z102, v104, xs105, v107, xs108, rfl, le110, ow111, h112⟩
   unfold tidy_row_k1 at h112
   refine WP.seqI (fun l V' => ∃ (x113 : Int) (x114 : Int) (x115 : Int) (x116 : Int) (x117 : Int) (xs118 : List Int) (v119 : Value) (x121 : Int) (x122 : Bool) (x123 : Bool), l = [(2, .pointer (some ⟨b5, 0, none⟩)), (3, .pointer (some ⟨b10, 0, none⟩)), (4, .pointer (some ⟨b15, 0, none⟩)), (5, .pointer (some ⟨b101, 0, none⟩)), (6, v39), (7, .int .i64 x56), (8, .pointer (some ⟨b92, 0, none⟩)), (13, v39), (14, .int .i64 (x36.length : Int)), (15, .int .i64 x56)] ∧ V109.le V' ∧ Fz (RT.int .i64) V' v119 xs118 ∧ Ow V' (.pt b5 (.cells 0 [.string p0.name, .int .i64 p0.params, .int .i64 p0.regs, v1]) :: .pt b10 (.cells 0 [.bool p1.fold, .bool p1.copy, .bool p1.dead]) :: .pt b15 (.cells 4 [.string ByteArray.empty, .int .i64 0, .int .i64 0, .slice none 0 0]) :: .pt b101 (.cells z102 [v104, v107]) :: .om (RT.int .i64) false v104 xs105 :: .om (RT.int .i64) false v107 xs108 :: .os RT_TIns v39 xs55 :: .pt b92 (.cells 9 [.int .i64 x113, .int .i64 x114, .int .i64 x115, .int .i64 x116, .int .i64 x117, v119, .int .i64 x121, .bool x122, .bool x123]) :: Rs) ∧ tidy_row_k2 p1 xs55 x56 xs105 xs108 x113 x114 x115 x116 x117 xs118 x121 x122 x123 = some q70) ?_ ?_
   ·rintro _ V124 ⟨x113, x114, x115, x116, x117, xs118, v119, x121, x122, x123, rfl, le125, f120, ow126, h127⟩
    unfold tidy_row_k2 at h127
    refine WP.seqI (fun l V' => ∃ (x128 : Int) (x129 : Int) (x130 : Int) (x131 : Int) (x132 : Int) (xs133 : List Int) (v134 : Value) (x136 : Int) (x137 : Bool) (x138 : Bool), l = [(2, .pointer (some ⟨b5, 0, none⟩)), (3, .pointer (some ⟨b10, 0, none⟩)), (4, .pointer (some ⟨b15, 0, none⟩)), (5, .pointer (some ⟨b101, 0, none⟩)), (6, v39), (7, .int .i64 x56), (8, .pointer (some ⟨b92, 0, none⟩)), (13, v39), (14, .int .i64 (x36.length : Int)), (15, .int .i64 x56)] ∧ V124.le V' ∧ Fz (RT.int .i64) V' v134 xs133 ∧ Ow V' (.pt b5 (.cells 0 [.string p0.name, .int .i64 p0.params, .int .i64 p0.regs, v1]) :: .pt b10 (.cells 0 [.bool p1.fold, .bool p1.copy, .bool p1.dead]) :: .pt b15 (.cells 4 [.string ByteArray.empty, .int .i64 0, .int .i64 0, .slice none 0 0]) :: .pt b101 (.cells z102 [v104, v107]) :: .om (RT.int .i64) false v104 xs105 :: .om (RT.int .i64) false v107 xs108 :: .os RT_TIns v39 xs55 :: .pt b92 (.cells 9 [.int .i64 x128, .int .i64 x129, .int .i64 x130, .int .i64 x131, .int .i64 x132, v134, .int .i64 x136, .bool x137, .bool x138]) :: Rs) ∧ tidy_row_k3 xs55 x56 xs105 xs108 x128 x129 x130 x131 x132 xs133 x136 x137 x138 = some q70) ?_ ?_
    ·rintro _ V139 ⟨x128, x129, x130, x131, x132, xs133, v134, x136, x137, x138, rfl, le140, f135, ow141, h142⟩
     unfold tidy_row_k3 at h142
     refine WP.usreg rfl ?_
     refine U.p rfl rfl (.inl rfl) (S.move rfl (L 3 rfl rfl)) ?_
     refine U.k rfl rfl (.inl rfl) (S.loadB rfl (L 7 rfl rfl) Try.underlying44 rfl ti44 (ow141.own (k := 7) rfl).get rfl) nd ?_
     have ow143 := ow141.pick 5 rfl
     have ow144 := ow143.pick 5 rfl
     have ow145 := ow144.pick 5 rfl
     obtain ⟨x146, hx147, h148⟩ := bindS h142
     refine O.call (V := V139) rfl rfl (.inl rfl) rfl en29 (aC (L 1 rfl rfl) (aC (L 0 rfl rfl) aN)) (wk_tidy_facts_learn V139 _ (⟨xs105, xs108⟩ : Ttidy_facts) (⟨x128, x129, x130, x131, x132, xs133, x136, x137, x138⟩ : TIns) b101 z102 v104 v107 v134 f135 ow145 _ hx147) (fun _ _ _ _ => nd) (fun v149 V150 le151 hp152 => ?_)
     obtain ⟨v154, v156, ow153⟩ := hp152
     refine U.done (nr rfl) ?_
     refine WP.ureg rfl ?_
     refine U.p rfl rfl (.inl rfl) (S.move rfl (L 7 rfl rfl)) ?_
     refine U.p rfl rfl (.inl rfl) (S.move rfl (L 9 rfl rfl)) ?_
     refine U.k rfl rfl (.inl rfl) (S.loadB rfl (L 11 rfl rfl) Try.underlying44 rfl ti44 (ow153.own (k := 7) rfl).get rfl) nd ?_
     obtain ⟨x158, hx159, h160⟩ := bindS h148
     obtain ⟨_, hv161, _⟩ := ow153.osel (k := 6) rfl hv83 hx159
     refine U.p rfl rfl (.inl rfl) (S.index rfl ((L 2 rfl rfl).trans hv161) (L 1 rfl rfl) Try.underlying36 ti44 (ix_ge hx159) (ix_lt hx159)) ?_
     have f162 := f135.up le151
     obtain ⟨cs163, hv164, hlt165, hr166, hc167⟩ := ow153.osel (k := 6) rfl hv83 hx159
     obtain ⟨v168, rfl, f169⟩ := hr166
     refine O.storeE (k := 6) (R := RT_TIns) (j := 0) (y := (⟨x128, x129, x130, x131, x132, xs133, x136, x137, x138⟩ : TIns)) (cs := [.int .i64 x128, .int .i64 x129, .int .i64 x130, .int .i64 x131, .int .i64 x132, v134, .int .i64 x136, .bool x137, .bool x138]) ow153 rfl hv164 rfl rfl (.inl rfl) rfl (L 0 rfl rfl) (L 1 rfl rfl) ti44 hx159 (by simp [topV]) rfl rfl (by have q0 := f162.one; simp only [List.all_cons, List.all_nil, q0]; rfl) (full ⟨_, rfl, f162⟩) (fun _ _ => nd) (fun V170 le171 ow172 => ?_)
     refine U.done (nr rfl) ?_
     refine blkN (sqN ?_)
     refine WP.ureg rfl ?_
     refine U.p rfl rfl (.inl rfl) (S.add rfl (L 16 rfl rfl) K) ?_
     refine U.p rfl rfl (.inl rfl) (S.move rfl (L 0 rfl rfl)) ?_
     refine U.done (nr rfl) ?_
     refine sqN ?_
     have ow173 := ow172.drop 7 rfl
     have ow174 := ow173.pick 6 rfl
     have ow175 := ow174.pick 3 rfl
     have ow176 := ow175.pick 3 rfl
     have ow177 := ow176.pick 3 rfl
     have ow178 := ow177.pick 6 rfl
     have ow179 := ow178.pick 6 rfl
     have ow180 := ow179.pick 6 rfl
     exact ⟨_, V170, rfl, ⟨m69, Nat.lt_succ_self _, b101, z102, v154, x146.num, v156, x146.same, (xs55.set (Int.toNat x56) (⟨x128, x129, x130, x131, x132, xs133, x136, x137, x138⟩ : TIns)), w64 (x56 + 1), rfl, (((((((le67.trans le94).trans le98).trans le110).trans le125).trans le140).trans le151).trans le171), ow180, backS h160 e71⟩, (allCons (L 9 rfl rfl) (allCons (L 10 rfl rfl) (allCons (L 11 rfl rfl) (allCons (L 12 rfl rfl) (allCons (L 13 rfl rfl) (allCons (L 16 rfl rfl) (allCons (L 17 rfl rfl) (allCons (L 0 rfl rfl) allNil))))))))⟩
    ·skip
     refine WP.usreg rfl ?_
     refine U.p (v := .pointer (some ⟨b10, 0, none⟩)) rfl rfl (.inl rfl) (S.fieldAddr rfl (L 1 rfl rfl) Try.underlying27 rfl ti4 rfl rfl) ?_
     refine U.k rfl rfl (.inl rfl) (S.load rfl (L 0 rfl rfl) Try.underlying4 rfl ((ow126.own (k := 1) rfl).cell rfl)) nd ?_
     refine U.done (nr rfl) ?_
     refine WP.cond _ (L 0 rfl rfl) rfl (fun c181 => ?_) (fun c181 => ?_)
     ·have h182 := ifT c181 h127
      refine WP.ureg rfl ?_
      refine U.p rfl rfl (.inl rfl) (S.move rfl (L 5 rfl rfl)) ?_
      refine U.k rfl rfl (.inl rfl) (S.loadB rfl (L 9 rfl rfl) Try.underlying44 rfl ti44 (ow126.own (k := 7) rfl).get rfl) nd ?_
      have ow183 := ow126.pick 5 rfl
      have ow184 := ow183.pick 5 rfl
      have ow185 := ow184.pick 5 rfl
      obtain ⟨x186, hx187, h188⟩ := bindS h182
      refine O.call (V := V124) rfl rfl (.inl rfl) rfl en28 (aC (L 1 rfl rfl) (aC (L 0 rfl rfl) aN)) (wk_tidy_facts_fold V124 _ (⟨xs105, xs108⟩ : Ttidy_facts) (⟨x113, x114, x115, x116, x117, xs118, x121, x122, x123⟩ : TIns) b101 z102 v104 v107 v119 f120 ow185 _ hx187) (fun _ _ _ _ => nd) (fun v189 V190 le191 hp192 => ?_)
      obtain ⟨v194, rfl, f195, ow193⟩ := hp192
      refine O.store (k := 7) (cs := [.int .i64 x186.op, .int .i64 x186.d, .int .i64 x186.a, .int .i64 x186.b, .int .i64 x186.imm, v194, .int .i64 x186.what, .bool x186.volatile, .bool x186.final]) (c' := [.int .i64 x186.op, .int .i64 x186.d, .int .i64 x186.a, .int .i64 x186.b, .int .i64 x186.imm, v194, .int .i64 x186.what, .bool x186.volatile, .bool x186.final]) ow193 rfl rfl rfl (.inl rfl) rfl (L 11 rfl rfl) (L 0 rfl rfl) ti44 (by simp [topV]) rfl rfl (nr rfl) (by have q0 := f195.one; simp only [List.all_cons, List.all_nil, q0]; rfl) rfl nd (fun V196 le197 ow198 => ?_)
      refine U.done (nr rfl) ?_
      refine sqN ?_
      have ow199 := ow198.pick 7 rfl
      have ow200 := ow199.pick 7 rfl
      have ow201 := ow200.pick 4 rfl
      have ow202 := ow201.pick 4 rfl
      have ow203 := ow202.pick 4 rfl
      have ow204 := ow203.pick 7 rfl
      have ow205 := ow204.pick 7 rfl
      have ow206 := ow205.pick 7 rfl
      have f207 := f195.up le197
      exact ⟨_, V196, rfl, ⟨x186.op, x186.d, x186.a, x186.b, x186.imm, x186.args, v194, x186.what, x186.volatile, x186.final, rfl, (le191.trans le197), f207, ow206, h188⟩, (allCons (L 5 rfl rfl) (allCons (L 6 rfl rfl) (allCons (L 7 rfl rfl) (allCons (L 8 rfl rfl) (allCons (L 9 rfl rfl) (allCons (L 10 rfl rfl) (allCons (L 11 rfl rfl) (allCons (L 12 rfl rfl) (allCons (L 13 rfl rfl) (allCons (L 14 rfl rfl) allNil))))))))))⟩
     ·have h208 := ifF c181 h127
      refine WP.skip ?_
      refine sqN ?_
      exact ⟨_, V124, rfl, ⟨x113, x114, x115, x116, x117, xs118, v119, x121, x122, x123, rfl, (.refl _), f120, ow126, h208⟩, (allCons (L 2 rfl rfl) (allCons (L 3 rfl rfl) (allCons (L 4 rfl rfl) (allCons (L 5 rfl rfl) (allCons (L 6 rfl rfl) (allCons (L 7 rfl rfl) (allCons (L 8 rfl rfl) (allCons (L 9 rfl rfl) (allCons (L 10 rfl rfl) (allCons (L 11 rfl rfl) allNil))))))))))⟩
   ·skip
    refine WP.usreg rfl ?_
    refine U.p (v := .pointer (some ⟨b10, 1, none⟩)) rfl rfl (.inl rfl) (S.fieldAddr rfl (L 1 rfl rfl) Try.underlying27 rfl ti4 rfl rfl) ?_
    refine U.k rfl rfl (.inl rfl) (S.load rfl (L 0 rfl rfl) Try.underlying4 rfl ((ow111.own (k := 1) rfl).cell rfl)) nd ?_
    refine U.done (nr rfl) ?_
    refine WP.cond _ (L 0 rfl rfl) rfl (fun c209 => ?_) (fun c209 => ?_)
    ·have h210 := ifT c209 h112
     refine WP.ureg rfl ?_
     refine U.p rfl rfl (.inl rfl) (S.move rfl (L 5 rfl rfl)) ?_
     refine U.k rfl rfl (.inl rfl) (S.loadB rfl (L 9 rfl rfl) Try.underlying44 rfl ti44 (ow111.own (k := 7) rfl).get rfl) nd ?_
     have f211 := f91.up ((le94.trans le98).trans le110)
     have ow212 := ow111.pick 5 rfl
     have ow213 := ow212.pick 5 rfl
     have ow214 := ow213.pick 5 rfl
     obtain ⟨x215, hx216, h217⟩ := bindS h210
     refine O.call (V := V109) rfl rfl (.inl rfl) rfl en27 (aC (L 1 rfl rfl) (aC (L 0 rfl rfl) aN)) (wk_tidy_facts_renamed V109 _ (⟨xs105, xs108⟩ : Ttidy_facts) x76 b101 z102 v104 v107 v90 f211 ow214 _ hx216) (fun _ _ _ _ => nd) (fun v218 V219 le220 hp221 => ?_)
     obtain ⟨v223, rfl, f224, ow222⟩ := hp221
     refine O.store (k := 7) (cs := [.int .i64 x215.op, .int .i64 x215.d, .int .i64 x215.a, .int .i64 x215.b, .int .i64 x215.imm, v223, .int .i64 x215.what, .bool x215.volatile, .bool x215.final]) (c' := [.int .i64 x215.op, .int .i64 x215.d, .int .i64 x215.a, .int .i64 x215.b, .int .i64 x215.imm, v223, .int .i64 x215.what, .bool x215.volatile, .bool x215.final]) ow222 rfl rfl rfl (.inl rfl) rfl (L 11 rfl rfl) (L 0 rfl rfl) ti44 (by simp [topV]) rfl rfl (nr rfl) (by have q0 := f224.one; simp only [List.all_cons, List.all_nil, q0]; rfl) rfl nd (fun V225 le226 ow227 => ?_)
     refine U.done (nr rfl) ?_
     refine sqN ?_
     have ow228 := ow227.pick 7 rfl
     have ow229 := ow228.pick 7 rfl
     have ow230 := ow229.pick 4 rfl
     have ow231 := ow230.pick 4 rfl
     have ow232 := ow231.pick 4 rfl
     have ow233 := ow232.pick 7 rfl
     have ow234 := ow233.pick 7 rfl
     have ow235 := ow234.pick 7 rfl
     have f236 := f224.up le226
     exact ⟨_, V225, rfl, ⟨x215.op, x215.d, x215.a, x215.b, x215.imm, x215.args, v223, x215.what, x215.volatile, x215.final, rfl, (le220.trans le226), f236, ow235, h217⟩, (allCons (L 5 rfl rfl) (allCons (L 6 rfl rfl) (allCons (L 7 rfl rfl) (allCons (L 8 rfl rfl) (allCons (L 9 rfl rfl) (allCons (L 10 rfl rfl) (allCons (L 11 rfl rfl) (allCons (L 12 rfl rfl) (allCons (L 13 rfl rfl) (allCons (L 14 rfl rfl) allNil))))))))))⟩
    ·have h237 := ifF c209 h112
     refine WP.skip ?_
     refine sqN ?_
     have f238 := f91.up ((le94.trans le98).trans le110)
     exact ⟨_, V109, rfl, ⟨x76.op, x76.d, x76.a, x76.b, x76.imm, x76.args, v90, x76.what, x76.volatile, x76.final, rfl, (.refl _), f238, ow111, h237⟩, (allCons (L 2 rfl rfl) (allCons (L 3 rfl rfl) (allCons (L 4 rfl rfl) (allCons (L 5 rfl rfl) (allCons (L 6 rfl rfl) (allCons (L 7 rfl rfl) (allCons (L 8 rfl rfl) (allCons (L 9 rfl rfl) (allCons (L 10 rfl rfl) (allCons (L 11 rfl rfl) allNil))))))))))⟩
  ·skip
   refine WP.usreg rfl ?_
   refine U.p (v := .pointer (some ⟨b92, 0, none⟩)) rfl rfl (.inl rfl) (S.fieldAddr rfl (L 1 rfl rfl) Try.underlying44 rfl ti3 rfl rfl) ?_
   refine U.k rfl rfl (.inl rfl) (S.load rfl (L 0 rfl rfl) Try.underlying3 rfl ((ow99.own (k := 0) rfl).cell rfl)) nd ?_
   refine U.p rfl rfl (.inl rfl) (S.eqlI rfl (L 0 rfl rfl) K) ?_
   refine U.done (nr rfl) ?_
   refine WP.cond _ (L 0 rfl rfl) rfl (fun c239 => ?_) (fun c239 => ?_)
   ·have h240 := ifT c239 h78
    refine WP.ureg rfl ?_
    obtain ⟨x241, hx242, h243⟩ := bindS h240
    refine O.call (V := V97) rfl rfl (.inl rfl) rfl en25 aN (wk_tidy_fresh V97 _ ow99 _ hx242) (fun _ _ _ _ => nd) (fun v244 V245 le246 hp247 => ?_)
    obtain ⟨b249, z250, v252, v254, rfl, ow248⟩ := hp247
    refine U.p rfl rfl (.inl rfl) (S.assign rfl (L 0 rfl rfl)) ?_
    refine U.done (nr rfl) ?_
    refine sqN ?_
    have ow256 := ow248.drop 7 rfl
    have ow257 := ow256.drop 7 rfl
    have ow258 := ow257.drop 7 rfl
    have ow259 := ow258.pick 3 rfl
    have ow260 := ow259.pick 7 rfl
    have ow261 := ow260.pick 4 rfl
    have ow262 := ow261.pick 4 rfl
    have ow263 := ow262.pick 4 rfl
    have ow264 := ow263.pick 7 rfl
    have ow265 := ow264.pick 7 rfl
    have ow266 := ow265.pick 7 rfl
    exact ⟨_, V245, rfl, ⟨b249, z250, v252, x241.num, v254, x241.same, rfl, le246, ow266, h243⟩, (allCons (L 11 rfl rfl) (allCons (L 12 rfl rfl) (allCons (L 13 rfl rfl) (allCons (L 0 rfl rfl) (allCons (L 15 rfl rfl) (allCons (L 5 rfl rfl) (allCons (L 6 rfl rfl) (allCons (L 16 rfl rfl) (allCons (L 17 rfl rfl) (allCons (L 18 rfl rfl) allNil))))))))))⟩
   ·have h267 := ifF c239 h78
    refine WP.skip ?_
    refine sqN ?_
    have ow268 := ow99.pick 0 rfl
    have ow269 := ow268.pick 7 rfl
    have ow270 := ow269.pick 7 rfl
    have ow271 := ow270.pick 7 rfl
    have ow272 := ow271.pick 7 rfl
    have ow273 := ow272.pick 7 rfl
    have ow274 := ow273.pick 7 rfl
    have ow275 := ow274.pick 7 rfl
    exact ⟨_, V97, rfl, ⟨b47, z48, v50, xs51, v53, xs54, rfl, (.refl _), ow275, h267⟩, (allCons (L 9 rfl rfl) (allCons (L 10 rfl rfl) (allCons (L 11 rfl rfl) (allCons (L 12 rfl rfl) (allCons (L 13 rfl rfl) (allCons (L 3 rfl rfl) (allCons (L 4 rfl rfl) (allCons (L 14 rfl rfl) (allCons (L 15 rfl rfl) (allCons (L 16 rfl rfl) allNil))))))))))⟩
 ·have h276 := ifF c74 h73
  refine WP.exit ?_
  refine sqE (sqE (blkE (sqN ?_)))
  have h277 := exitS h276 e71
  refine WP.usreg rfl ?_
  refine U.p rfl rfl (.inl rfl) (S.move rfl (L 5 rfl rfl)) ?_
  refine U.p (v := .pointer (some ⟨b5, 3, none⟩)) rfl rfl (.inl rfl) (S.fieldAddr rfl (L 2 rfl rfl) Try.underlying38 rfl ti36 rfl rfl) ?_
  refine O.store (k := 0) (cs := [v39]) (c' := [.string p0.name, .int .i64 p0.params, .int .i64 p0.regs, v39]) ow68 rfl rfl rfl (.inl rfl) rfl (L 0 rfl rfl) (L 1 rfl rfl) ti36 (ow68.osne (k := 6) rfl) (by rw [ow68.oscells (k := 6) rfl]) rfl (nr rfl) (by have q0 := (ow68.osone (k := 6) rfl); simp only [List.all_cons, List.all_nil, q0]; rfl) rfl nd (fun V278 le279 ow280 => ?_)
  refine U.done (nr rfl) ?_
  refine WP.usreg rfl ?_
  refine U.k rfl rfl (.inl rfl) (S.loadB rfl (L 3 rfl rfl) Try.underlying38 rfl ti38 (ow280.own (k := 0) rfl).get rfl) nd ?_
  refine O.store (k := 2) (cs := [.string p0.name, .int .i64 p0.params, .int .i64 p0.regs, v39]) (c' := [.string p0.name, .int .i64 p0.params, .int .i64 p0.regs, v39]) ow280 rfl rfl rfl (.inl rfl) rfl (L 6 rfl rfl) (L 0 rfl rfl) ti38 (by simp [topV]) rfl rfl (nr rfl) (by have q0 := (ow280.osone (k := 6) rfl); simp only [List.all_cons, List.all_nil, q0]; rfl) rfl nd (fun V281 le282 ow283 => ?_)
  refine U.done (nr rfl) ?_
  refine WP.ret ?_
  obtain ⟨V284, eV288, le285, f286, ow287⟩ := ow283.osfz (k := 6) rfl
  rw [← eV288]
  refine fin.cellN (.inr rfl) rfl (L 6 rfl rfl) Try.underlying38 rfl ti38 (ow287.own (k := 2) rfl).get rfl ⟨V284, rfl, ((((((((le7.trans le12).trans le17).trans le25).trans le41).trans le67).trans le279).trans le282).trans le285), ?_⟩
  have ow290 := ow287.drop 0 rfl
  have ow291 := ow290.drop 0 rfl
  have ow292 := ow291.drop 0 rfl
  have ow293 := ow292.drop 0 rfl
  have ow294 := ow293.drop 0 rfl
  have ow295 := ow294.drop 0 rfl
  have e296 := Option.some.inj h277
  subst e296
  exact ⟨v39, rfl, f286, ow295⟩
theorem wk_flow_place_c1 (V : Vw) (Rs : List At) (p0 : TIns) (p1 : Int) (v1 : Value) (b3 : Nat) (z4 : Nat) (f2 : Fz (RT.int .i64) V v1 p0.args) (ow : Ow V (.pt b3 (.cells z4 [.int .i64 p1]) :: Rs)) (r : Bool) (h : flow_place_c1 p0 p1 = some r) : ∃ v V', Cl Try.prog 0 58 #[.agg #[.int .i64 p0.op, .int .i64 p0.d, .int .i64 p0.a, .int .i64 p0.b, .int .i64 p0.imm, v1, .int .i64 p0.what, .bool p0.volatile, .bool p0.final], .pointer (some ⟨b3, 0, none⟩)] V.H v V'.H ∧ V.le V' ∧ (v = .bool r ∧ Ow V' (.pt b3 (.cells z4 [.int .i64 p1]) :: Rs)) := by
 refine Ct.of (Nat.zero_le _) Try.func58 rfl (nr rfl) ?_
 unfold flow_place_c1 at h
 refine WP.usreg rfl ?_
 refine O.box ow rfl rfl (.inl rfl) rfl (L 0 rfl rfl) (by simp [topV]) rfl nd (fun b6 V7 le8 ow9 => ?_)
 refine U.p rfl rfl (.inl rfl) (S.assign rfl K) ?_
 refine U.done (nr rfl) ?_
 refine WP.usreg rfl ?_
 refine U.p (v := .pointer (some ⟨b6, 0, none⟩)) rfl rfl (.inl rfl) (S.fieldAddr rfl (L 1 rfl rfl) Try.underlying44 rfl ti3 rfl rfl) ?_
 refine U.k rfl rfl (.inl rfl) (S.load rfl (L 0 rfl rfl) Try.underlying3 rfl ((ow9.own (k := 0) rfl).cell rfl)) nd ?_
 refine U.p rfl rfl (.inl rfl) (S.eqlI rfl (L 0 rfl rfl) K) ?_
 refine U.p rfl rfl (.inl rfl) (S.move rfl (L 0 rfl rfl)) ?_
 refine U.joinX 9 (fun e H => ∃ (u11 u12 u13 u14 : Value), H = V7.H ∧ e = [(12, .bool ((decide (p0.op = 11)) && (decide (p0.imm = p1)))), (11, u11), (10, u12), (9, u13), (8, u14)]) ?_ ?_
 ·rintro _ _ ⟨u11, u12, u13, u14, rfl, rfl⟩
  refine U.p rfl rfl (.inl rfl) (S.assign rfl (L 0 rfl rfl)) ?_
  refine U.done (nr rfl) ?_
  refine WP.ret ?_
  refine fin.slot (.inr rfl) rfl (L 0 rfl rfl) ⟨V7, rfl, le8, ?_⟩
  have ow18 := ow9.drop 0 rfl
  have e19 := Option.some.inj h
  subst e19
  exact ⟨rfl, ow18⟩
 ·intro kk
  refine bcase (b := decide (p0.op = 11)) (fun g20 => ?_) (fun g20 => ?_)
  ·skip
   refine U.p (v := .pointer (some ⟨b6, 4, none⟩)) rfl rfl (.inr ⟨_, _, _, rfl, rfl, ((L 0 rfl rfl).trans (cB g20))⟩) (S.fieldAddr rfl (L 5 rfl rfl) Try.underlying44 rfl ti3 rfl rfl) ?_
   refine U.k rfl rfl (.inr ⟨_, _, _, rfl, rfl, ((L 1 rfl rfl).trans (cB g20))⟩) (S.load rfl (L 0 rfl rfl) Try.underlying3 rfl ((ow9.own (k := 0) rfl).cell rfl)) nd ?_
   refine U.k rfl rfl (.inr ⟨_, _, _, rfl, rfl, ((L 2 rfl rfl).trans (cB g20))⟩) (S.load rfl (L 9 rfl rfl) Try.underlying3 rfl ((ow9.own (k := 1) rfl).cell rfl)) nd ?_
   refine U.p rfl rfl (.inr ⟨_, _, _, rfl, rfl, ((L 3 rfl rfl).trans (cB g20))⟩) (S.eqlI rfl (L 1 rfl rfl) (L 0 rfl rfl)) ?_
   refine U.p rfl rfl (.inl rfl) (S.pickT rfl ((L 4 rfl rfl).trans (cB g20)) (L 0 rfl rfl)) ?_
   exact kk [(12, .bool (decide (p0.imm = p1))), (11, .bool (decide (p0.imm = p1))), (10, .int .i64 p1), (9, .int .i64 p0.imm), (8, .pointer (some ⟨b6, 4, none⟩))] _ ⟨.bool (decide (p0.imm = p1)), .int .i64 p1, .int .i64 p0.imm, .pointer (some ⟨b6, 4, none⟩), rfl, (by rw [g20, Bool.true_and])⟩
  ·skip
   refine U.x rfl rfl rfl rfl ((L 0 rfl rfl).trans (cB g20)) (by decide) ?_
   refine U.x rfl rfl rfl rfl ((L 1 rfl rfl).trans (cB g20)) (by decide) ?_
   refine U.x rfl rfl rfl rfl ((L 2 rfl rfl).trans (cB g20)) (by decide) ?_
   refine U.x rfl rfl rfl rfl ((L 3 rfl rfl).trans (cB g20)) (by decide) ?_
   refine U.p rfl rfl (.inl rfl) (S.pickF rfl ((L 4 rfl rfl).trans (cB g20)) K) ?_
   exact kk [(12, .bool false), (11, .tuple #[]), (10, .tuple #[]), (9, .tuple #[]), (8, .tuple #[])] _ ⟨.tuple #[], .tuple #[], .tuple #[], .tuple #[], rfl, (by rw [g20, Bool.false_and])⟩
theorem wk_slices_IndexFunc (V : Vw) (Rs : List At) (p0 : List TIns) (p1_10 : Int) (v1 : Value) (b3 : Nat) (z4 : Nat) (f2 : Fz RT_TIns V v1 p0) (ow : Ow V (.pt b3 (.cells z4 [.int .i64 p1_10]) :: Rs)) (r : Int) (h : slices_IndexFunc p0 p1_10 = some r) : ∃ v V', Cl Try.prog 0 57 #[v1, .func (.func 58) #[] #[.pointer (some ⟨b3, 0, none⟩)]] V.H v V'.H ∧ V.le V' ∧ (v = .int .i64 r ∧ Ow V' (.pt b3 (.cells z4 [.int .i64 p1_10]) :: Rs)) := by
 refine Ct.of (Nat.zero_le _) Try.func57 rfl (nr rfl) ?_
 unfold slices_IndexFunc at h
 refine WP.usreg rfl ?_
 refine U.p rfl rfl (.inl rfl) (S.assign rfl K) ?_
 refine U.done (nr rfl) ?_
 refine WP.seq ?_
 refine WP.usreg rfl ?_
 refine U.p rfl rfl (.inl rfl) (S.move rfl (L 1 rfl rfl)) ?_
 refine U.p rfl rfl (.inl rfl) (f2.1.len rfl (L 0 rfl rfl) Try.underlying36) ?_
 refine U.p rfl rfl (.inl rfl) (S.move rfl K) ?_
 refine U.done (nr rfl) ?_
 refine WP.blk ?_
 unfold slices_IndexFunc_l1 at h
 obtain ⟨n8, hn7⟩ := loopO_some.1 h
 refine WP.loopI2 (fun n l V' => ∃ (x6 : Int), l = [(0, v1), (1, .func (.func 58) #[] #[.pointer (some ⟨b3, 0, none⟩)]), (7, .int .i64 (p0.length : Int)), (8, .int .i64 x6)] ∧ V.le V' ∧ Ow V' (.pt b3 (.cells z4 [.int .i64 p1_10]) :: Rs) ∧ itO (fun s => slices_IndexFunc_l1b p0 p1_10 s) n x6 = some r) n8 _ ⟨0, rfl, .refl _, ow, hn7⟩ (allCons (L 4 rfl rfl) (allCons (L 5 rfl rfl) (allCons (L 1 rfl rfl) (allCons (L 0 rfl rfl) allNil)))) ?_
 rintro _ _ V9 ⟨x6, rfl, le10, ow11, h15⟩
 obtain ⟨m12, q13, rfl, h16, e14⟩ := itS h15
 replace h16 : slices_IndexFunc_l1b p0 p1_10 x6 = some q13 := h16
 unfold slices_IndexFunc_l1b at h16
 refine WP.usreg rfl ?_
 refine U.p rfl rfl (.inl rfl) (S.lss rfl (L 3 rfl rfl) (L 2 rfl rfl)) ?_
 refine U.done (nr rfl) ?_
 refine WP.seq ?_
 refine WP.cond _ (L 0 rfl rfl) rfl (fun c17 => ?_) (fun c17 => ?_)
 ·have h18 := ifT c17 h16
  refine WP.skip ?_
  refine sqN ?_
  refine WP.seq ?_
  refine WP.blk ?_
  refine WP.usreg rfl ?_
  refine U.p rfl rfl (.inl rfl) (S.move rfl (L 4 rfl rfl)) ?_
  refine U.p rfl rfl (.inl rfl) (S.assign rfl (L 0 rfl rfl)) ?_
  refine U.done (nr rfl) ?_
  refine WP.usreg rfl ?_
  refine U.p rfl rfl (.inl rfl) (S.move rfl (L 4 rfl rfl)) ?_
  refine U.p rfl rfl (.inl rfl) (S.move rfl (L 4 rfl rfl)) ?_
  refine U.p rfl rfl (.inl rfl) (S.move rfl (L 2 rfl rfl)) ?_
  obtain ⟨x19, hx20, h21⟩ := bindS h18
  obtain ⟨b22, o23, c24, cs25, hv26, hf27, hr28, hc29⟩ := f2.at hx20
  obtain ⟨v30, rfl, f31⟩ := hr28
  refine U.p rfl rfl (.inl rfl) (S.index rfl ((L 1 rfl rfl).trans hv26) (L 0 rfl rfl) Try.underlying36 ti44 (ix_ge hx20) (ix_lt hx20)) ?_
  refine U.k rfl rfl (.inl rfl) (S.loadN (cs := [.int .i64 x19.op, .int .i64 x19.d, .int .i64 x19.a, .int .i64 x19.b, .int .i64 x19.imm, v30, .int .i64 x19.what, .bool x19.volatile, .bool x19.final]) rfl (L 0 rfl rfl) Try.underlying44 rfl ti44 rfl (fun j v hj => le10.cell hf27 (hc29 j v hj))) nd ?_
  have f32 := f31.up le10
  obtain ⟨x33, hx34, h35⟩ := bindS h21
  refine O.callv (V := V9) rfl rfl (.inl rfl) rfl (L 4 rfl rfl) en58 (aC (L 0 rfl rfl) aN) (wk_flow_place_c1 V9 _ x19 p1_10 v30 b3 z4 f32 ow11 _ hx34) (fun _ _ _ _ => nd) (fun v36 V37 le38 hp39 => ?_)
  obtain ⟨rfl, ow40⟩ := hp39
  refine U.done (nr rfl) ?_
  refine WP.cond _ (L 0 rfl rfl) rfl (fun c41 => ?_) (fun c41 => ?_)
  ·have h42 := ifT c41 h35
   refine WP.usreg rfl ?_
   refine U.p rfl rfl (.inl rfl) (S.move rfl (L 6 rfl rfl)) ?_
   refine U.p rfl rfl (.inl rfl) (S.assign rfl (L 0 rfl rfl)) ?_
   refine U.done (nr rfl) ?_
   refine WP.ret ?_
   refine blkR (sqR (sqR (blkR (sqR ?_))))
   have h43 := exitS h42 e14
   refine fin.slot (.inr rfl) rfl (L 0 rfl rfl) ⟨V37, rfl, (le10.trans le38), ?_⟩
   have e44 := Option.some.inj h43
   subst e44
   exact ⟨rfl, ow40⟩
  ·have h45 := ifF c41 h35
   refine WP.skip ?_
   refine blkN (sqN ?_)
   refine WP.ureg rfl ?_
   refine U.p rfl rfl (.inl rfl) (S.add rfl (L 12 rfl rfl) K) ?_
   refine U.p rfl rfl (.inl rfl) (S.move rfl (L 0 rfl rfl)) ?_
   refine U.done (nr rfl) ?_
   refine sqN ?_
   exact ⟨_, V37, rfl, ⟨m12, Nat.lt_succ_self _, w64 (x6 + 1), rfl, (le10.trans le38), ow40, backS h45 e14⟩, (allCons (L 11 rfl rfl) (allCons (L 12 rfl rfl) (allCons (L 13 rfl rfl) (allCons (L 0 rfl rfl) allNil))))⟩
 ·have h46 := ifF c17 h16
  refine WP.exit ?_
  refine sqE (sqE (blkE (sqN ?_)))
  have h47 := exitS h46 e14
  refine WP.usreg rfl ?_
  refine U.p rfl rfl (.inl rfl) (S.assign rfl K) ?_
  refine U.done (nr rfl) ?_
  refine WP.ret ?_
  refine fin.slot (.inr rfl) rfl (L 0 rfl rfl) ⟨V9, rfl, le10, ?_⟩
  have e48 := Option.some.inj h47
  subst e48
  exact ⟨rfl, ow11⟩
theorem wk_flow_place (V : Vw) (Rs : List At) (p0 : TFunc) (p1 : Int) (v1 : Value) (f2 : Fz RT_TIns V v1 p0.code) (ow : Ow V (Rs)) (r : Int) (h : flow_place p0 p1 = some r) : ∃ v V', Cl Try.prog 0 51 #[.agg #[.string p0.name, .int .i64 p0.params, .int .i64 p0.regs, v1], .int .i64 p1] V.H v V'.H ∧ V.le V' ∧ (v = .int .i64 r ∧ Ow V' (Rs)) := by
 refine Ct.of (Nat.zero_le _) Try.func51 rfl (nr rfl) ?_
 unfold flow_place at h
 refine WP.usreg rfl ?_
 refine O.box ow rfl rfl (.inl rfl) rfl (L 0 rfl rfl) (by simp [topV]) rfl nd (fun b3 V4 le5 ow6 => ?_)
 refine O.box ow6 rfl rfl (.inl rfl) rfl (L 2 rfl rfl) (by simp [topV]) rfl nd (fun b8 V9 le10 ow11 => ?_)
 refine U.p rfl rfl (.inl rfl) (S.assign rfl K) ?_
 refine U.done (nr rfl) ?_
 refine WP.usreg rfl ?_
 refine U.p (v := .pointer (some ⟨b3, 3, none⟩)) rfl rfl (.inl rfl) (S.fieldAddr rfl (L 2 rfl rfl) Try.underlying38 rfl ti36 rfl rfl) ?_
 refine U.k rfl rfl (.inl rfl) (S.load rfl (L 0 rfl rfl) Try.underlying36 rfl ((ow11.own (k := 1) rfl).cell rfl)) nd ?_
 refine U.p (v := .func (.func 58) #[] #[.pointer (some ⟨b8, 0, none⟩)]) rfl rfl (.inl rfl) (S.makeFunc' rfl (amN) (am1 (L 3 rfl rfl))) ?_
 have f13 := f2.up (le5.trans le10)
 obtain ⟨x14, hx15, h16⟩ := bindS h
 refine O.call (V := V9) rfl rfl (.inl rfl) rfl en57 (aC (L 1 rfl rfl) (aC (L 0 rfl rfl) aN)) (wk_slices_IndexFunc V9 _ p0.code p1 v1 b8 0 f13 ow11 _ hx15) (fun _ _ _ _ => nd) (fun v17 V18 le19 hp20 => ?_)
 obtain ⟨rfl, ow21⟩ := hp20
 refine U.p rfl rfl (.inl rfl) (S.assign rfl (L 0 rfl rfl)) ?_
 refine U.done (nr rfl) ?_
 refine WP.ret ?_
 refine fin.slot (.inr rfl) rfl (L 0 rfl rfl) ⟨V18, rfl, ((le5.trans le10).trans le19), ?_⟩
 have ow22 := ow21.drop 0 rfl
 have ow23 := ow22.drop 0 rfl
 have e24 := Option.some.inj h16
 subst e24
 exact ⟨rfl, ow23⟩
theorem wk_slices_Index (V : Vw) (Rs : List At) (p0 : List Int) (p1 : Int) (v1 : Value) (ow : Ow V (.os (RT.int .i64) v1 p0 :: Rs)) (r : Int) (h : slices_Index p0 p1 = some r) : ∃ v V', Cl Try.prog 0 59 #[v1, .int .i64 p1] V.H v V'.H ∧ V.le V' ∧ (v = .int .i64 r ∧ Ow V' (.os (RT.int .i64) v1 p0 :: Rs)) := by
 refine Ct.of (Nat.zero_le _) Try.func59 rfl (nr rfl) ?_
 unfold slices_Index at h
 refine WP.usreg rfl ?_
 refine U.p rfl rfl (.inl rfl) (S.assign rfl K) ?_
 refine U.done (nr rfl) ?_
 refine WP.seq ?_
 refine WP.usreg rfl ?_
 refine U.p rfl rfl (.inl rfl) (S.move rfl (L 1 rfl rfl)) ?_
 refine U.p rfl rfl (.inl rfl) (ow.oslen (k := 0) rfl rfl (L 0 rfl rfl) Try.underlying23) ?_
 refine U.p rfl rfl (.inl rfl) (S.move rfl K) ?_
 refine U.done (nr rfl) ?_
 refine WP.blk ?_
 unfold slices_Index_l1 at h
 obtain ⟨n5, hn4⟩ := loopO_some.1 h
 refine WP.loopI2 (fun n l V' => ∃ (x3 : Int), l = [(0, v1), (1, .int .i64 p1), (7, .int .i64 (p0.length : Int)), (8, .int .i64 x3)] ∧ V.le V' ∧ Ow V' (.os (RT.int .i64) v1 p0 :: Rs) ∧ itO (fun s => slices_Index_l1b p0 p1 s) n x3 = some r) n5 _ ⟨0, rfl, .refl _, ow, hn4⟩ (allCons (L 4 rfl rfl) (allCons (L 5 rfl rfl) (allCons (L 1 rfl rfl) (allCons (L 0 rfl rfl) allNil)))) ?_
 rintro _ _ V6 ⟨x3, rfl, le7, ow8, h12⟩
 obtain ⟨m9, q10, rfl, h13, e11⟩ := itS h12
 replace h13 : slices_Index_l1b p0 p1 x3 = some q10 := h13
 unfold slices_Index_l1b at h13
 refine WP.usreg rfl ?_
 refine U.p rfl rfl (.inl rfl) (S.lss rfl (L 3 rfl rfl) (L 2 rfl rfl)) ?_
 refine U.done (nr rfl) ?_
 refine WP.seq ?_
 refine WP.cond _ (L 0 rfl rfl) rfl (fun c14 => ?_) (fun c14 => ?_)
 ·have h15 := ifT c14 h13
  refine WP.skip ?_
  refine sqN ?_
  refine WP.seq ?_
  refine WP.blk ?_
  refine WP.usreg rfl ?_
  refine U.p rfl rfl (.inl rfl) (S.move rfl (L 4 rfl rfl)) ?_
  refine U.p rfl rfl (.inl rfl) (S.assign rfl (L 0 rfl rfl)) ?_
  refine U.done (nr rfl) ?_
  refine WP.usreg rfl ?_
  refine U.p rfl rfl (.inl rfl) (S.move rfl (L 4 rfl rfl)) ?_
  refine U.p rfl rfl (.inl rfl) (S.move rfl (L 4 rfl rfl)) ?_
  refine U.p rfl rfl (.inl rfl) (S.move rfl (L 2 rfl rfl)) ?_
  obtain ⟨x16, hx17, h18⟩ := bindS h15
  obtain ⟨b19, o20, n21, c22, hv23⟩ := ow8.ospt (k := 0) rfl hx17
  obtain ⟨_, hv24, _⟩ := ow8.osel (k := 0) rfl hv23 hx17
  refine U.p rfl rfl (.inl rfl) (S.index rfl ((L 1 rfl rfl).trans hv24) (L 0 rfl rfl) Try.underlying23 ti3 (ix_ge hx17) (ix_lt hx17)) ?_
  obtain ⟨cs25, hv26, hlt27, hr28, hc29⟩ := ow8.osel (k := 0) rfl hv23 hx17
  obtain rfl : cs25 = [.int .i64 x16] := hr28
  refine U.k rfl rfl (.inl rfl) (S.load rfl (L 0 rfl rfl) Try.underlying3 rfl (hc29 0 _ rfl)) nd ?_
  refine U.p rfl rfl (.inl rfl) (S.eqlI rfl (L 4 rfl rfl) (L 0 rfl rfl)) ?_
  refine U.done (nr rfl) ?_
  refine WP.cond _ (L 0 rfl rfl) rfl (fun c30 => ?_) (fun c30 => ?_)
  ·have h31 := ifT c30 h18
   refine WP.usreg rfl ?_
   refine U.p rfl rfl (.inl rfl) (S.move rfl (L 6 rfl rfl)) ?_
   refine U.p rfl rfl (.inl rfl) (S.assign rfl (L 0 rfl rfl)) ?_
   refine U.done (nr rfl) ?_
   refine WP.ret ?_
   refine blkR (sqR (sqR (blkR (sqR ?_))))
   have h32 := exitS h31 e11
   refine fin.slot (.inr rfl) rfl (L 0 rfl rfl) ⟨V6, rfl, le7, ?_⟩
   have e33 := Option.some.inj h32
   subst e33
   exact ⟨rfl, ow8⟩
  ·have h34 := ifF c30 h18
   refine WP.skip ?_
   refine blkN (sqN ?_)
   refine WP.ureg rfl ?_
   refine U.p rfl rfl (.inl rfl) (S.add rfl (L 12 rfl rfl) K) ?_
   refine U.p rfl rfl (.inl rfl) (S.move rfl (L 0 rfl rfl)) ?_
   refine U.done (nr rfl) ?_
   refine sqN ?_
   exact ⟨_, V6, rfl, ⟨m9, Nat.lt_succ_self _, w64 (x3 + 1), rfl, le7, ow8, backS h34 e11⟩, (allCons (L 11 rfl rfl) (allCons (L 12 rfl rfl) (allCons (L 13 rfl rfl) (allCons (L 0 rfl rfl) allNil))))⟩
 ·have h35 := ifF c14 h13
  refine WP.exit ?_
  refine sqE (sqE (blkE (sqN ?_)))
  have h36 := exitS h35 e11
  refine WP.usreg rfl ?_
  refine U.p rfl rfl (.inl rfl) (S.assign rfl K) ?_
  refine U.done (nr rfl) ?_
  refine WP.ret ?_
  refine fin.slot (.inr rfl) rfl (L 0 rfl rfl) ⟨V6, rfl, le7, ?_⟩
  have e37 := Option.some.inj h36
  subst e37
  exact ⟨rfl, ow8⟩
theorem wk_slices_Contains (V : Vw) (Rs : List At) (p0 : List Int) (p1 : Int) (v1 : Value) (ow : Ow V (.os (RT.int .i64) v1 p0 :: Rs)) (r : Bool) (h : slices_Contains p0 p1 = some r) : ∃ v V', Cl Try.prog 0 52 #[v1, .int .i64 p1] V.H v V'.H ∧ V.le V' ∧ (v = .bool r ∧ Ow V' (.os (RT.int .i64) v1 p0 :: Rs)) := by
 refine Ct.of (Nat.zero_le _) Try.func52 rfl (nr rfl) ?_
 unfold slices_Contains at h
 refine WP.usreg rfl ?_
 refine U.p rfl rfl (.inl rfl) (S.assign rfl K) ?_
 refine U.done (nr rfl) ?_
 refine WP.usreg rfl ?_
 refine U.p rfl rfl (.inl rfl) (S.move rfl (L 1 rfl rfl)) ?_
 refine U.p rfl rfl (.inl rfl) (S.move rfl (L 3 rfl rfl)) ?_
 obtain ⟨x3, hx4, h5⟩ := bindS h
 refine O.call (V := V) rfl rfl (.inl rfl) rfl en59 (aC (L 1 rfl rfl) (aC (L 0 rfl rfl) aN)) (wk_slices_Index V _ p0 p1 v1 ow _ hx4) (fun _ _ _ _ => nd) (fun v6 V7 le8 hp9 => ?_)
 obtain ⟨rfl, ow10⟩ := hp9
 refine U.p rfl rfl (.inl rfl) (S.geq rfl (L 0 rfl rfl) K) ?_
 refine U.p rfl rfl (.inl rfl) (S.assign rfl (L 0 rfl rfl)) ?_
 refine U.done (nr rfl) ?_
 refine WP.ret ?_
 refine fin.slot (.inr rfl) rfl (L 0 rfl rfl) ⟨V7, rfl, le8, ?_⟩
 have e11 := Option.some.inj h5
 subst e11
 exact ⟨rfl, ow10⟩
theorem wk_flow_Next (V : Vw) (Rs : List At) (p0 : TFunc) (p1 : Int) (v1 : Value) (f2 : Fz RT_TIns V v1 p0.code) (ow : Ow V (Rs)) (r : List Int) (h : flow_Next p0 p1 = some r) : ∃ v V', Cl Try.prog 0 45 #[.agg #[.string p0.name, .int .i64 p0.params, .int .i64 p0.regs, v1], .int .i64 p1] V.H v V'.H ∧ V.le V' ∧ (∃ (v3 : Value), v = v3 ∧ Ow V' (.os (RT.int .i64) v3 r :: Rs)) := by
 refine Ct.of (Nat.zero_le _) Try.func45 rfl (nr rfl) ?_
 unfold flow_Next at h
 refine WP.usreg rfl ?_
 refine O.box ow rfl rfl (.inl rfl) rfl (L 0 rfl rfl) (by simp [topV]) rfl nd (fun b5 V6 le7 ow8 => ?_)
 refine U.p rfl rfl (.inl rfl) (S.assign rfl K) ?_
 refine U.done (nr rfl) ?_
 refine WP.seq ?_
 refine WP.usreg rfl ?_
 refine U.p rfl rfl (.inl rfl) (S.move rfl (L 3 rfl rfl)) ?_
 refine U.p rfl rfl (.inl rfl) (S.lss rfl (L 0 rfl rfl) K) ?_
 refine U.p rfl rfl (.inl rfl) (S.move rfl (L 0 rfl rfl)) ?_
 refine U.joinX 9 (fun e H => ∃ (u10 u11 u12 u13 u14 : Value), H = V6.H ∧ e = [(16, .bool ((decide (p1 < 0)) || (decide ((p0.code.length : Int) ≤ p1)))), (15, u10), (14, u11), (13, u12), (12, u13), (11, u14)]) ?_ ?_
 ·rintro _ _ ⟨u10, u11, u12, u13, u14, rfl, rfl⟩
  refine U.done (nr rfl) ?_
  refine WP.cond _ (L 0 rfl rfl) rfl (fun c18 => ?_) (fun c18 => ?_)
  ·have h19 := ifT c18 h
   refine WP.usreg rfl ?_
   refine U.p rfl rfl (.inl rfl) (S.assign rfl K) ?_
   refine U.done (nr rfl) ?_
   refine WP.ret ?_
   refine sqR ?_
   have ow20 := ow8.nil (RT.int .i64)
   refine fin.slot (.inr rfl) rfl (L 0 rfl rfl) ⟨V6, rfl, le7, ?_⟩
   have ow22 := ow20.drop 1 rfl
   have e23 := Option.some.inj h19
   subst e23
   exact ⟨(.slice none 0 0), rfl, ow22⟩
  ·have h24 := ifF c18 h
   refine WP.skip ?_
   refine sqN ?_
   refine WP.usreg rfl ?_
   refine U.p (v := .pointer (some ⟨b5, 3, none⟩)) rfl rfl (.inl rfl) (S.fieldAddr rfl (L 10 rfl rfl) Try.underlying38 rfl ti36 rfl rfl) ?_
   refine U.k rfl rfl (.inl rfl) (S.load rfl (L 0 rfl rfl) Try.underlying36 rfl ((ow8.own (k := 0) rfl).cell rfl)) nd ?_
   refine U.p rfl rfl (.inl rfl) (S.move rfl (L 14 rfl rfl)) ?_
   obtain ⟨x25, hx26, h27⟩ := bindS h24
   obtain ⟨b28, o29, c30, cs31, hv32, hf33, hr34, hc35⟩ := f2.at hx26
   obtain ⟨v36, rfl, f37⟩ := hr34
   refine U.p rfl rfl (.inl rfl) (S.index rfl ((L 1 rfl rfl).trans hv32) (L 0 rfl rfl) Try.underlying36 ti44 (ix_ge hx26) (ix_lt hx26)) ?_
   refine U.k rfl rfl (.inl rfl) (S.loadN (cs := [.int .i64 x25.op, .int .i64 x25.d, .int .i64 x25.a, .int .i64 x25.b, .int .i64 x25.imm, v36, .int .i64 x25.what, .bool x25.volatile, .bool x25.final]) rfl (L 0 rfl rfl) Try.underlying44 rfl ti44 rfl (fun j v hj => le7.cell hf33 (hc35 j v hj))) nd ?_
   refine O.alloc ow8 rfl rfl (.inl rfl) rfl ti44 rfl rfl nd (fun b38 V39 le40 ow41 => ?_)
   refine O.store (k := 0) (cs := [.int .i64 x25.op, .int .i64 x25.d, .int .i64 x25.a, .int .i64 x25.b, .int .i64 x25.imm, v36, .int .i64 x25.what, .bool x25.volatile, .bool x25.final]) (c' := [.int .i64 x25.op, .int .i64 x25.d, .int .i64 x25.a, .int .i64 x25.b, .int .i64 x25.imm, v36, .int .i64 x25.what, .bool x25.volatile, .bool x25.final]) ow41 rfl rfl rfl (.inl rfl) rfl (L 0 rfl rfl) (L 1 rfl rfl) ti44 (by simp [topV]) rfl rfl (nr rfl) (by have q0 := f37.one; simp only [List.all_cons, List.all_nil, q0]; rfl) rfl nd (fun V43 le44 ow45 => ?_)
   refine U.done (nr rfl) ?_
   refine WP.usreg rfl ?_
   refine U.p rfl rfl (.inl rfl) (S.assign rfl K) ?_
   refine U.done (nr rfl) ?_
   refine WP.seqI (fun l V' => ∃ (v47 : Value) (xs48 : List Int), l = [(2, .pointer (some ⟨b5, 0, none⟩)), (5, .pointer (some ⟨b38, 0, none⟩)), (6, v47)] ∧ V43.le V' ∧ Ow V' (.pt b5 (.cells 0 [.string p0.name, .int .i64 p0.params, .int .i64 p0.regs, v1]) :: .pt b38 (.cells 9 [.int .i64 x25.op, .int .i64 x25.d, .int .i64 x25.a, .int .i64 x25.b, .int .i64 x25.imm, v36, .int .i64 x25.what, .bool x25.volatile, .bool x25.final]) :: .os (RT.int .i64) v47 xs48 :: Rs) ∧ flow_Next_k1 p0 x25 xs48 = some r) ?_ ?_
   ·rintro _ V49 ⟨v47, xs48, rfl, le50, ow51, h52⟩
    unfold flow_Next_k1 at h52
    refine WP.seqI (fun l V' => ∃ (v54 : Value) (xs55 : List Int), l = [(6, v54)] ∧ V49.le V' ∧ Ow V' (.os (RT.int .i64) v54 xs55 :: Rs) ∧ flow_Next_k2 xs55 = some r) ?_ ?_
    ·rintro _ V56 ⟨v54, xs55, rfl, le57, ow58, h59⟩
     unfold flow_Next_k2 at h59
     refine WP.usreg rfl ?_
     refine U.p rfl rfl (.inl rfl) (S.move rfl (L 0 rfl rfl)) ?_
     refine U.p rfl rfl (.inl rfl) (S.assign rfl (L 0 rfl rfl)) ?_
     refine U.done (nr rfl) ?_
     refine WP.ret ?_
     refine fin.slot (.inr rfl) rfl (L 0 rfl rfl) ⟨V56, rfl, ((((le7.trans le40).trans le44).trans le50).trans le57), ?_⟩
     have e60 := Option.some.inj h59
     subst e60
     exact ⟨v54, rfl, ow58⟩
    ·skip
     refine WP.usreg rfl ?_
     refine U.p (v := .pointer (some ⟨b38, 0, none⟩)) rfl rfl (.inl rfl) (S.fieldAddr rfl (L 1 rfl rfl) Try.underlying44 rfl ti3 rfl rfl) ?_
     refine U.k rfl rfl (.inl rfl) (S.load rfl (L 0 rfl rfl) Try.underlying3 rfl ((ow51.own (k := 1) rfl).cell rfl)) nd ?_
     refine U.p rfl rfl (.inl rfl) (S.eqlI rfl (L 0 rfl rfl) K) ?_
     refine U.p rfl rfl (.inl rfl) (S.move rfl (L 0 rfl rfl)) ?_
     refine U.joinX 8 (fun e H => ∃ (u61 u62 u63 : Value), H = V49.H ∧ e = [(55, .bool ((decide (x25.op = 12)) || (decide (x25.op = 13)))), (54, u61), (53, u62), (52, u63)]) ?_ ?_
     ·rintro _ _ ⟨u61, u62, u63, rfl, rfl⟩
      refine U.p rfl rfl (.inl rfl) (S.move rfl (L 0 rfl rfl)) ?_
      refine U.joinX 13 (fun e H => ∃ (u67 u68 u69 : Value), H = V49.H ∧ e = [(60, .bool (((decide (x25.op = 12)) || (decide (x25.op = 13))) || (decide (x25.op = 17)))), (59, u67), (58, u68), (57, u69)]) ?_ ?_
      ·rintro _ _ ⟨u67, u68, u69, rfl, rfl⟩
       refine U.done (nr rfl) ?_
       refine WP.cond _ (L 0 rfl rfl) rfl (fun c73 => ?_) (fun c73 => ?_)
       ·have h74 := ifT c73 h52
        refine WP.usreg rfl ?_
        refine U.k rfl rfl (.inl rfl) (S.loadB rfl (L 13 rfl rfl) Try.underlying38 rfl ti38 (ow51.own (k := 0) rfl).get rfl) nd ?_
        refine U.p (v := .pointer (some ⟨b38, 4, none⟩)) rfl rfl (.inl rfl) (S.fieldAddr rfl (L 15 rfl rfl) Try.underlying44 rfl ti3 rfl rfl) ?_
        refine U.k rfl rfl (.inl rfl) (S.load rfl (L 0 rfl rfl) Try.underlying3 rfl ((ow51.own (k := 1) rfl).cell rfl)) nd ?_
        have f75 := f2.up (((le7.trans le40).trans le44).trans le50)
        obtain ⟨x76, hx77, h78⟩ := bindS h74
        refine O.call (V := V49) rfl rfl (.inl rfl) rfl en51 (aC (L 2 rfl rfl) (aC (L 0 rfl rfl) aN)) (wk_flow_place V49 _ p0 x25.imm v1 f75 ow51 _ hx77) (fun _ _ _ _ => nd) (fun v79 V80 le81 hp82 => ?_)
        obtain ⟨rfl, ow83⟩ := hp82
        refine U.p rfl rfl (.inl rfl) (S.assign rfl (L 0 rfl rfl)) ?_
        refine U.done (nr rfl) ?_
        refine WP.usreg rfl ?_
        refine U.p rfl rfl (.inl rfl) (S.move rfl (L 0 rfl rfl)) ?_
        refine U.p rfl rfl (.inl rfl) (S.geq rfl (L 0 rfl rfl) K) ?_
        refine U.p rfl rfl (.inl rfl) (S.move rfl (L 0 rfl rfl)) ?_
        obtain ⟨y84, hy85, h86⟩ := bindS h78
        refine U.joinX 8 (fun e H => ∃ (u87 u88 u89 u90 : Value), ∃ V' : Vw, H = V'.H ∧ V80.le V' ∧ e = [(72, .bool y84), (71, u87), (70, u88), (69, u89), (68, u90)] ∧ Ow V' (.pt b5 (.cells 0 [.string p0.name, .int .i64 p0.params, .int .i64 p0.regs, v1]) :: .pt b38 (.cells 9 [.int .i64 x25.op, .int .i64 x25.d, .int .i64 x25.a, .int .i64 x25.b, .int .i64 x25.imm, v36, .int .i64 x25.what, .bool x25.volatile, .bool x25.final]) :: .os (RT.int .i64) v47 xs48 :: Rs)) ?_ ?_
        ·rintro _ _ ⟨u87, u88, u89, u90, V91, rfl, le92, rfl, ow93⟩
         refine U.done (nr rfl) ?_
         refine WP.cond _ (L 0 rfl rfl) rfl (fun c94 => ?_) (fun c94 => ?_)
         ·have h95 := ifT c94 h86
          refine WP.ureg rfl ?_
          refine U.p rfl rfl (.inl rfl) (S.move rfl (L 28 rfl rfl)) ?_
          refine U.p rfl rfl (.inl rfl) (S.move rfl (L 9 rfl rfl)) ?_
          refine O.lit (R := (RT.int .i64)) ow93 rfl rfl (.inl rfl) rfl Try.underlying23 ti3 rfl rfl rfl (nr rfl) rfl (aC (L 0 rfl rfl) aN) (.cons _ _ x76 _ (by simp [topV]) rfl .nil) (fun _ => nd) (fun v96 V97 le98 ow99 => ?_)
          obtain ⟨xs101, hx102, h103⟩ := bindS h95
          refine O.append (k := 3) ow99 rfl rfl rfl (.inl rfl) rfl (L 2 rfl rfl) (L 0 rfl rfl) Try.underlying23 ti3 rfl rfl (nr rfl) (ow99.src (k := 0) rfl Try.underlying23) hx102 (fun _ _ => nd) (fun v104 V105 le106 ow107 => ?_)
          refine U.p rfl rfl (.inl rfl) (S.assign rfl (L 0 rfl rfl)) ?_
          refine U.done (nr rfl) ?_
          refine sqN ?_
          have ow109 := ow107.drop 0 rfl
          have ow110 := ow109.drop 0 rfl
          have ow111 := ow110.drop 0 rfl
          exact ⟨_, V105, rfl, ⟨v104, xs101, rfl, (((le81.trans le92).trans le98).trans le106), ow111, h103⟩, (allCons (L 0 rfl rfl) allNil)⟩
         ·have h112 := ifF c94 h86
          refine WP.skip ?_
          refine sqN ?_
          have ow113 := ow93.drop 0 rfl
          have ow114 := ow113.drop 0 rfl
          exact ⟨_, V91, rfl, ⟨v47, xs48, rfl, (le81.trans le92), ow114, h112⟩, (allCons (L 28 rfl rfl) allNil)⟩
        ·intro kk
         refine bcase (b := decide (0 ≤ x76)) (fun g115 => ?_) (fun g115 => ?_)
         ·have h116 := ifT g115 hy85
          refine U.p rfl rfl (.inr ⟨_, _, _, rfl, rfl, ((L 0 rfl rfl).trans (cB g115))⟩) (S.move rfl (L 23 rfl rfl)) ?_
          refine U.p rfl rfl (.inr ⟨_, _, _, rfl, rfl, ((L 1 rfl rfl).trans (cB g115))⟩) (S.move rfl (L 4 rfl rfl)) ?_
          have ow117 := ow83.pick 2 rfl
          obtain ⟨x118, hx119, h120⟩ := bindS h116
          refine O.call (V := V80) rfl rfl (.inr ⟨_, _, _, rfl, rfl, ((L 2 rfl rfl).trans (cB g115))⟩) rfl en52 (aC (L 1 rfl rfl) (aC (L 0 rfl rfl) aN)) (wk_slices_Contains V80 _ xs48 x76 v47 ow117 _ hx119) (fun _ _ _ _ => nd) (fun v121 V122 le123 hp124 => ?_)
          obtain ⟨rfl, ow125⟩ := hp124
          refine U.p rfl rfl (.inr ⟨_, _, _, rfl, rfl, ((L 3 rfl rfl).trans (cB g115))⟩) (S.not rfl (L 0 rfl rfl)) ?_
          refine U.p rfl rfl (.inl rfl) (S.pickT rfl ((L 4 rfl rfl).trans (cB g115)) (L 0 rfl rfl)) ?_
          have e126 := Option.some.inj h120
          subst e126
          have ow127 := ow125.pick 0 rfl
          have ow128 := ow127.pick 2 rfl
          have ow129 := ow128.pick 2 rfl
          exact kk [(72, .bool (!x118)), (71, .bool (!x118)), (70, .bool x118), (69, .int .i64 x76), (68, v47)] _ ⟨.bool (!x118), .bool x118, .int .i64 x76, v47, V122, rfl, le123, rfl, ow129⟩
         ·have h130 := ifF g115 hy85
          refine U.x rfl rfl rfl rfl ((L 0 rfl rfl).trans (cB g115)) (by decide) ?_
          refine U.x rfl rfl rfl rfl ((L 1 rfl rfl).trans (cB g115)) (by decide) ?_
          refine U.x rfl rfl rfl rfl ((L 2 rfl rfl).trans (cB g115)) (by decide) ?_
          refine U.x rfl rfl rfl rfl ((L 3 rfl rfl).trans (cB g115)) (by decide) ?_
          refine U.p rfl rfl (.inl rfl) (S.pickF rfl ((L 4 rfl rfl).trans (cB g115)) K) ?_
          have e131 := Option.some.inj h130
          subst e131
          exact kk [(72, .bool false), (71, .tuple #[]), (70, .tuple #[]), (69, .tuple #[]), (68, .tuple #[])] _ ⟨.tuple #[], .tuple #[], .tuple #[], .tuple #[], V80, rfl, (.refl _), rfl, ow83⟩
       ·have h132 := ifF c73 h52
        refine WP.skip ?_
        refine sqN ?_
        have ow133 := ow51.drop 0 rfl
        have ow134 := ow133.drop 0 rfl
        exact ⟨_, V49, rfl, ⟨v47, xs48, rfl, (.refl _), ow134, h132⟩, (allCons (L 15 rfl rfl) allNil)⟩
      ·intro kk
       refine bcase (b := (decide (x25.op = 12)) || (decide (x25.op = 13))) (fun g135 => ?_) (fun g135 => ?_)
       ·skip
        refine U.x rfl rfl rfl rfl ((L 0 rfl rfl).trans (cB g135)) (by decide) ?_
        refine U.x rfl rfl rfl rfl ((L 1 rfl rfl).trans (cB g135)) (by decide) ?_
        refine U.x rfl rfl rfl rfl ((L 2 rfl rfl).trans (cB g135)) (by decide) ?_
        refine U.p rfl rfl (.inl rfl) (S.pickT rfl ((L 3 rfl rfl).trans (cB g135)) K) ?_
        exact kk [(60, .bool true), (59, .tuple #[]), (58, .tuple #[]), (57, .tuple #[])] _ ⟨.tuple #[], .tuple #[], .tuple #[], rfl, (by rw [g135, Bool.true_or])⟩
       ·skip
        refine U.p (v := .pointer (some ⟨b38, 0, none⟩)) rfl rfl (.inr ⟨_, _, _, rfl, rfl, ((L 0 rfl rfl).trans (cB g135))⟩) (S.fieldAddr rfl (L 10 rfl rfl) Try.underlying44 rfl ti3 rfl rfl) ?_
        refine U.k rfl rfl (.inr ⟨_, _, _, rfl, rfl, ((L 1 rfl rfl).trans (cB g135))⟩) (S.load rfl (L 0 rfl rfl) Try.underlying3 rfl ((ow51.own (k := 1) rfl).cell rfl)) nd ?_
        refine U.p rfl rfl (.inr ⟨_, _, _, rfl, rfl, ((L 2 rfl rfl).trans (cB g135))⟩) (S.eqlI rfl (L 0 rfl rfl) K) ?_
        refine U.p rfl rfl (.inl rfl) (S.pickF rfl ((L 3 rfl rfl).trans (cB g135)) (L 0 rfl rfl)) ?_
        exact kk [(60, .bool (decide (x25.op = 17))), (59, .bool (decide (x25.op = 17))), (58, .int .i64 x25.op), (57, .pointer (some ⟨b38, 0, none⟩))] _ ⟨.bool (decide (x25.op = 17)), .int .i64 x25.op, .pointer (some ⟨b38, 0, none⟩), rfl, (by rw [g135, Bool.false_or])⟩
     ·intro kk
      refine bcase (b := decide (x25.op = 12)) (fun g136 => ?_) (fun g136 => ?_)
      ·skip
       refine U.x rfl rfl rfl rfl ((L 0 rfl rfl).trans (cB g136)) (by decide) ?_
       refine U.x rfl rfl rfl rfl ((L 1 rfl rfl).trans (cB g136)) (by decide) ?_
       refine U.x rfl rfl rfl rfl ((L 2 rfl rfl).trans (cB g136)) (by decide) ?_
       refine U.p rfl rfl (.inl rfl) (S.pickT rfl ((L 3 rfl rfl).trans (cB g136)) K) ?_
       exact kk [(55, .bool true), (54, .tuple #[]), (53, .tuple #[]), (52, .tuple #[])] _ ⟨.tuple #[], .tuple #[], .tuple #[], rfl, (by rw [g136, Bool.true_or])⟩
      ·skip
       refine U.p (v := .pointer (some ⟨b38, 0, none⟩)) rfl rfl (.inr ⟨_, _, _, rfl, rfl, ((L 0 rfl rfl).trans (cB g136))⟩) (S.fieldAddr rfl (L 5 rfl rfl) Try.underlying44 rfl ti3 rfl rfl) ?_
       refine U.k rfl rfl (.inr ⟨_, _, _, rfl, rfl, ((L 1 rfl rfl).trans (cB g136))⟩) (S.load rfl (L 0 rfl rfl) Try.underlying3 rfl ((ow51.own (k := 1) rfl).cell rfl)) nd ?_
       refine U.p rfl rfl (.inr ⟨_, _, _, rfl, rfl, ((L 2 rfl rfl).trans (cB g136))⟩) (S.eqlI rfl (L 0 rfl rfl) K) ?_
       refine U.p rfl rfl (.inl rfl) (S.pickF rfl ((L 3 rfl rfl).trans (cB g136)) (L 0 rfl rfl)) ?_
       exact kk [(55, .bool (decide (x25.op = 13))), (54, .bool (decide (x25.op = 13))), (53, .int .i64 x25.op), (52, .pointer (some ⟨b38, 0, none⟩))] _ ⟨.bool (decide (x25.op = 13)), .int .i64 x25.op, .pointer (some ⟨b38, 0, none⟩), rfl, (by rw [g136, Bool.false_or])⟩
   ·skip
    refine WP.usreg rfl ?_
    refine U.p (v := .pointer (some ⟨b38, 0, none⟩)) rfl rfl (.inl rfl) (S.fieldAddr rfl (L 1 rfl rfl) Try.underlying44 rfl ti3 rfl rfl) ?_
    refine U.k rfl rfl (.inl rfl) (S.load rfl (L 0 rfl rfl) Try.underlying3 rfl ((ow45.own (k := 0) rfl).cell rfl)) nd ?_
    refine U.p rfl rfl (.inl rfl) (S.neqI rfl (L 0 rfl rfl) K) ?_
    refine U.p rfl rfl (.inl rfl) (S.move rfl (L 0 rfl rfl)) ?_
    refine U.joinX 8 (fun e H => ∃ (u137 u138 u139 : Value), H = V43.H ∧ e = [(29, .bool ((decide (x25.op ≠ 12)) && (decide (x25.op ≠ 15)))), (28, u137), (27, u138), (26, u139)]) ?_ ?_
    ·rintro _ _ ⟨u137, u138, u139, rfl, rfl⟩
     refine U.p rfl rfl (.inl rfl) (S.move rfl (L 0 rfl rfl)) ?_
     refine U.joinX 13 (fun e H => ∃ (u143 u144 u145 : Value), H = V43.H ∧ e = [(34, .bool (((decide (x25.op ≠ 12)) && (decide (x25.op ≠ 15))) && (decide (x25.op ≠ 16)))), (33, u143), (32, u144), (31, u145)]) ?_ ?_
     ·rintro _ _ ⟨u143, u144, u145, rfl, rfl⟩
      refine U.p rfl rfl (.inl rfl) (S.move rfl (L 0 rfl rfl)) ?_
      refine U.joinX 21 (fun e H => ∃ (u149 u150 u151 u152 u153 u154 : Value), H = V43.H ∧ e = [(42, .bool ((((decide (x25.op ≠ 12)) && (decide (x25.op ≠ 15))) && (decide (x25.op ≠ 16))) && (decide ((w64 (p1 + 1)) < (p0.code.length : Int))))), (41, u149), (40, u150), (39, u151), (38, u152), (37, u153), (36, u154)]) ?_ ?_
      ·rintro _ _ ⟨u149, u150, u151, u152, u153, u154, rfl, rfl⟩
       refine U.done (nr rfl) ?_
       refine WP.cond _ (L 0 rfl rfl) rfl (fun c158 => ?_) (fun c158 => ?_)
       ·have h159 := ifT c158 h27
        refine WP.ureg rfl ?_
        refine U.p rfl rfl (.inl rfl) (S.move rfl (L 21 rfl rfl)) ?_
        refine U.p rfl rfl (.inl rfl) (S.move rfl (L 41 rfl rfl)) ?_
        refine U.p rfl rfl (.inl rfl) (S.add rfl (L 0 rfl rfl) K) ?_
        refine O.lit (R := (RT.int .i64)) ow45 rfl rfl (.inl rfl) rfl Try.underlying23 ti3 rfl rfl rfl (nr rfl) rfl (aC (L 0 rfl rfl) aN) (.cons _ _ (w64 (p1 + 1)) _ (by simp [topV]) rfl .nil) (fun _ => nd) (fun v160 V161 le162 ow163 => ?_)
        have ow165 := ow163.nil (RT.int .i64)
        obtain ⟨xs167, hx168, h169⟩ := bindS h159
        refine O.append (k := 0) ow165 rfl rfl rfl (.inl rfl) rfl (L 3 rfl rfl) (L 0 rfl rfl) Try.underlying23 ti3 rfl rfl (nr rfl) (ow165.src (k := 1) rfl Try.underlying23) hx168 (fun _ _ => nd) (fun v170 V171 le172 ow173 => ?_)
        refine U.p rfl rfl (.inl rfl) (S.assign rfl (L 0 rfl rfl)) ?_
        refine U.done (nr rfl) ?_
        refine sqN ?_
        have ow175 := ow173.drop 1 rfl
        have ow176 := ow175.pick 0 rfl
        have ow177 := ow176.pick 1 rfl
        have ow178 := ow177.pick 2 rfl
        exact ⟨_, V171, rfl, ⟨v170, xs167, rfl, (le162.trans le172), ow178, h169⟩, (allCons (L 44 rfl rfl) (allCons (L 28 rfl rfl) (allCons (L 0 rfl rfl) allNil)))⟩
       ·have h179 := ifF c158 h27
        refine WP.skip ?_
        refine sqN ?_
        have ow180 := ow45.nil (RT.int .i64)
        have ow182 := ow180.pick 0 rfl
        have ow183 := ow182.pick 1 rfl
        have ow184 := ow183.pick 2 rfl
        exact ⟨_, V43, rfl, ⟨(.slice none 0 0), [], rfl, (.refl _), ow184, h179⟩, (allCons (L 38 rfl rfl) (allCons (L 22 rfl rfl) (allCons (L 21 rfl rfl) allNil)))⟩
      ·intro kk
       refine bcase (b := ((decide (x25.op ≠ 12)) && (decide (x25.op ≠ 15))) && (decide (x25.op ≠ 16))) (fun g185 => ?_) (fun g185 => ?_)
       ·skip
        refine U.p rfl rfl (.inr ⟨_, _, _, rfl, rfl, ((L 0 rfl rfl).trans (cB g185))⟩) (S.move rfl (L 33 rfl rfl)) ?_
        refine U.p rfl rfl (.inr ⟨_, _, _, rfl, rfl, ((L 1 rfl rfl).trans (cB g185))⟩) (S.add rfl (L 0 rfl rfl) K) ?_
        refine U.p (v := .pointer (some ⟨b5, 3, none⟩)) rfl rfl (.inr ⟨_, _, _, rfl, rfl, ((L 2 rfl rfl).trans (cB g185))⟩) (S.fieldAddr rfl (L 33 rfl rfl) Try.underlying38 rfl ti36 rfl rfl) ?_
        refine U.k rfl rfl (.inr ⟨_, _, _, rfl, rfl, ((L 3 rfl rfl).trans (cB g185))⟩) (S.load rfl (L 0 rfl rfl) Try.underlying36 rfl ((ow45.own (k := 1) rfl).cell rfl)) nd ?_
        refine U.p rfl rfl (.inr ⟨_, _, _, rfl, rfl, ((L 4 rfl rfl).trans (cB g185))⟩) (f2.1.len rfl (L 0 rfl rfl) Try.underlying36) ?_
        refine U.p rfl rfl (.inr ⟨_, _, _, rfl, rfl, ((L 5 rfl rfl).trans (cB g185))⟩) (S.lss rfl (L 3 rfl rfl) (L 0 rfl rfl)) ?_
        refine U.p rfl rfl (.inl rfl) (S.pickT rfl ((L 6 rfl rfl).trans (cB g185)) (L 0 rfl rfl)) ?_
        exact kk [(42, .bool (decide ((w64 (p1 + 1)) < (p0.code.length : Int)))), (41, .bool (decide ((w64 (p1 + 1)) < (p0.code.length : Int)))), (40, .int .i64 (p0.code.length : Int)), (39, v1), (38, .pointer (some ⟨b5, 3, none⟩)), (37, .int .i64 (w64 (p1 + 1))), (36, .int .i64 p1)] _ ⟨.bool (decide ((w64 (p1 + 1)) < (p0.code.length : Int))), .int .i64 (p0.code.length : Int), v1, .pointer (some ⟨b5, 3, none⟩), .int .i64 (w64 (p1 + 1)), .int .i64 p1, rfl, (by rw [g185, Bool.true_and])⟩
       ·skip
        refine U.x rfl rfl rfl rfl ((L 0 rfl rfl).trans (cB g185)) (by decide) ?_
        refine U.x rfl rfl rfl rfl ((L 1 rfl rfl).trans (cB g185)) (by decide) ?_
        refine U.x rfl rfl rfl rfl ((L 2 rfl rfl).trans (cB g185)) (by decide) ?_
        refine U.x rfl rfl rfl rfl ((L 3 rfl rfl).trans (cB g185)) (by decide) ?_
        refine U.x rfl rfl rfl rfl ((L 4 rfl rfl).trans (cB g185)) (by decide) ?_
        refine U.x rfl rfl rfl rfl ((L 5 rfl rfl).trans (cB g185)) (by decide) ?_
        refine U.p rfl rfl (.inl rfl) (S.pickF rfl ((L 6 rfl rfl).trans (cB g185)) K) ?_
        exact kk [(42, .bool false), (41, .tuple #[]), (40, .tuple #[]), (39, .tuple #[]), (38, .tuple #[]), (37, .tuple #[]), (36, .tuple #[])] _ ⟨.tuple #[], .tuple #[], .tuple #[], .tuple #[], .tuple #[], .tuple #[], rfl, (by rw [g185, Bool.false_and])⟩
     ·intro kk
      refine bcase (b := (decide (x25.op ≠ 12)) && (decide (x25.op ≠ 15))) (fun g186 => ?_) (fun g186 => ?_)
      ·skip
       refine U.p (v := .pointer (some ⟨b38, 0, none⟩)) rfl rfl (.inr ⟨_, _, _, rfl, rfl, ((L 0 rfl rfl).trans (cB g186))⟩) (S.fieldAddr rfl (L 10 rfl rfl) Try.underlying44 rfl ti3 rfl rfl) ?_
       refine U.k rfl rfl (.inr ⟨_, _, _, rfl, rfl, ((L 1 rfl rfl).trans (cB g186))⟩) (S.load rfl (L 0 rfl rfl) Try.underlying3 rfl ((ow45.own (k := 0) rfl).cell rfl)) nd ?_
       refine U.p rfl rfl (.inr ⟨_, _, _, rfl, rfl, ((L 2 rfl rfl).trans (cB g186))⟩) (S.neqI rfl (L 0 rfl rfl) K) ?_
       refine U.p rfl rfl (.inl rfl) (S.pickT rfl ((L 3 rfl rfl).trans (cB g186)) (L 0 rfl rfl)) ?_
       exact kk [(34, .bool (decide (x25.op ≠ 16))), (33, .bool (decide (x25.op ≠ 16))), (32, .int .i64 x25.op), (31, .pointer (some ⟨b38, 0, none⟩))] _ ⟨.bool (decide (x25.op ≠ 16)), .int .i64 x25.op, .pointer (some ⟨b38, 0, none⟩), rfl, (by rw [g186, Bool.true_and])⟩
      ·skip
       refine U.x rfl rfl rfl rfl ((L 0 rfl rfl).trans (cB g186)) (by decide) ?_
       refine U.x rfl rfl rfl rfl ((L 1 rfl rfl).trans (cB g186)) (by decide) ?_
       refine U.x rfl rfl rfl rfl ((L 2 rfl rfl).trans (cB g186)) (by decide) ?_
       refine U.p rfl rfl (.inl rfl) (S.pickF rfl ((L 3 rfl rfl).trans (cB g186)) K) ?_
       exact kk [(34, .bool false), (33, .tuple #[]), (32, .tuple #[]), (31, .tuple #[])] _ ⟨.tuple #[], .tuple #[], .tuple #[], rfl, (by rw [g186, Bool.false_and])⟩
    ·intro kk
     refine bcase (b := decide (x25.op ≠ 12)) (fun g187 => ?_) (fun g187 => ?_)
     ·skip
      refine U.p (v := .pointer (some ⟨b38, 0, none⟩)) rfl rfl (.inr ⟨_, _, _, rfl, rfl, ((L 0 rfl rfl).trans (cB g187))⟩) (S.fieldAddr rfl (L 5 rfl rfl) Try.underlying44 rfl ti3 rfl rfl) ?_
      refine U.k rfl rfl (.inr ⟨_, _, _, rfl, rfl, ((L 1 rfl rfl).trans (cB g187))⟩) (S.load rfl (L 0 rfl rfl) Try.underlying3 rfl ((ow45.own (k := 0) rfl).cell rfl)) nd ?_
      refine U.p rfl rfl (.inr ⟨_, _, _, rfl, rfl, ((L 2 rfl rfl).trans (cB g187))⟩) (S.neqI rfl (L 0 rfl rfl) K) ?_
      refine U.p rfl rfl (.inl rfl) (S.pickT rfl ((L 3 rfl rfl).trans (cB g187)) (L 0 rfl rfl)) ?_
      exact kk [(29, .bool (decide (x25.op ≠ 15))), (28, .bool (decide (x25.op ≠ 15))), (27, .int .i64 x25.op), (26, .pointer (some ⟨b38, 0, none⟩))] _ ⟨.bool (decide (x25.op ≠ 15)), .int .i64 x25.op, .pointer (some ⟨b38, 0, none⟩), rfl, (by rw [g187, Bool.true_and])⟩
     ·skip
      refine U.x rfl rfl rfl rfl ((L 0 rfl rfl).trans (cB g187)) (by decide) ?_
      refine U.x rfl rfl rfl rfl ((L 1 rfl rfl).trans (cB g187)) (by decide) ?_
      refine U.x rfl rfl rfl rfl ((L 2 rfl rfl).trans (cB g187)) (by decide) ?_
      refine U.p rfl rfl (.inl rfl) (S.pickF rfl ((L 3 rfl rfl).trans (cB g187)) K) ?_
      exact kk [(29, .bool false), (28, .tuple #[]), (27, .tuple #[]), (26, .tuple #[])] _ ⟨.tuple #[], .tuple #[], .tuple #[], rfl, (by rw [g187, Bool.false_and])⟩
 ·intro kk
  refine bcase (b := decide (p1 < 0)) (fun g188 => ?_) (fun g188 => ?_)
  ·skip
   refine U.x rfl rfl rfl rfl ((L 0 rfl rfl).trans (cB g188)) (by decide) ?_
   refine U.x rfl rfl rfl rfl ((L 1 rfl rfl).trans (cB g188)) (by decide) ?_
   refine U.x rfl rfl rfl rfl ((L 2 rfl rfl).trans (cB g188)) (by decide) ?_
   refine U.x rfl rfl rfl rfl ((L 3 rfl rfl).trans (cB g188)) (by decide) ?_
   refine U.x rfl rfl rfl rfl ((L 4 rfl rfl).trans (cB g188)) (by decide) ?_
   refine U.p rfl rfl (.inl rfl) (S.pickT rfl ((L 5 rfl rfl).trans (cB g188)) K) ?_
   exact kk [(16, .bool true), (15, .tuple #[]), (14, .tuple #[]), (13, .tuple #[]), (12, .tuple #[]), (11, .tuple #[])] _ ⟨.tuple #[], .tuple #[], .tuple #[], .tuple #[], .tuple #[], rfl, (by rw [g188, Bool.true_or])⟩
  ·skip
   refine U.p rfl rfl (.inr ⟨_, _, _, rfl, rfl, ((L 0 rfl rfl).trans (cB g188))⟩) (S.move rfl (L 6 rfl rfl)) ?_
   refine U.p (v := .pointer (some ⟨b5, 3, none⟩)) rfl rfl (.inr ⟨_, _, _, rfl, rfl, ((L 1 rfl rfl).trans (cB g188))⟩) (S.fieldAddr rfl (L 5 rfl rfl) Try.underlying38 rfl ti36 rfl rfl) ?_
   refine U.k rfl rfl (.inr ⟨_, _, _, rfl, rfl, ((L 2 rfl rfl).trans (cB g188))⟩) (S.load rfl (L 0 rfl rfl) Try.underlying36 rfl ((ow8.own (k := 0) rfl).cell rfl)) nd ?_
   refine U.p rfl rfl (.inr ⟨_, _, _, rfl, rfl, ((L 3 rfl rfl).trans (cB g188))⟩) (f2.1.len rfl (L 0 rfl rfl) Try.underlying36) ?_
   refine U.p rfl rfl (.inr ⟨_, _, _, rfl, rfl, ((L 4 rfl rfl).trans (cB g188))⟩) (S.geq rfl (L 3 rfl rfl) (L 0 rfl rfl)) ?_
   refine U.p rfl rfl (.inl rfl) (S.pickF rfl ((L 5 rfl rfl).trans (cB g188)) (L 0 rfl rfl)) ?_
   exact kk [(16, .bool (decide ((p0.code.length : Int) ≤ p1))), (15, .bool (decide ((p0.code.length : Int) ≤ p1))), (14, .int .i64 (p0.code.length : Int)), (13, v1), (12, .pointer (some ⟨b5, 3, none⟩)), (11, .int .i64 p1)] _ ⟨.bool (decide ((p0.code.length : Int) ≤ p1)), .int .i64 (p0.code.length : Int), v1, .pointer (some ⟨b5, 3, none⟩), .int .i64 p1, rfl, (by rw [g188, Bool.false_or])⟩
theorem wk_flow_set_merge (V : Vw) (Rs : List At) (p0 : List Bool) (p1 : List Bool) (v1 : Value) (v3 : Value) (ow : Ow V (.os RT.bool v1 p0 :: .os RT.bool v3 p1 :: Rs)) (r : Bool × (List Bool)) (h : flow_set_merge p0 p1 = some r) : ∃ v V', Cl Try.prog 0 46 #[v1, v3] V.H v V'.H ∧ V.le V' ∧ (v = .bool r.1 ∧ Ow V' (.os RT.bool v1 r.2 :: .os RT.bool v3 p1 :: Rs)) := by
 refine Ct.of (Nat.zero_le _) Try.func46 rfl (nr rfl) ?_
 unfold flow_set_merge at h
 refine WP.usreg rfl ?_
 refine U.p rfl rfl (.inl rfl) (S.assign rfl K) ?_
 refine U.done (nr rfl) ?_
 refine WP.usreg rfl ?_
 refine U.p rfl rfl (.inl rfl) (S.assign rfl K) ?_
 refine U.done (nr rfl) ?_
 refine WP.seq ?_
 refine WP.usreg rfl ?_
 refine U.p rfl rfl (.inl rfl) (S.move rfl (L 3 rfl rfl)) ?_
 refine U.p rfl rfl (.inl rfl) (ow.oslen (k := 1) rfl rfl (L 0 rfl rfl) Try.underlying85) ?_
 refine U.p rfl rfl (.inl rfl) (S.move rfl K) ?_
 refine U.done (nr rfl) ?_
 refine WP.blk ?_
 unfold flow_set_merge_l1 at h
 obtain ⟨n9, hn8⟩ := loopO_some.1 h
 refine WP.loopI2 (fun n l V' => ∃ (xs5 : List Bool) (x6 : Bool) (x7 : Int), l = [(0, v1), (5, .bool x6), (8, v3), (9, .int .i64 (p1.length : Int)), (10, .int .i64 x7)] ∧ V.le V' ∧ Ow V' (.os RT.bool v1 xs5 :: .os RT.bool v3 p1 :: Rs) ∧ itO (fun s => flow_set_merge_l1b p1 s.1 s.2.1 s.2.2) n (xs5, x6, x7) = some r) n9 _ ⟨p0, false, 0, rfl, .refl _, ow, hn8⟩ (allCons (L 5 rfl rfl) (allCons (L 3 rfl rfl) (allCons (L 2 rfl rfl) (allCons (L 1 rfl rfl) (allCons (L 0 rfl rfl) allNil))))) ?_
 rintro _ _ V10 ⟨xs5, x6, x7, rfl, le11, ow12, h16⟩
 obtain ⟨m13, q14, rfl, h17, e15⟩ := itS h16
 replace h17 : flow_set_merge_l1b p1 xs5 x6 x7 = some q14 := h17
 unfold flow_set_merge_l1b at h17
 refine WP.usreg rfl ?_
 refine U.p rfl rfl (.inl rfl) (S.lss rfl (L 4 rfl rfl) (L 3 rfl rfl)) ?_
 refine U.done (nr rfl) ?_
 refine WP.seq ?_
 refine WP.cond _ (L 0 rfl rfl) rfl (fun c18 => ?_) (fun c18 => ?_)
 ·have h19 := ifT c18 h17
  refine WP.skip ?_
  refine sqN ?_
  refine WP.seq ?_
  refine WP.blk ?_
  refine WP.usreg rfl ?_
  refine U.p rfl rfl (.inl rfl) (S.move rfl (L 5 rfl rfl)) ?_
  obtain ⟨x20, hx21, h22⟩ := bindS h19
  obtain ⟨b23, o24, n25, c26, hv27⟩ := ow12.ospt (k := 1) rfl hx21
  obtain ⟨_, hv28, _⟩ := ow12.osel (k := 1) rfl hv27 hx21
  refine U.p rfl rfl (.inl rfl) (S.index rfl ((L 4 rfl rfl).trans hv28) (L 6 rfl rfl) Try.underlying85 ti4 (ix_ge hx21) (ix_lt hx21)) ?_
  obtain ⟨cs29, hv30, hlt31, hr32, hc33⟩ := ow12.osel (k := 1) rfl hv27 hx21
  obtain rfl : cs29 = [.bool x20] := hr32
  refine U.k rfl rfl (.inl rfl) (S.load rfl (L 0 rfl rfl) Try.underlying4 rfl (hc33 0 _ rfl)) nd ?_
  refine U.p rfl rfl (.inl rfl) (S.assign rfl (L 2 rfl rfl)) ?_
  refine U.p rfl rfl (.inl rfl) (S.assign rfl (L 1 rfl rfl)) ?_
  refine U.done (nr rfl) ?_
  refine WP.usreg rfl ?_
  refine U.p rfl rfl (.inl rfl) (S.move rfl (L 7 rfl rfl)) ?_
  refine U.p rfl rfl (.inl rfl) (S.move rfl (L 0 rfl rfl)) ?_
  obtain ⟨y34, hy35, h36⟩ := bindS h22
  refine U.joinX 11 (fun e H => ∃ (u37 u38 u39 u40 u41 u42 u43 u44 : Value), H = V10.H ∧ e = [(25, .bool y34), (24, u37), (23, u38), (22, u39), (21, u40), (20, u41), (19, u42), (18, u43), (17, u44)]) ?_ ?_
  ·rintro _ _ ⟨u37, u38, u39, u40, u41, u42, u43, u44, rfl, rfl⟩
   refine U.p rfl rfl (.inl rfl) (S.assign rfl (L 0 rfl rfl)) ?_
   refine U.done (nr rfl) ?_
   refine WP.ureg rfl ?_
   refine U.p rfl rfl (.inl rfl) (S.move rfl (L 18 rfl rfl)) ?_
   refine U.p rfl rfl (.inl rfl) (S.move rfl (L 14 rfl rfl)) ?_
   refine U.p rfl rfl (.inl rfl) (S.move rfl (L 20 rfl rfl)) ?_
   refine U.p rfl rfl (.inl rfl) (S.move rfl (L 16 rfl rfl)) ?_
   obtain ⟨x48, hx49, h50⟩ := bindS h36
   obtain ⟨b51, o52, n53, c54, hv55⟩ := ow12.ospt (k := 0) rfl hx49
   obtain ⟨_, hv56, _⟩ := ow12.osel (k := 0) rfl hv55 hx49
   refine U.p rfl rfl (.inl rfl) (S.index rfl ((L 1 rfl rfl).trans hv56) (L 0 rfl rfl) Try.underlying85 ti4 (ix_ge hx49) (ix_lt hx49)) ?_
   obtain ⟨cs57, hv58, hlt59, hr60, hc61⟩ := ow12.osel (k := 0) rfl hv55 hx49
   obtain rfl : cs57 = [.bool x48] := hr60
   refine U.k rfl rfl (.inl rfl) (S.load rfl (L 0 rfl rfl) Try.underlying4 rfl (hc61 0 _ rfl)) nd ?_
   refine U.p rfl rfl (.inl rfl) (S.move rfl (L 0 rfl rfl)) ?_
   refine U.joinX 9 (fun e H => ∃ (u62 : Value), H = V10.H ∧ e = [(34, .bool (x48 || x20)), (33, u62)]) ?_ ?_
   ·rintro _ _ ⟨u62, rfl, rfl⟩
    obtain ⟨x66, hx67, h68⟩ := bindS h50
    obtain ⟨_, hv69, _⟩ := ow12.osel (k := 0) rfl hv55 hx67
    refine U.p rfl rfl (.inl rfl) (S.index rfl ((L 8 rfl rfl).trans hv69) (L 7 rfl rfl) Try.underlying85 ti4 (ix_ge hx67) (ix_lt hx67)) ?_
    obtain ⟨cs70, hv71, hlt72, hr73, hc74⟩ := ow12.osel (k := 0) rfl hv55 hx67
    obtain rfl : cs70 = [.bool x66] := hr73
    refine O.storeE (k := 0) (R := RT.bool) (j := 0) (y := x48 || x20) (cs := [.bool (x48 || x20)]) ow12 rfl hv71 rfl rfl (.inl rfl) rfl (L 0 rfl rfl) (L 1 rfl rfl) ti4 hx67 (by simp [topV]) rfl rfl rfl (full rfl) (fun _ _ => nd) (fun V75 le76 ow77 => ?_)
    refine U.done (nr rfl) ?_
    refine blkN (sqN ?_)
    refine WP.ureg rfl ?_
    refine U.p rfl rfl (.inl rfl) (S.add rfl (L 32 rfl rfl) K) ?_
    refine U.p rfl rfl (.inl rfl) (S.move rfl (L 0 rfl rfl)) ?_
    refine U.done (nr rfl) ?_
    refine sqN ?_
    exact ⟨_, V75, rfl, ⟨m13, Nat.lt_succ_self _, xs5.set (Int.toNat x7) (x48 || x20), y34, w64 (x7 + 1), rfl, (le11.trans le76), ow77, backS h68 e15⟩, (allCons (L 30 rfl rfl) (allCons (L 12 rfl rfl) (allCons (L 32 rfl rfl) (allCons (L 33 rfl rfl) (allCons (L 0 rfl rfl) allNil)))))⟩
   ·intro kk
    refine bcase (b := x48) (fun g78 => ?_) (fun g78 => ?_)
    ·skip
     refine U.x rfl rfl rfl rfl ((L 0 rfl rfl).trans (cB g78)) (by decide) ?_
     refine U.p rfl rfl (.inl rfl) (S.pickT rfl ((L 1 rfl rfl).trans (cB g78)) K) ?_
     exact kk [(34, .bool true), (33, .tuple #[])] _ ⟨.tuple #[], rfl, (by rw [g78, Bool.true_or])⟩
    ·skip
     refine U.p rfl rfl (.inr ⟨_, _, _, rfl, rfl, ((L 0 rfl rfl).trans (cB g78))⟩) (S.move rfl (L 19 rfl rfl)) ?_
     refine U.p rfl rfl (.inl rfl) (S.pickF rfl ((L 1 rfl rfl).trans (cB g78)) (L 0 rfl rfl)) ?_
     exact kk [(34, .bool x20), (33, .bool x20)] _ ⟨.bool x20, rfl, (by rw [g78, Bool.false_or])⟩
  ·intro kk
   refine bcase (b := x6) (fun g79 => ?_) (fun g79 => ?_)
   ·have h80 := ifT g79 hy35
    refine U.x rfl rfl rfl rfl ((L 0 rfl rfl).trans (cB g79)) (by decide) ?_
    refine U.x rfl rfl rfl rfl ((L 1 rfl rfl).trans (cB g79)) (by decide) ?_
    refine U.z rfl rfl rfl rfl (L 0 rfl rfl) ?_
    refine U.z rfl rfl rfl rfl (L 1 rfl rfl) ?_
    refine U.z rfl rfl rfl rfl (L 2 rfl rfl) ?_
    refine U.z rfl rfl rfl rfl (L 3 rfl rfl) ?_
    refine U.z rfl rfl rfl rfl (L 4 rfl rfl) ?_
    refine U.x rfl rfl rfl rfl ((L 7 rfl rfl).trans (cB g79)) (by decide) ?_
    refine U.p rfl rfl (.inl rfl) (S.pickT rfl ((L 8 rfl rfl).trans (cB g79)) K) ?_
    have e81 := Option.some.inj h80
    subst e81
    exact kk [(25, .bool true), (24, .tuple #[]), (23, .tuple #[]), (22, .tuple #[]), (21, .tuple #[]), (20, .tuple #[]), (19, .tuple #[]), (18, .tuple #[]), (17, .tuple #[])] _ ⟨.tuple #[], .tuple #[], .tuple #[], .tuple #[], .tuple #[], .tuple #[], .tuple #[], .tuple #[], rfl, rfl⟩
   ·have h82 := ifF g79 hy35
    refine U.p rfl rfl (.inr ⟨_, _, _, rfl, rfl, ((L 0 rfl rfl).trans (cB g79))⟩) (S.move rfl (L 2 rfl rfl)) ?_
    refine U.p rfl rfl (.inr ⟨_, _, _, rfl, rfl, ((L 1 rfl rfl).trans (cB g79))⟩) (S.move rfl (L 0 rfl rfl)) ?_
    obtain ⟨y83, hy84, h85⟩ := bindS h82
    refine U.joinX 10 (fun e H => ∃ (u86 u87 u88 u89 u90 : Value), H = V10.H ∧ e = [(24, .bool y83), (23, u86), (22, u87), (21, u88), (20, u89), (19, u90)]) ?_ ?_
    ·rintro _ _ ⟨u86, u87, u88, u89, u90, rfl, rfl⟩
     refine U.p rfl rfl (.inl rfl) (S.pickF rfl ((L 8 rfl rfl).trans (cB g79)) (L 0 rfl rfl)) ?_
     have e94 := Option.some.inj h85
     subst e94
     exact kk [(25, .bool y83), (24, .bool y83), (23, u86), (22, u87), (21, u88), (20, u89), (19, u90), (18, .bool x20), (17, .bool x20)] _ ⟨.bool y83, u86, u87, u88, u89, u90, .bool x20, .bool x20, rfl, rfl⟩
    ·intro kk
     refine bcase (b := x20) (fun g95 => ?_) (fun g95 => ?_)
     ·have h96 := ifT g95 hy84
      refine U.p rfl rfl (.inr ⟨_, _, _, rfl, rfl, ((L 0 rfl rfl).trans (cB g95))⟩) (S.move rfl (L 10 rfl rfl)) ?_
      refine U.p rfl rfl (.inr ⟨_, _, _, rfl, rfl, ((L 1 rfl rfl).trans (cB g95))⟩) (S.move rfl (L 6 rfl rfl)) ?_
      obtain ⟨x97, hx98, h99⟩ := bindS h96
      obtain ⟨b100, o101, n102, c103, hv104⟩ := ow12.ospt (k := 0) rfl hx98
      obtain ⟨_, hv105, _⟩ := ow12.osel (k := 0) rfl hv104 hx98
      refine U.p rfl rfl (.inr ⟨_, _, _, rfl, rfl, ((L 2 rfl rfl).trans (cB g95))⟩) (S.index rfl ((L 1 rfl rfl).trans hv105) (L 0 rfl rfl) Try.underlying85 ti4 (ix_ge hx98) (ix_lt hx98)) ?_
      obtain ⟨cs106, hv107, hlt108, hr109, hc110⟩ := ow12.osel (k := 0) rfl hv104 hx98
      obtain rfl : cs106 = [.bool x97] := hr109
      refine U.k rfl rfl (.inr ⟨_, _, _, rfl, rfl, ((L 3 rfl rfl).trans (cB g95))⟩) (S.load rfl (L 0 rfl rfl) Try.underlying4 rfl (hc110 0 _ rfl)) nd ?_
      refine U.p rfl rfl (.inr ⟨_, _, _, rfl, rfl, ((L 4 rfl rfl).trans (cB g95))⟩) (S.not rfl (L 0 rfl rfl)) ?_
      refine U.p rfl rfl (.inr ⟨_, _, _, rfl, rfl, ((L 7 rfl rfl).trans (cB g79))⟩) (S.pickT rfl ((L 5 rfl rfl).trans (cB g95)) (L 0 rfl rfl)) ?_
      have e111 := Option.some.inj h99
      subst e111
      exact kk [(24, .bool (!x97)), (23, .bool (!x97)), (22, .bool x97), (21, .pointer (some ⟨b100, o101 + Int.toNat x7 * 1, none⟩)), (20, .int .i64 x7), (19, v1)] _ ⟨.bool (!x97), .bool x97, .pointer (some ⟨b100, o101 + Int.toNat x7 * 1, none⟩), .int .i64 x7, v1, rfl, rfl⟩
     ·have h112 := ifF g95 hy84
      refine U.x rfl rfl rfl rfl ((L 0 rfl rfl).trans (cB g95)) (by decide) ?_
      refine U.x rfl rfl rfl rfl ((L 1 rfl rfl).trans (cB g95)) (by decide) ?_
      refine U.x rfl rfl rfl rfl ((L 2 rfl rfl).trans (cB g95)) (by decide) ?_
      refine U.x rfl rfl rfl rfl ((L 3 rfl rfl).trans (cB g95)) (by decide) ?_
      refine U.x rfl rfl rfl rfl ((L 4 rfl rfl).trans (cB g95)) (by decide) ?_
      refine U.p rfl rfl (.inr ⟨_, _, _, rfl, rfl, ((L 7 rfl rfl).trans (cB g79))⟩) (S.pickF rfl ((L 5 rfl rfl).trans (cB g95)) K) ?_
      have e113 := Option.some.inj h112
      subst e113
      exact kk [(24, .bool false), (23, .tuple #[]), (22, .tuple #[]), (21, .tuple #[]), (20, .tuple #[]), (19, .tuple #[])] _ ⟨.tuple #[], .tuple #[], .tuple #[], .tuple #[], .tuple #[], rfl, rfl⟩
 ·have h114 := ifF c18 h17
  refine WP.exit ?_
  refine sqE (sqE (blkE (sqN ?_)))
  have h115 := exitS h114 e15
  refine WP.usreg rfl ?_
  refine U.p rfl rfl (.inl rfl) (S.move rfl (L 2 rfl rfl)) ?_
  refine U.p rfl rfl (.inl rfl) (S.assign rfl (L 0 rfl rfl)) ?_
  refine U.done (nr rfl) ?_
  refine WP.ret ?_
  refine fin.slot (.inr rfl) rfl (L 0 rfl rfl) ⟨V10, rfl, le11, ?_⟩
  have e116 := Option.some.inj h115
  subst e116
  exact ⟨rfl, ow12⟩
theorem wk_slices_Clone_3 (V : Vw) (Rs : List At) (p0 : List Bool) (v1 : Value) (ow : Ow V (.os RT.bool v1 p0 :: Rs)) (r : List Bool) (h : slices_Clone_3 p0 = some r) : ∃ v V', Cl Try.prog 0 53 #[v1] V.H v V'.H ∧ V.le V' ∧ (∃ (v3 : Value), v = v3 ∧ Ow V' (.os RT.bool v3 r :: .os RT.bool v1 p0 :: Rs)) := by
 refine Ct.of (Nat.zero_le _) Try.func53 rfl (nr rfl) ?_
 unfold slices_Clone_3 at h
 refine WP.usreg rfl ?_
 refine U.p rfl rfl (.inl rfl) (S.assign rfl K) ?_
 refine U.done (nr rfl) ?_
 refine WP.seq ?_
 refine WP.usreg rfl ?_
 refine U.p rfl rfl (.inl rfl) (S.move rfl (L 1 rfl rfl)) ?_
 refine U.p rfl rfl (.inl rfl) (ow.oseqNil (k := 0) rfl rfl (L 0 rfl rfl) K Try.underlying85) ?_
 refine U.done (nr rfl) ?_
 refine WP.cond _ (L 0 rfl rfl) rfl (fun c5 => ?_) (fun c5 => ?_)
 ·have hz := (ow.osnil_of (k := 0) rfl c5)
  have h6 : (some [] : Option _) = some r := by simpa [hz, ap] using h
  refine WP.usreg rfl ?_
  refine U.p rfl rfl (.inl rfl) (S.assign rfl K) ?_
  refine U.done (nr rfl) ?_
  refine WP.ret ?_
  refine sqR ?_
  have ow7 := ow.nil RT.bool
  refine fin.slot (.inr rfl) rfl (L 0 rfl rfl) ⟨V, rfl, (.refl _), ?_⟩
  have e9 := Option.some.inj h6
  subst e9
  exact ⟨(.slice none 0 0), rfl, ow7⟩
 ·skip
  refine WP.skip ?_
  refine sqN ?_
  refine WP.usreg rfl ?_
  refine O.lit (R := RT.bool) ow rfl rfl (.inl rfl) rfl Try.underlying85 ti4 rfl rfl rfl (nr rfl) rfl aN .nil (fun _ => nd) (fun v10 V11 le12 ow13 => ?_)
  refine U.p rfl rfl (.inl rfl) (S.move rfl (L 4 rfl rfl)) ?_
  obtain ⟨xs15, hx16, h17⟩ := bindS h
  refine O.append (k := 0) ow13 rfl rfl rfl (.inl rfl) rfl (L 1 rfl rfl) (L 0 rfl rfl) Try.underlying85 ti4 rfl rfl (nr rfl) (ow13.src (k := 1) rfl Try.underlying85) hx16 (fun _ _ => nd) (fun v18 V19 le20 ow21 => ?_)
  refine U.p rfl rfl (.inl rfl) (S.assign rfl (L 0 rfl rfl)) ?_
  refine U.done (nr rfl) ?_
  refine WP.ret ?_
  refine fin.slot (.inr rfl) rfl (L 0 rfl rfl) ⟨V19, rfl, (le12.trans le20), ?_⟩
  have e23 := Option.some.inj h17
  subst e23
  exact ⟨v18, rfl, ow21⟩
theorem wk_ir_Def (V : Vw) (Rs : List At) (p0 : TIns) (v1 : Value) (f2 : Fz (RT.int .i64) V v1 p0.args) (ow : Ow V (Rs)) (r : Int) (h : ir_Def p0 = some r) : ∃ v V', Cl Try.prog 0 54 #[.agg #[.int .i64 p0.op, .int .i64 p0.d, .int .i64 p0.a, .int .i64 p0.b, .int .i64 p0.imm, v1, .int .i64 p0.what, .bool p0.volatile, .bool p0.final]] V.H v V'.H ∧ V.le V' ∧ (v = .int .i64 r ∧ Ow V' (Rs)) := by
 refine Ct.of (Nat.zero_le _) Try.func54 rfl (nr rfl) ?_
 unfold ir_Def at h
 refine WP.usreg rfl ?_
 refine O.box ow rfl rfl (.inl rfl) rfl (L 0 rfl rfl) (by simp [topV]) rfl nd (fun b3 V4 le5 ow6 => ?_)
 refine U.p rfl rfl (.inl rfl) (S.assign rfl K) ?_
 refine U.done (nr rfl) ?_
 refine WP.usreg rfl ?_
 refine U.p (v := .pointer (some ⟨b3, 1, none⟩)) rfl rfl (.inl rfl) (S.fieldAddr rfl (L 1 rfl rfl) Try.underlying44 rfl ti3 rfl rfl) ?_
 refine U.k rfl rfl (.inl rfl) (S.load rfl (L 0 rfl rfl) Try.underlying3 rfl ((ow6.own (k := 0) rfl).cell rfl)) nd ?_
 refine U.p rfl rfl (.inl rfl) (S.assign rfl (L 0 rfl rfl)) ?_
 refine U.done (nr rfl) ?_
 refine WP.ret ?_
 refine fin.slot (.inr rfl) rfl (L 0 rfl rfl) ⟨V4, rfl, le5, ?_⟩
 have ow8 := ow6.drop 0 rfl
 have e9 := Option.some.inj h
 subst e9
 exact ⟨rfl, ow8⟩
theorem wk_ir_Uses (V : Vw) (Rs : List At) (p0 : TIns) (v1 : Value) (f2 : Fz (RT.int .i64) V v1 p0.args) (ow : Ow V (Rs)) (r : List Int) (h : ir_Uses p0 = some r) : ∃ v V', Cl Try.prog 0 55 #[.agg #[.int .i64 p0.op, .int .i64 p0.d, .int .i64 p0.a, .int .i64 p0.b, .int .i64 p0.imm, v1, .int .i64 p0.what, .bool p0.volatile, .bool p0.final]] V.H v V'.H ∧ V.le V' ∧ (∃ (v3 : Value), v = v3 ∧ Ow V' (.os (RT.int .i64) v3 r :: Rs)) := by
 refine Ct.of (Nat.zero_le _) Try.func55 rfl (nr rfl) ?_
 unfold ir_Uses at h
 refine WP.usreg rfl ?_
 refine O.box ow rfl rfl (.inl rfl) rfl (L 0 rfl rfl) (by simp [topV]) rfl nd (fun b5 V6 le7 ow8 => ?_)
 refine U.p rfl rfl (.inl rfl) (S.assign rfl K) ?_
 refine U.done (nr rfl) ?_
 refine WP.usreg rfl ?_
 refine U.p rfl rfl (.inl rfl) (S.assign rfl K) ?_
 refine U.done (nr rfl) ?_
 refine WP.seq ?_
 refine WP.usreg rfl ?_
 refine U.p (v := .pointer (some ⟨b5, 2, none⟩)) rfl rfl (.inl rfl) (S.fieldAddr rfl (L 2 rfl rfl) Try.underlying44 rfl ti3 rfl rfl) ?_
 refine U.k rfl rfl (.inl rfl) (S.load rfl (L 0 rfl rfl) Try.underlying3 rfl ((ow8.own (k := 0) rfl).cell rfl)) nd ?_
 refine U.p (v := .pointer (some ⟨b5, 3, none⟩)) rfl rfl (.inl rfl) (S.fieldAddr rfl (L 4 rfl rfl) Try.underlying44 rfl ti3 rfl rfl) ?_
 refine U.k rfl rfl (.inl rfl) (S.load rfl (L 0 rfl rfl) Try.underlying3 rfl ((ow8.own (k := 0) rfl).cell rfl)) nd ?_
 refine O.lit (R := (RT.int .i64)) ow8 rfl rfl (.inl rfl) rfl Try.underlying23 ti3 rfl rfl rfl (nr rfl) rfl (aC (L 2 rfl rfl) (aC (L 0 rfl rfl) aN)) (.cons _ _ p0.a _ (by simp [topV]) rfl (.cons _ _ p0.b _ (by simp [topV]) rfl .nil)) (fun _ => nd) (fun v10 V11 le12 ow13 => ?_)
 refine U.p (v := .pointer (some ⟨b5, 5, none⟩)) rfl rfl (.inl rfl) (S.fieldAddr rfl (L 7 rfl rfl) Try.underlying44 rfl ti23 rfl rfl) ?_
 refine U.k rfl rfl (.inl rfl) (S.load rfl (L 0 rfl rfl) Try.underlying23 rfl ((ow13.own (k := 1) rfl).cell rfl)) nd ?_
 have f15 := f2.up (le7.trans le12)
 obtain ⟨xs16, hx17, h18⟩ := bindS h
 refine O.append (k := 0) ow13 rfl rfl rfl (.inl rfl) rfl (L 2 rfl rfl) (L 0 rfl rfl) Try.underlying23 ti3 rfl rfl (nr rfl) (f15.src Try.underlying23) hx17 (fun _ _ => nd) (fun v19 V20 le21 ow22 => ?_)
 refine U.p rfl rfl (.inl rfl) (ow22.oslen (k := 0) rfl rfl (L 0 rfl rfl) Try.underlying23) ?_
 refine U.p rfl rfl (.inl rfl) (S.move rfl K) ?_
 refine U.done (nr rfl) ?_
 refine WP.blk ?_
 have ow28 := ow22.nil (RT.int .i64)
 have ow30 := ow28.drop 2 rfl
 unfold ir_Uses_l1 at h18
 obtain ⟨n32, hn31⟩ := loopO_some.1 h18
 refine WP.loopI2 (fun n l V' => ∃ (v25 : Value) (xs26 : List Int) (x27 : Int), l = [(3, v25), (13, v19), (14, .int .i64 (xs16.length : Int)), (15, .int .i64 x27)] ∧ V20.le V' ∧ Ow V' (.os (RT.int .i64) v25 xs26 :: .os (RT.int .i64) v19 xs16 :: Rs) ∧ itO (fun s => ir_Uses_l1b xs16 s.1 s.2) n (xs26, x27) = some r) n32 _ ⟨(.slice none 0 0), [], 0, rfl, .refl _, ow30, hn31⟩ (allCons (L 10 rfl rfl) (allCons (L 2 rfl rfl) (allCons (L 1 rfl rfl) (allCons (L 0 rfl rfl) allNil)))) ?_
 rintro _ _ V33 ⟨v25, xs26, x27, rfl, le34, ow35, h39⟩
 obtain ⟨m36, q37, rfl, h40, e38⟩ := itS h39
 replace h40 : ir_Uses_l1b xs16 xs26 x27 = some q37 := h40
 unfold ir_Uses_l1b at h40
 refine WP.usreg rfl ?_
 refine U.p rfl rfl (.inl rfl) (S.lss rfl (L 3 rfl rfl) (L 2 rfl rfl)) ?_
 refine U.done (nr rfl) ?_
 refine WP.seq ?_
 refine WP.cond _ (L 0 rfl rfl) rfl (fun c41 => ?_) (fun c41 => ?_)
 ·have h42 := ifT c41 h40
  refine WP.skip ?_
  refine sqN ?_
  refine WP.seqI (fun l V' => ∃ (v44 : Value) (xs45 : List Int), l = [(3, v44), (13, v19), (14, .int .i64 (xs16.length : Int)), (15, .int .i64 x27)] ∧ V33.le V' ∧ Ow V' (.os (RT.int .i64) v44 xs45 :: .os (RT.int .i64) v19 xs16 :: Rs) ∧ ir_Uses_k1 x27 xs45 = some q37) ?_ ?_
  ·rintro _ V46 ⟨v44, xs45, rfl, le47, ow48, h49⟩
   unfold ir_Uses_k1 at h49
   refine WP.ureg rfl ?_
   refine U.p rfl rfl (.inl rfl) (S.add rfl (L 3 rfl rfl) K) ?_
   refine U.p rfl rfl (.inl rfl) (S.move rfl (L 0 rfl rfl)) ?_
   refine U.done (nr rfl) ?_
   refine sqN ?_
   exact ⟨_, V46, rfl, ⟨m36, Nat.lt_succ_self _, v44, xs45, w64 (x27 + 1), rfl, (le34.trans le47), ow48, backS h49 e38⟩, (allCons (L 2 rfl rfl) (allCons (L 3 rfl rfl) (allCons (L 4 rfl rfl) (allCons (L 0 rfl rfl) allNil))))⟩
  ·skip
   refine WP.blk ?_
   refine WP.usreg rfl ?_
   obtain ⟨x50, hx51, h52⟩ := bindS h42
   obtain ⟨b53, o54, n55, c56, hv57⟩ := ow35.ospt (k := 1) rfl hx51
   obtain ⟨_, hv58, _⟩ := ow35.osel (k := 1) rfl hv57 hx51
   refine U.p rfl rfl (.inl rfl) (S.index rfl ((L 2 rfl rfl).trans hv58) (L 4 rfl rfl) Try.underlying23 ti3 (ix_ge hx51) (ix_lt hx51)) ?_
   obtain ⟨cs59, hv60, hlt61, hr62, hc63⟩ := ow35.osel (k := 1) rfl hv57 hx51
   obtain rfl : cs59 = [.int .i64 x50] := hr62
   refine U.k rfl rfl (.inl rfl) (S.load rfl (L 0 rfl rfl) Try.underlying3 rfl (hc63 0 _ rfl)) nd ?_
   refine U.p rfl rfl (.inl rfl) (S.assign rfl (L 0 rfl rfl)) ?_
   refine U.done (nr rfl) ?_
   refine WP.usreg rfl ?_
   refine U.p rfl rfl (.inl rfl) (S.move rfl (L 0 rfl rfl)) ?_
   refine U.p rfl rfl (.inl rfl) (S.geq rfl (L 0 rfl rfl) K) ?_
   refine U.done (nr rfl) ?_
   refine WP.cond _ (L 0 rfl rfl) rfl (fun c64 => ?_) (fun c64 => ?_)
   ·have h65 := ifT c64 h52
    refine WP.ureg rfl ?_
    refine U.p rfl rfl (.inl rfl) (S.move rfl (L 6 rfl rfl)) ?_
    refine U.p rfl rfl (.inl rfl) (S.move rfl (L 3 rfl rfl)) ?_
    refine O.lit (R := (RT.int .i64)) ow35 rfl rfl (.inl rfl) rfl Try.underlying23 ti3 rfl rfl rfl (nr rfl) rfl (aC (L 0 rfl rfl) aN) (.cons _ _ x50 _ (by simp [topV]) rfl .nil) (fun _ => nd) (fun v66 V67 le68 ow69 => ?_)
    obtain ⟨xs71, hx72, h73⟩ := bindS h65
    refine O.append (k := 1) ow69 rfl rfl rfl (.inl rfl) rfl (L 2 rfl rfl) (L 0 rfl rfl) Try.underlying23 ti3 rfl rfl (nr rfl) (ow69.src (k := 0) rfl Try.underlying23) hx72 (fun _ _ => nd) (fun v74 V75 le76 ow77 => ?_)
    refine U.p rfl rfl (.inl rfl) (S.assign rfl (L 0 rfl rfl)) ?_
    refine U.done (nr rfl) ?_
    refine blkN (sqN ?_)
    have ow79 := ow77.drop 0 rfl
    exact ⟨_, V75, rfl, ⟨v74, xs71, rfl, (le68.trans le76), ow79, h73⟩, (allCons (L 0 rfl rfl) (allCons (L 12 rfl rfl) (allCons (L 13 rfl rfl) (allCons (L 14 rfl rfl) allNil))))⟩
   ·have h80 := ifF c64 h52
    refine WP.skip ?_
    refine blkN (sqN ?_)
    exact ⟨_, V33, rfl, ⟨v25, xs26, rfl, (.refl _), ow35, h80⟩, (allCons (L 6 rfl rfl) (allCons (L 7 rfl rfl) (allCons (L 8 rfl rfl) (allCons (L 9 rfl rfl) allNil))))⟩
 ·have h81 := ifF c41 h40
  refine WP.exit ?_
  refine sqE (sqE (blkE (sqN ?_)))
  have h82 := exitS h81 e38
  refine WP.usreg rfl ?_
  refine U.p rfl rfl (.inl rfl) (S.move rfl (L 1 rfl rfl)) ?_
  refine U.p rfl rfl (.inl rfl) (S.assign rfl (L 0 rfl rfl)) ?_
  refine U.done (nr rfl) ?_
  refine WP.ret ?_
  refine fin.slot (.inr rfl) rfl (L 0 rfl rfl) ⟨V33, rfl, (((le7.trans le12).trans le21).trans le34), ?_⟩
  have ow83 := ow35.drop 1 rfl
  have e84 := Option.some.inj h82
  subst e84
  exact ⟨v25, rfl, ow83⟩
theorem wk_flow_step (V : Vw) (Rs : List At) (p0 : TIns) (p1 : List Bool) (v1 : Value) (v3 : Value) (f2 : Fz (RT.int .i64) V v1 p0.args) (ow : Ow V (.os RT.bool v3 p1 :: Rs)) (r : List Bool) (h : flow_step p0 p1 = some r) : ∃ v V', Cl Try.prog 0 47 #[.agg #[.int .i64 p0.op, .int .i64 p0.d, .int .i64 p0.a, .int .i64 p0.b, .int .i64 p0.imm, v1, .int .i64 p0.what, .bool p0.volatile, .bool p0.final], v3] V.H v V'.H ∧ V.le V' ∧ (∃ (v5 : Value), v = v5 ∧ Ow V' (.os RT.bool v5 r :: .os RT.bool v3 p1 :: Rs)) := by
 refine Ct.of (Nat.zero_le _) Try.func47 rfl (nr rfl) ?_
 unfold flow_step at h
 refine WP.usreg rfl ?_
 refine O.box ow rfl rfl (.inl rfl) rfl (L 0 rfl rfl) (by simp [topV]) rfl nd (fun b7 V8 le9 ow10 => ?_)
 refine U.p rfl rfl (.inl rfl) (S.assign rfl K) ?_
 refine U.done (nr rfl) ?_
 refine WP.usreg rfl ?_
 refine U.p rfl rfl (.inl rfl) (S.move rfl (L 3 rfl rfl)) ?_
 have ow12 := ow10.pick 1 rfl
 obtain ⟨x13, hx14, h15⟩ := bindS h
 refine O.call (V := V8) rfl rfl (.inl rfl) rfl en53 (aC (L 0 rfl rfl) aN) (wk_slices_Clone_3 V8 _ p1 v3 ow12 _ hx14) (fun _ _ _ _ => nd) (fun v16 V17 le18 hp19 => ?_)
 obtain ⟨_, rfl, ow20⟩ := hp19
 refine U.p rfl rfl (.inl rfl) (S.assign rfl (L 0 rfl rfl)) ?_
 refine U.done (nr rfl) ?_
 refine WP.seqI (fun l V' => ∃ (xs23 : List Bool), l = [(2, .pointer (some ⟨b7, 0, none⟩)), (5, v16)] ∧ V17.le V' ∧ Ow V' (.os RT.bool v3 p1 :: .pt b7 (.cells 0 [.int .i64 p0.op, .int .i64 p0.d, .int .i64 p0.a, .int .i64 p0.b, .int .i64 p0.imm, v1, .int .i64 p0.what, .bool p0.volatile, .bool p0.final]) :: .os RT.bool v16 xs23 :: Rs) ∧ flow_step_k1 p0 xs23 = some r) ?_ ?_
 ·rintro _ V24 ⟨xs23, rfl, le25, ow26, h27⟩
  unfold flow_step_k1 at h27
  refine WP.seq ?_
  refine WP.usreg rfl ?_
  refine U.k rfl rfl (.inl rfl) (S.loadB rfl (L 0 rfl rfl) Try.underlying44 rfl ti44 (ow26.own (k := 1) rfl).get rfl) nd ?_
  have f28 := f2.up ((le9.trans le18).trans le25)
  obtain ⟨x29, hx30, h31⟩ := bindS h27
  refine O.call (V := V24) rfl rfl (.inl rfl) rfl en55 (aC (L 0 rfl rfl) aN) (wk_ir_Uses V24 _ p0 v1 f28 ow26 _ hx30) (fun _ _ _ _ => nd) (fun v32 V33 le34 hp35 => ?_)
  obtain ⟨_, rfl, ow36⟩ := hp35
  refine U.p rfl rfl (.inl rfl) (ow36.oslen (k := 0) rfl rfl (L 0 rfl rfl) Try.underlying23) ?_
  refine U.p rfl rfl (.inl rfl) (S.move rfl K) ?_
  refine U.done (nr rfl) ?_
  refine WP.blk ?_
  have ow41 := ow36.drop 2 rfl
  have ow42 := ow41.pick 0 rfl
  have ow43 := ow42.pick 2 rfl
  have ow44 := ow43.pick 2 rfl
  unfold flow_step_l1 at h31
  obtain ⟨n46, hn45⟩ := loopO_some.1 h31
  refine WP.loopI2 (fun n l V' => ∃ (xs39 : List Bool) (x40 : Int), l = [(5, v16), (25, v32), (26, .int .i64 (x29.length : Int)), (27, .int .i64 x40)] ∧ V33.le V' ∧ Ow V' (.os RT.bool v3 p1 :: .os RT.bool v16 xs39 :: .os (RT.int .i64) v32 x29 :: Rs) ∧ itO (fun s => flow_step_l1b x29 s.1 s.2) n (xs39, x40) = some r) n46 _ ⟨xs23, 0, rfl, .refl _, ow44, hn45⟩ (allCons (L 5 rfl rfl) (allCons (L 2 rfl rfl) (allCons (L 1 rfl rfl) (allCons (L 0 rfl rfl) allNil)))) ?_
  rintro _ _ V47 ⟨xs39, x40, rfl, le48, ow49, h53⟩
  obtain ⟨m50, q51, rfl, h54, e52⟩ := itS h53
  replace h54 : flow_step_l1b x29 xs39 x40 = some q51 := h54
  unfold flow_step_l1b at h54
  refine WP.usreg rfl ?_
  refine U.p rfl rfl (.inl rfl) (S.lss rfl (L 3 rfl rfl) (L 2 rfl rfl)) ?_
  refine U.done (nr rfl) ?_
  refine WP.seq ?_
  refine WP.cond _ (L 0 rfl rfl) rfl (fun c55 => ?_) (fun c55 => ?_)
  ·have h56 := ifT c55 h54
   refine WP.skip ?_
   refine sqN ?_
   refine WP.seqI (fun l V' => ∃ (xs57 : List Bool), l = [(5, v16), (25, v32), (26, .int .i64 (x29.length : Int)), (27, .int .i64 x40)] ∧ V47.le V' ∧ Ow V' (.os RT.bool v3 p1 :: .os RT.bool v16 xs57 :: .os (RT.int .i64) v32 x29 :: Rs) ∧ flow_step_k2 x40 xs57 = some q51) ?_ ?_
   ·rintro _ V58 ⟨xs57, rfl, le59, ow60, h61⟩
    unfold flow_step_k2 at h61
    refine WP.ureg rfl ?_
    refine U.p rfl rfl (.inl rfl) (S.add rfl (L 3 rfl rfl) K) ?_
    refine U.p rfl rfl (.inl rfl) (S.move rfl (L 0 rfl rfl)) ?_
    refine U.done (nr rfl) ?_
    refine sqN ?_
    exact ⟨_, V58, rfl, ⟨m50, Nat.lt_succ_self _, xs57, w64 (x40 + 1), rfl, (le48.trans le59), ow60, backS h61 e52⟩, (allCons (L 2 rfl rfl) (allCons (L 3 rfl rfl) (allCons (L 4 rfl rfl) (allCons (L 0 rfl rfl) allNil))))⟩
   ·skip
    refine WP.blk ?_
    refine WP.usreg rfl ?_
    obtain ⟨x62, hx63, h64⟩ := bindS h56
    obtain ⟨b65, o66, n67, c68, hv69⟩ := ow49.ospt (k := 2) rfl hx63
    obtain ⟨_, hv70, _⟩ := ow49.osel (k := 2) rfl hv69 hx63
    refine U.p rfl rfl (.inl rfl) (S.index rfl ((L 2 rfl rfl).trans hv70) (L 4 rfl rfl) Try.underlying23 ti3 (ix_ge hx63) (ix_lt hx63)) ?_
    obtain ⟨cs71, hv72, hlt73, hr74, hc75⟩ := ow49.osel (k := 2) rfl hv69 hx63
    obtain rfl : cs71 = [.int .i64 x62] := hr74
    refine U.k rfl rfl (.inl rfl) (S.load rfl (L 0 rfl rfl) Try.underlying3 rfl (hc75 0 _ rfl)) nd ?_
    refine U.p rfl rfl (.inl rfl) (S.assign rfl (L 0 rfl rfl)) ?_
    refine U.done (nr rfl) ?_
    refine WP.usreg rfl ?_
    refine U.p rfl rfl (.inl rfl) (S.move rfl (L 0 rfl rfl)) ?_
    refine U.p rfl rfl (.inl rfl) (S.move rfl (L 5 rfl rfl)) ?_
    refine U.p rfl rfl (.inl rfl) (ow49.oslen (k := 1) rfl rfl (L 0 rfl rfl) Try.underlying85) ?_
    refine U.p rfl rfl (.inl rfl) (S.lss rfl (L 2 rfl rfl) (L 0 rfl rfl)) ?_
    refine U.done (nr rfl) ?_
    refine WP.cond _ (L 0 rfl rfl) rfl (fun c76 => ?_) (fun c76 => ?_)
    ·have h77 := ifT c76 h64
     refine WP.ureg rfl ?_
     refine U.p rfl rfl (.inl rfl) (S.move rfl (L 8 rfl rfl)) ?_
     refine U.p rfl rfl (.inl rfl) (S.move rfl (L 5 rfl rfl)) ?_
     obtain ⟨x78, hx79, h80⟩ := bindS h77
     obtain ⟨b81, o82, n83, c84, hv85⟩ := ow49.ospt (k := 1) rfl hx79
     obtain ⟨_, hv86, _⟩ := ow49.osel (k := 1) rfl hv85 hx79
     refine U.p rfl rfl (.inl rfl) (S.index rfl ((L 1 rfl rfl).trans hv86) (L 0 rfl rfl) Try.underlying85 ti4 (ix_ge hx79) (ix_lt hx79)) ?_
     obtain ⟨cs87, hv88, hlt89, hr90, hc91⟩ := ow49.osel (k := 1) rfl hv85 hx79
     obtain rfl : cs87 = [.bool x78] := hr90
     refine O.storeE (k := 1) (R := RT.bool) (j := 0) (y := true) (cs := [.bool true]) ow49 rfl hv88 rfl rfl (.inl rfl) rfl (L 0 rfl rfl) K ti4 hx79 (by simp [topV]) rfl rfl rfl (full rfl) (fun _ _ => nd) (fun V92 le93 ow94 => ?_)
     refine U.done (nr rfl) ?_
     refine blkN (sqN ?_)
     exact ⟨_, V92, rfl, ⟨xs39.set (Int.toNat x62) true, rfl, le93, ow94, h80⟩, (allCons (L 11 rfl rfl) (allCons (L 12 rfl rfl) (allCons (L 13 rfl rfl) (allCons (L 14 rfl rfl) allNil))))⟩
    ·have h95 := ifF c76 h64
     refine WP.skip ?_
     refine blkN (sqN ?_)
     exact ⟨_, V47, rfl, ⟨xs39, rfl, (.refl _), ow49, h95⟩, (allCons (L 8 rfl rfl) (allCons (L 9 rfl rfl) (allCons (L 10 rfl rfl) (allCons (L 11 rfl rfl) allNil))))⟩
  ·have h96 := ifF c55 h54
   refine WP.exit ?_
   refine sqE (sqE (blkE (sqN ?_)))
   have h97 := exitS h96 e52
   refine WP.usreg rfl ?_
   refine U.p rfl rfl (.inl rfl) (S.move rfl (L 1 rfl rfl)) ?_
   refine U.p rfl rfl (.inl rfl) (S.assign rfl (L 0 rfl rfl)) ?_
   refine U.done (nr rfl) ?_
   refine WP.ret ?_
   refine fin.slot (.inr rfl) rfl (L 0 rfl rfl) ⟨V47, rfl, ((((le9.trans le18).trans le25).trans le34).trans le48), ?_⟩
   have ow98 := ow49.drop 2 rfl
   have ow99 := ow98.pick 0 rfl
   have ow100 := ow99.pick 1 rfl
   have e101 := Option.some.inj h97
   subst e101
   exact ⟨v16, rfl, ow100⟩
 ·skip
  refine WP.usreg rfl ?_
  refine U.k rfl rfl (.inl rfl) (S.loadB rfl (L 4 rfl rfl) Try.underlying44 rfl ti44 (ow20.own (k := 2) rfl).get rfl) nd ?_
  have f102 := f2.up (le9.trans le18)
  obtain ⟨x103, hx104, h105⟩ := bindS h15
  refine O.call (V := V17) rfl rfl (.inl rfl) rfl en54 (aC (L 0 rfl rfl) aN) (wk_ir_Def V17 _ p0 v1 f102 ow20 _ hx104) (fun _ _ _ _ => nd) (fun v106 V107 le108 hp109 => ?_)
  obtain ⟨rfl, ow110⟩ := hp109
  refine U.p rfl rfl (.inl rfl) (S.assign rfl (L 0 rfl rfl)) ?_
  refine U.done (nr rfl) ?_
  refine WP.usreg rfl ?_
  refine U.p rfl rfl (.inl rfl) (S.move rfl (L 0 rfl rfl)) ?_
  refine U.p rfl rfl (.inl rfl) (S.geq rfl (L 0 rfl rfl) K) ?_
  refine U.p rfl rfl (.inl rfl) (S.move rfl (L 0 rfl rfl)) ?_
  refine U.joinX 8 (fun e H => ∃ (u111 u112 u113 u114 : Value), H = V107.H ∧ e = [(20, .bool ((decide (0 ≤ x103)) && (decide (x103 < (x13.length : Int))))), (19, u111), (18, u112), (17, u113), (16, u114)]) ?_ ?_
  ·rintro _ _ ⟨u111, u112, u113, u114, rfl, rfl⟩
   refine U.done (nr rfl) ?_
   refine WP.cond _ (L 0 rfl rfl) rfl (fun c118 => ?_) (fun c118 => ?_)
   ·have h119 := ifT c118 h105
    refine WP.ureg rfl ?_
    refine U.p rfl rfl (.inl rfl) (S.move rfl (L 11 rfl rfl)) ?_
    refine U.p rfl rfl (.inl rfl) (S.move rfl (L 9 rfl rfl)) ?_
    obtain ⟨x120, hx121, h122⟩ := bindS h119
    obtain ⟨b123, o124, n125, c126, hv127⟩ := ow110.ospt (k := 0) rfl hx121
    obtain ⟨_, hv128, _⟩ := ow110.osel (k := 0) rfl hv127 hx121
    refine U.p rfl rfl (.inl rfl) (S.index rfl ((L 1 rfl rfl).trans hv128) (L 0 rfl rfl) Try.underlying85 ti4 (ix_ge hx121) (ix_lt hx121)) ?_
    obtain ⟨cs129, hv130, hlt131, hr132, hc133⟩ := ow110.osel (k := 0) rfl hv127 hx121
    obtain rfl : cs129 = [.bool x120] := hr132
    refine O.storeE (k := 0) (R := RT.bool) (j := 0) (y := false) (cs := [.bool false]) ow110 rfl hv130 rfl rfl (.inl rfl) rfl (L 0 rfl rfl) K ti4 hx121 (by simp [topV]) rfl rfl rfl (full rfl) (fun _ _ => nd) (fun V134 le135 ow136 => ?_)
    refine U.done (nr rfl) ?_
    refine sqN ?_
    have ow137 := ow136.pick 0 rfl
    have ow138 := ow137.pick 2 rfl
    have ow139 := ow138.pick 2 rfl
    exact ⟨_, V134, rfl, ⟨x13.set (Int.toNat x103) false, rfl, (le108.trans le135), ow139, h122⟩, (allCons (L 18 rfl rfl) (allCons (L 14 rfl rfl) allNil))⟩
   ·have h140 := ifF c118 h105
    refine WP.skip ?_
    refine sqN ?_
    have ow141 := ow110.pick 0 rfl
    have ow142 := ow141.pick 2 rfl
    have ow143 := ow142.pick 2 rfl
    exact ⟨_, V107, rfl, ⟨x13, rfl, le108, ow143, h140⟩, (allCons (L 15 rfl rfl) (allCons (L 11 rfl rfl) allNil))⟩
  ·intro kk
   refine bcase (b := decide (0 ≤ x103)) (fun g144 => ?_) (fun g144 => ?_)
   ·skip
    refine U.p rfl rfl (.inr ⟨_, _, _, rfl, rfl, ((L 0 rfl rfl).trans (cB g144))⟩) (S.move rfl (L 3 rfl rfl)) ?_
    refine U.p rfl rfl (.inr ⟨_, _, _, rfl, rfl, ((L 1 rfl rfl).trans (cB g144))⟩) (S.move rfl (L 7 rfl rfl)) ?_
    refine U.p rfl rfl (.inr ⟨_, _, _, rfl, rfl, ((L 2 rfl rfl).trans (cB g144))⟩) (ow110.oslen (k := 0) rfl rfl (L 0 rfl rfl) Try.underlying85) ?_
    refine U.p rfl rfl (.inr ⟨_, _, _, rfl, rfl, ((L 3 rfl rfl).trans (cB g144))⟩) (S.lss rfl (L 2 rfl rfl) (L 0 rfl rfl)) ?_
    refine U.p rfl rfl (.inl rfl) (S.pickT rfl ((L 4 rfl rfl).trans (cB g144)) (L 0 rfl rfl)) ?_
    exact kk [(20, .bool (decide (x103 < (x13.length : Int)))), (19, .bool (decide (x103 < (x13.length : Int)))), (18, .int .i64 (x13.length : Int)), (17, v16), (16, .int .i64 x103)] _ ⟨.bool (decide (x103 < (x13.length : Int))), .int .i64 (x13.length : Int), v16, .int .i64 x103, rfl, (by rw [g144, Bool.true_and])⟩
   ·skip
    refine U.x rfl rfl rfl rfl ((L 0 rfl rfl).trans (cB g144)) (by decide) ?_
    refine U.x rfl rfl rfl rfl ((L 1 rfl rfl).trans (cB g144)) (by decide) ?_
    refine U.x rfl rfl rfl rfl ((L 2 rfl rfl).trans (cB g144)) (by decide) ?_
    refine U.x rfl rfl rfl rfl ((L 3 rfl rfl).trans (cB g144)) (by decide) ?_
    refine U.p rfl rfl (.inl rfl) (S.pickF rfl ((L 4 rfl rfl).trans (cB g144)) K) ?_
    exact kk [(20, .bool false), (19, .tuple #[]), (18, .tuple #[]), (17, .tuple #[]), (16, .tuple #[])] _ ⟨.tuple #[], .tuple #[], .tuple #[], .tuple #[], rfl, (by rw [g144, Bool.false_and])⟩
theorem wk_flow_Live (V : Vw) (Rs : List At) (p0 : TFunc) (v1 : Value) (f2 : Fz RT_TIns V v1 p0.code) (ow : Ow V (Rs)) (r : List (List Bool)) (h : flow_Live p0 = some r) : ∃ v V', Cl Try.prog 0 30 #[.agg #[.string p0.name, .int .i64 p0.params, .int .i64 p0.regs, v1]] V.H v V'.H ∧ V.le V' ∧ (∃ (v3 : Value), v = v3 ∧ Ow V' (.os (RT.sl RT.bool) v3 r :: Rs)) := by
 refine Ct.of (Nat.zero_le _) Try.func30 rfl (nr rfl) ?_
 unfold flow_Live at h
 refine WP.usreg rfl ?_
 refine O.box ow rfl rfl (.inl rfl) rfl (L 0 rfl rfl) (by simp [topV]) rfl nd (fun b5 V6 le7 ow8 => ?_)
 refine U.p rfl rfl (.inl rfl) (S.assign rfl K) ?_
 refine U.done (nr rfl) ?_
 refine WP.usreg rfl ?_
 refine U.p (v := .pointer (some ⟨b5, 3, none⟩)) rfl rfl (.inl rfl) (S.fieldAddr rfl (L 1 rfl rfl) Try.underlying38 rfl ti36 rfl rfl) ?_
 refine U.k rfl rfl (.inl rfl) (S.load rfl (L 0 rfl rfl) Try.underlying36 rfl ((ow8.own (k := 0) rfl).cell rfl)) nd ?_
 refine U.p rfl rfl (.inl rfl) (f2.1.len rfl (L 0 rfl rfl) Try.underlying36) ?_
 obtain ⟨xs10, hx11, h12⟩ := bindS h
 refine O.makeS (RO.os RT.bool) ow8 rfl rfl (.inl rfl) rfl (L 0 rfl rfl) (L 0 rfl rfl) Try.underlying83 ti85 rfl rfl (nr rfl) ⟨Nat.zero_le _, .inl ⟨rfl, rfl, rfl⟩⟩ hx11 (fun _ => nd) (fun v13 hs14 V15 le16 ow17 => ?_)
 refine U.p rfl rfl (.inl rfl) (S.assign rfl (L 0 rfl rfl)) ?_
 refine U.done (nr rfl) ?_
 refine WP.usreg rfl ?_
 refine U.p (v := .pointer (some ⟨b5, 3, none⟩)) rfl rfl (.inl rfl) (S.fieldAddr rfl (L 6 rfl rfl) Try.underlying38 rfl ti36 rfl rfl) ?_
 refine U.k rfl rfl (.inl rfl) (S.load rfl (L 0 rfl rfl) Try.underlying36 rfl ((ow17.own (k := 1) rfl).cell rfl)) nd ?_
 refine U.p rfl rfl (.inl rfl) (f2.1.len rfl (L 0 rfl rfl) Try.underlying36) ?_
 obtain ⟨xs19, hx20, h21⟩ := bindS h12
 refine O.makeS (RO.os (RT.int .i64)) ow17 rfl rfl (.inl rfl) rfl (L 0 rfl rfl) (L 0 rfl rfl) Try.underlying84 ti23 rfl rfl (nr rfl) ⟨Nat.zero_le _, .inl ⟨rfl, rfl, rfl⟩⟩ hx20 (fun _ => nd) (fun v22 hs23 V24 le25 ow26 => ?_)
 refine U.p rfl rfl (.inl rfl) (S.assign rfl (L 0 rfl rfl)) ?_
 refine U.done (nr rfl) ?_
 refine WP.seq ?_
 refine WP.usreg rfl ?_
 refine U.p rfl rfl (.inl rfl) (S.move rfl (L 5 rfl rfl)) ?_
 refine U.p rfl rfl (.inl rfl) (ow26.sslen (k := 1) rfl rfl (L 0 rfl rfl) Try.underlying83) ?_
 refine U.p rfl rfl (.inl rfl) (S.move rfl K) ?_
 refine U.done (nr rfl) ?_
 refine WP.blk ?_
 have ow33 := ow26.pick 0 rfl
 have ow34 := ow33.pick 1 rfl
 have ow35 := ow34.pick 2 rfl
 unfold flow_Live_l1 at h21
 obtain ⟨n37, hn36⟩ := loopO_some.1 h21
 refine WP.loopI2 (fun n l V' => ∃ (hs28 : List Value) (xs29 : List (List Bool)) (hs30 : List Value) (xs31 : List (List Int)) (x32 : Int), l = [(1, .pointer (some ⟨b5, 0, none⟩)), (3, v13), (4, v22), (23, .int .i64 (xs10.length : Int)), (24, .int .i64 x32)] ∧ V24.le V' ∧ Ow V' (.pt b5 (.cells 0 [.string p0.name, .int .i64 p0.params, .int .i64 p0.regs, v1]) :: .oss (RO.os RT.bool) v13 hs28 xs29 :: .oss (RO.os (RT.int .i64)) v22 hs30 xs31 :: Rs) ∧ itO (fun s => flow_Live_l1b p0 xs10 s.1 s.2.1 s.2.2) n (xs29, xs31, x32) = some r) n37 _ ⟨hs14, xs10, hs23, xs19, 0, rfl, .refl _, ow35, hn36⟩ (allCons (L 14 rfl rfl) (allCons (L 8 rfl rfl) (allCons (L 3 rfl rfl) (allCons (L 1 rfl rfl) (allCons (L 0 rfl rfl) allNil))))) ?_
 rintro _ _ V38 ⟨hs28, xs29, hs30, xs31, x32, rfl, le39, ow40, h44⟩
 obtain ⟨m41, q42, rfl, h45, e43⟩ := itS h44
 replace h45 : flow_Live_l1b p0 xs10 xs29 xs31 x32 = some q42 := h45
 unfold flow_Live_l1b at h45
 refine WP.usreg rfl ?_
 refine U.p rfl rfl (.inl rfl) (S.lss rfl (L 4 rfl rfl) (L 3 rfl rfl)) ?_
 refine U.done (nr rfl) ?_
 refine WP.seq ?_
 refine WP.cond _ (L 0 rfl rfl) rfl (fun c46 => ?_) (fun c46 => ?_)
 ·have h47 := ifT c46 h45
  refine WP.skip ?_
  refine sqN ?_
  refine WP.seq ?_
  refine WP.blk ?_
  refine WP.usreg rfl ?_
  refine U.p rfl rfl (.inl rfl) (S.move rfl (L 5 rfl rfl)) ?_
  refine U.p rfl rfl (.inl rfl) (S.assign rfl (L 0 rfl rfl)) ?_
  refine U.done (nr rfl) ?_
  refine WP.usreg rfl ?_
  refine U.p rfl rfl (.inl rfl) (S.move rfl (L 4 rfl rfl)) ?_
  refine U.p rfl rfl (.inl rfl) (S.move rfl (L 1 rfl rfl)) ?_
  refine U.p (v := .pointer (some ⟨b5, 2, none⟩)) rfl rfl (.inl rfl) (S.fieldAddr rfl (L 5 rfl rfl) Try.underlying38 rfl ti3 rfl rfl) ?_
  refine U.k rfl rfl (.inl rfl) (S.load rfl (L 0 rfl rfl) Try.underlying3 rfl ((ow40.own (k := 0) rfl).cell rfl)) nd ?_
  refine U.p rfl rfl (.inl rfl) (S.maxI rfl (L 0 rfl rfl) K) ?_
  obtain ⟨xs48, hx49, h50⟩ := bindS h47
  refine O.make (R := RT.bool) ow40 rfl rfl (.inl rfl) rfl (L 0 rfl rfl) (L 0 rfl rfl) Try.underlying85 ti4 rfl rfl rfl (nr rfl) rfl hx49 (fun _ => nd) (fun v51 V52 le53 ow54 => ?_)
  obtain ⟨x56, hx57, h58⟩ := bindS h50
  obtain ⟨b59, o60, n61, c62, hv63⟩ := ow54.sspt (k := 2) rfl hx57
  refine U.p rfl rfl (.inl rfl) (S.index rfl ((L 5 rfl rfl).trans (ow54.sslen' (k := 2) rfl hv63)) (L 4 rfl rfl) Try.underlying83 ti85 (ix_ge hx57) (ix_lt hx57)) ?_
  obtain ⟨h64, hh65, ow66⟩ := ow54.ssopen (k := 2) rfl hx57
  have ow68 := ow66.drop 0 rfl
  refine O.storeH (k := 2) ow68 rfl hv63 rfl rfl (.inl rfl) rfl (L 0 rfl rfl) (L 1 rfl rfl) ti85 (ow68.osne (k := 0) rfl) (by rw [ow68.oscells (k := 0) rfl]) (ow68.osone (k := 0) rfl) (fun _ _ => nd) (fun V69 le70 ow71 => ?_)
  have hh72 := ow71.shset (k := 2) rfl
  refine U.done (nr rfl) ?_
  refine WP.ureg rfl ?_
  refine U.p rfl rfl (.inl rfl) (S.move rfl (L 12 rfl rfl)) ?_
  refine U.p rfl rfl (.inl rfl) (S.move rfl (L 8 rfl rfl)) ?_
  refine U.k rfl rfl (.inl rfl) (S.loadB rfl (L 12 rfl rfl) Try.underlying38 rfl ti38 (ow71.own (k := 1) rfl).get rfl) nd ?_
  refine U.p rfl rfl (.inl rfl) (S.move rfl (L 10 rfl rfl)) ?_
  have f73 := f2.up (((((le7.trans le16).trans le25).trans le39).trans le53).trans le70)
  obtain ⟨x74, hx75, h76⟩ := bindS h58
  refine O.call (V := V69) rfl rfl (.inl rfl) rfl en45 (aC (L 1 rfl rfl) (aC (L 0 rfl rfl) aN)) (wk_flow_Next V69 _ p0 x32 v1 f73 ow71 _ hx75) (fun _ _ _ _ => nd) (fun v77 V78 le79 hp80 => ?_)
  obtain ⟨_, rfl, ow81⟩ := hp80
  obtain ⟨x84, hx85, h86⟩ := bindS h76
  obtain ⟨b87, o88, n89, c90, hv91⟩ := ow81.sspt (k := 4) rfl hx85
  refine U.p rfl rfl (.inl rfl) (S.index rfl ((L 4 rfl rfl).trans (ow81.sslen' (k := 4) rfl hv91)) (L 3 rfl rfl) Try.underlying84 ti23 (ix_ge hx85) (ix_lt hx85)) ?_
  obtain ⟨h92, hh93, ow94⟩ := ow81.ssopen (k := 4) rfl hx85
  have ow96 := ow94.drop 0 rfl
  refine O.storeH (k := 4) ow96 rfl hv91 rfl rfl (.inl rfl) rfl (L 0 rfl rfl) (L 1 rfl rfl) ti23 (ow96.osne (k := 0) rfl) (by rw [ow96.oscells (k := 0) rfl]) (ow96.osone (k := 0) rfl) (fun _ _ => nd) (fun V97 le98 ow99 => ?_)
  have hh100 := ow99.shset (k := 4) rfl
  refine U.done (nr rfl) ?_
  refine blkN (sqN ?_)
  refine WP.ureg rfl ?_
  refine U.p rfl rfl (.inl rfl) (S.add rfl (L 20 rfl rfl) K) ?_
  refine U.p rfl rfl (.inl rfl) (S.move rfl (L 0 rfl rfl)) ?_
  refine U.done (nr rfl) ?_
  refine sqN ?_
  have ow101 := ow99.ssclose (k := 3) (j := 1) rfl rfl (by decide) hh72
  have ow102 := ow101.ssclose (k := 3) (j := 0) rfl rfl (by decide) hh100
  exact ⟨_, V97, rfl, ⟨m41, Nat.lt_succ_self _, hs28.set (Int.toNat x32) v51, xs29.set (Int.toNat x32) xs48, hs30.set (Int.toNat x32) v77, xs31.set (Int.toNat x32) x74, w64 (x32 + 1), rfl, ((((le39.trans le53).trans le70).trans le79).trans le98), ow102, backS h86 e43⟩, (allCons (L 18 rfl rfl) (allCons (L 19 rfl rfl) (allCons (L 20 rfl rfl) (allCons (L 21 rfl rfl) (allCons (L 0 rfl rfl) allNil)))))⟩
 ·have h103 := ifF c46 h45
  refine WP.exit ?_
  refine sqE (sqE (blkE (sqN ?_)))
  have h104 := exitS h103 e43
  refine WP.seq ?_
  refine WP.usreg rfl ?_
  refine U.p rfl rfl (.inl rfl) (S.assign rfl K) ?_
  refine U.done (nr rfl) ?_
  refine WP.blk ?_
  unfold flow_Live_l2 at h104
  obtain ⟨n108, hn107⟩ := loopO_some.1 h104
  refine WP.loopI2 (fun n l V' => ∃ (xs105 : List (List Bool)) (x106 : Bool), l = [(1, .pointer (some ⟨b5, 0, none⟩)), (3, v13), (4, v22), (6, .bool x106)] ∧ V38.le V' ∧ Ow V' (.pt b5 (.cells 0 [.string p0.name, .int .i64 p0.params, .int .i64 p0.regs, v1]) :: .oss (RO.os RT.bool) v13 hs28 xs105 :: .oss (RO.os (RT.int .i64)) v22 hs30 xs31 :: Rs) ∧ itO (fun s => flow_Live_l2b p0 xs31 s.1 s.2) n (xs105, x106) = some r) n108 _ ⟨xs29, true, rfl, .refl _, ow40, hn107⟩ (allCons (L 2 rfl rfl) (allCons (L 3 rfl rfl) (allCons (L 4 rfl rfl) (allCons (L 0 rfl rfl) allNil)))) ?_
  rintro _ _ V109 ⟨xs105, x106, rfl, le110, ow111, h115⟩
  obtain ⟨m112, q113, rfl, h116, e114⟩ := itS h115
  replace h116 : flow_Live_l2b p0 xs31 xs105 x106 = some q113 := h116
  unfold flow_Live_l2b at h116
  refine WP.seq ?_
  refine WP.usreg rfl ?_
  refine U.p rfl rfl (.inl rfl) (S.move rfl (L 3 rfl rfl)) ?_
  refine U.done (nr rfl) ?_
  refine WP.cond _ (L 0 rfl rfl) rfl (fun c117 => ?_) (fun c117 => ?_)
  ·have h118 := ifT c117 h116
   refine WP.skip ?_
   refine sqN ?_
   refine WP.blk ?_
   refine WP.usreg rfl ?_
   refine U.p rfl rfl (.inl rfl) (S.assign rfl K) ?_
   refine U.done (nr rfl) ?_
   refine WP.usreg rfl ?_
   refine U.p (v := .pointer (some ⟨b5, 3, none⟩)) rfl rfl (.inl rfl) (S.fieldAddr rfl (L 2 rfl rfl) Try.underlying38 rfl ti36 rfl rfl) ?_
   refine U.k rfl rfl (.inl rfl) (S.load rfl (L 0 rfl rfl) Try.underlying36 rfl ((ow111.own (k := 0) rfl).cell rfl)) nd ?_
   refine U.p rfl rfl (.inl rfl) (f2.1.len rfl (L 0 rfl rfl) Try.underlying36) ?_
   refine U.p rfl rfl (.inl rfl) (S.sub rfl (L 0 rfl rfl) K) ?_
   refine U.p rfl rfl (.inl rfl) (S.assign rfl (L 0 rfl rfl)) ?_
   refine U.done (nr rfl) ?_
   refine WP.blk ?_
   unfold flow_Live_l3 at h118
   obtain ⟨n123, hn122⟩ := loopO_some.1 h118
   refine WP.loopI2 (fun n l V' => ∃ (xs119 : List (List Bool)) (x120 : Bool) (x121 : Int), l = [(1, .pointer (some ⟨b5, 0, none⟩)), (3, v13), (4, v22), (6, .bool x120), (7, .int .i64 x121)] ∧ V109.le V' ∧ Ow V' (.pt b5 (.cells 0 [.string p0.name, .int .i64 p0.params, .int .i64 p0.regs, v1]) :: .oss (RO.os RT.bool) v13 hs28 xs119 :: .oss (RO.os (RT.int .i64)) v22 hs30 xs31 :: Rs) ∧ itO (fun s => flow_Live_l3b p0 xs31 s.1 s.2.1 s.2.2) n (xs119, x120, x121) = some q113) n123 _ ⟨xs105, false, w64 ((p0.code.length : Int) - 1), rfl, .refl _, ow111, hn122⟩ (allCons (L 7 rfl rfl) (allCons (L 8 rfl rfl) (allCons (L 9 rfl rfl) (allCons (L 5 rfl rfl) (allCons (L 0 rfl rfl) allNil))))) ?_
   rintro _ _ V124 ⟨xs119, x120, x121, rfl, le125, ow126, h130⟩
   obtain ⟨m127, q128, rfl, h131, e129⟩ := itS h130
   replace h131 : flow_Live_l3b p0 xs31 xs119 x120 x121 = some q128 := h131
   unfold flow_Live_l3b at h131
   refine WP.seq ?_
   refine WP.usreg rfl ?_
   refine U.p rfl rfl (.inl rfl) (S.move rfl (L 4 rfl rfl)) ?_
   refine U.p rfl rfl (.inl rfl) (S.geq rfl (L 0 rfl rfl) K) ?_
   refine U.done (nr rfl) ?_
   refine WP.cond _ (L 0 rfl rfl) rfl (fun c132 => ?_) (fun c132 => ?_)
   ·have h133 := ifT c132 h131
    refine WP.skip ?_
    refine sqN ?_
    refine WP.seqI (fun l V' => ∃ (xs134 : List (List Bool)) (x135 : Bool), l = [(1, .pointer (some ⟨b5, 0, none⟩)), (3, v13), (4, v22), (6, .bool x135), (7, .int .i64 x121)] ∧ V124.le V' ∧ Ow V' (.pt b5 (.cells 0 [.string p0.name, .int .i64 p0.params, .int .i64 p0.regs, v1]) :: .oss (RO.os RT.bool) v13 hs28 xs134 :: .oss (RO.os (RT.int .i64)) v22 hs30 xs31 :: Rs) ∧ flow_Live_k1 x121 xs134 x135 = some q128) ?_ ?_
    ·rintro _ V136 ⟨xs134, x135, rfl, le137, ow138, h139⟩
     unfold flow_Live_k1 at h139
     refine WP.ureg rfl ?_
     refine U.p rfl rfl (.inl rfl) (S.move rfl (L 4 rfl rfl)) ?_
     refine U.p rfl rfl (.inl rfl) (S.sub rfl (L 0 rfl rfl) K) ?_
     refine U.p rfl rfl (.inl rfl) (S.assign rfl (L 0 rfl rfl)) ?_
     refine U.done (nr rfl) ?_
     refine sqN ?_
     exact ⟨_, V136, rfl, ⟨m127, Nat.lt_succ_self _, xs134, x135, w64 (x121 - 1), rfl, (le125.trans le137), ow138, backS h139 e129⟩, (allCons (L 3 rfl rfl) (allCons (L 4 rfl rfl) (allCons (L 5 rfl rfl) (allCons (L 6 rfl rfl) (allCons (L 0 rfl rfl) allNil)))))⟩
    ·skip
     refine WP.blk ?_
     refine WP.usreg rfl ?_
     refine U.p (v := .pointer (some ⟨b5, 2, none⟩)) rfl rfl (.inl rfl) (S.fieldAddr rfl (L 2 rfl rfl) Try.underlying38 rfl ti3 rfl rfl) ?_
     refine U.k rfl rfl (.inl rfl) (S.load rfl (L 0 rfl rfl) Try.underlying3 rfl ((ow126.own (k := 0) rfl).cell rfl)) nd ?_
     refine U.p rfl rfl (.inl rfl) (S.maxI rfl (L 0 rfl rfl) K) ?_
     obtain ⟨xs140, hx141, h142⟩ := bindS h133
     refine O.make (R := RT.bool) ow126 rfl rfl (.inl rfl) rfl (L 0 rfl rfl) (L 0 rfl rfl) Try.underlying85 ti4 rfl rfl rfl (nr rfl) rfl hx141 (fun _ => nd) (fun v143 V144 le145 ow146 => ?_)
     refine U.p rfl rfl (.inl rfl) (S.assign rfl (L 0 rfl rfl)) ?_
     refine U.done (nr rfl) ?_
     refine WP.seq ?_
     refine WP.usreg rfl ?_
     refine U.p rfl rfl (.inl rfl) (S.move rfl (L 9 rfl rfl)) ?_
     refine U.p rfl rfl (.inl rfl) (S.move rfl (L 12 rfl rfl)) ?_
     obtain ⟨x148, hx149, h150⟩ := bindS h142
     obtain ⟨b151, o152, n153, c154, hv155⟩ := ow146.sspt (k := 3) rfl hx149
     refine U.p rfl rfl (.inl rfl) (S.index rfl ((L 1 rfl rfl).trans (ow146.sslen' (k := 3) rfl hv155)) (L 0 rfl rfl) Try.underlying84 ti23 (ix_ge hx149) (ix_lt hx149)) ?_
     obtain ⟨h156, hh157, ow158⟩ := ow146.ssopen (k := 3) rfl hx149
     have hcl160 := ow158.shcell (k := 4) rfl hv155 hh157
     refine U.k rfl rfl (.inl rfl) (S.load rfl (L 0 rfl rfl) Try.underlying23 rfl hcl160.2) nd ?_
     refine U.p rfl rfl (.inl rfl) (ow158.oslen (k := 0) rfl rfl (L 0 rfl rfl) Try.underlying23) ?_
     refine U.p rfl rfl (.inl rfl) (S.move rfl K) ?_
     refine U.done (nr rfl) ?_
     refine WP.blk ?_
     have ow161 := ow158.ssclose' (k := 4) (j := 0) rfl rfl (by decide) hh157 hx149
     have ow164 := ow161.pick 0 rfl
     have ow165 := ow164.pick 3 rfl
     have ow166 := ow165.pick 3 rfl
     have ow167 := ow166.pick 3 rfl
     unfold flow_Live_l4 at h150
     obtain ⟨n169, hn168⟩ := loopO_some.1 h150
     refine WP.loopI2 (fun n l V' => ∃ (xs162 : List Bool) (x163 : Int), l = [(1, .pointer (some ⟨b5, 0, none⟩)), (3, v13), (4, v22), (6, .bool x120), (7, .int .i64 x121), (8, v143), (57, h156), (58, .int .i64 (x148.length : Int)), (59, .int .i64 x163)] ∧ V144.le V' ∧ Ow V' (.pt b5 (.cells 0 [.string p0.name, .int .i64 p0.params, .int .i64 p0.regs, v1]) :: .oss (RO.os RT.bool) v13 hs28 xs119 :: .oss (RO.os (RT.int .i64)) v22 hs30 xs31 :: .os RT.bool v143 xs162 :: Rs) ∧ itO (fun s => flow_Live_l4b p0 xs31 xs119 x120 x121 x148 s.1 s.2) n (xs162, x163) = some q128) n169 _ ⟨xs140, 0, rfl, .refl _, ow167, hn168⟩ (allCons (L 13 rfl rfl) (allCons (L 14 rfl rfl) (allCons (L 15 rfl rfl) (allCons (L 16 rfl rfl) (allCons (L 17 rfl rfl) (allCons (L 6 rfl rfl) (allCons (L 2 rfl rfl) (allCons (L 1 rfl rfl) (allCons (L 0 rfl rfl) allNil))))))))) ?_
     rintro _ _ V170 ⟨xs162, x163, rfl, le171, ow172, h176⟩
     obtain ⟨m173, q174, rfl, h177, e175⟩ := itS h176
     replace h177 : flow_Live_l4b p0 xs31 xs119 x120 x121 x148 xs162 x163 = some q174 := h177
     unfold flow_Live_l4b at h177
     refine WP.usreg rfl ?_
     refine U.p rfl rfl (.inl rfl) (S.lss rfl (L 8 rfl rfl) (L 7 rfl rfl)) ?_
     refine U.done (nr rfl) ?_
     refine WP.seq ?_
     refine WP.cond _ (L 0 rfl rfl) rfl (fun c178 => ?_) (fun c178 => ?_)
     ·have h179 := ifT c178 h177
      refine WP.skip ?_
      refine sqN ?_
      refine WP.seq ?_
      refine WP.blk ?_
      refine WP.usreg rfl ?_
      obtain ⟨x180, hx181, h182⟩ := bindS h179
      obtain ⟨h183, hh184, ow185⟩ := ow172.ssopen (k := 2) rfl hx181
      obtain rfl : h183 = h156 := Option.some.inj (hh184.symm.trans hh157)
      obtain ⟨x187, hx188, h189⟩ := bindS h182
      obtain ⟨b190, o191, n192, c193, hv194⟩ := ow185.ospt (k := 0) rfl hx188
      obtain ⟨_, hv195, _⟩ := ow185.osel (k := 0) rfl hv194 hx188
      refine U.p rfl rfl (.inl rfl) (S.index rfl ((L 7 rfl rfl).trans hv195) (L 9 rfl rfl) Try.underlying23 ti3 (ix_ge hx188) (ix_lt hx188)) ?_
      obtain ⟨cs196, hv197, hlt198, hr199, hc200⟩ := ow185.osel (k := 0) rfl hv194 hx188
      obtain rfl : cs196 = [.int .i64 x187] := hr199
      refine U.k rfl rfl (.inl rfl) (S.load rfl (L 0 rfl rfl) Try.underlying3 rfl (hc200 0 _ rfl)) nd ?_
      refine U.p rfl rfl (.inl rfl) (S.assign rfl (L 0 rfl rfl)) ?_
      refine U.done (nr rfl) ?_
      refine WP.ureg rfl ?_
      refine U.p rfl rfl (.inl rfl) (S.move rfl (L 9 rfl rfl)) ?_
      refine U.p rfl rfl (.inl rfl) (S.move rfl (L 6 rfl rfl)) ?_
      refine U.p rfl rfl (.inl rfl) (S.move rfl (L 2 rfl rfl)) ?_
      obtain ⟨x201, hx202, h203⟩ := bindS h189
      obtain ⟨b204, o205, n206, c207, hv208⟩ := ow185.sspt (k := 2) rfl hx202
      refine U.p rfl rfl (.inl rfl) (S.index rfl ((L 1 rfl rfl).trans (ow185.sslen' (k := 2) rfl hv208)) (L 0 rfl rfl) Try.underlying83 ti85 (ix_ge hx202) (ix_lt hx202)) ?_
      obtain ⟨h209, hh210, ow211⟩ := ow185.ssopen (k := 2) rfl hx202
      have hcl213 := ow211.shcell (k := 3) rfl hv208 hh210
      refine U.k rfl rfl (.inl rfl) (S.load rfl (L 0 rfl rfl) Try.underlying85 rfl hcl213.2) nd ?_
      have ow214 := ow211.pick 5 rfl
      obtain ⟨x215, hx216, h217⟩ := bindS h203
      refine O.call (V := V170) rfl rfl (.inl rfl) rfl en46 (aC (L 4 rfl rfl) (aC (L 0 rfl rfl) aN)) (wk_flow_set_merge V170 _ xs162 x201 v143 h209 ow214 _ hx216) (fun _ _ _ _ => nd) (fun v218 V219 le220 hp221 => ?_)
      obtain ⟨rfl, ow222⟩ := hp221
      refine U.done (nr rfl) ?_
      refine blkN (sqN ?_)
      refine WP.ureg rfl ?_
      refine U.p rfl rfl (.inl rfl) (S.add rfl (L 18 rfl rfl) K) ?_
      refine U.p rfl rfl (.inl rfl) (S.move rfl (L 0 rfl rfl)) ?_
      refine U.done (nr rfl) ?_
      refine sqN ?_
      have ow223 := ow222.ssclose' (k := 4) (j := 1) rfl rfl (by decide) hh210 hx202
      have ow224 := ow223.ssclose' (k := 4) (j := 1) rfl rfl (by decide) hh157 hx181
      have ow225 := ow224.pick 0 rfl
      have ow226 := ow225.pick 3 rfl
      have ow227 := ow226.pick 3 rfl
      have ow228 := ow227.pick 3 rfl
      exact ⟨_, V219, rfl, ⟨m173, Nat.lt_succ_self _, x215.2, w64 (x163 + 1), rfl, (le171.trans le220), ow228, backS h217 e175⟩, (allCons (L 12 rfl rfl) (allCons (L 13 rfl rfl) (allCons (L 14 rfl rfl) (allCons (L 15 rfl rfl) (allCons (L 16 rfl rfl) (allCons (L 17 rfl rfl) (allCons (L 18 rfl rfl) (allCons (L 19 rfl rfl) (allCons (L 0 rfl rfl) allNil)))))))))⟩
     ·have h229 := ifF c178 h177
      refine WP.exit ?_
      refine sqE (sqE (blkE (sqN ?_)))
      have h230 := exitS h229 e175
      refine WP.usdreg rfl rfl rfl ?_
      refine U.p rfl rfl (.inl rfl) (S.move rfl (L 2 rfl rfl)) ?_
      refine U.p rfl rfl (.inl rfl) (S.move rfl (L 6 rfl rfl)) ?_
      obtain ⟨x231, hx232, h233⟩ := bindS h230
      obtain ⟨b234, o235, n236, c237, hv238⟩ := ow172.sspt (k := 1) rfl hx232
      refine U.p rfl rfl (.inl rfl) (S.index rfl ((L 1 rfl rfl).trans (ow172.sslen' (k := 1) rfl hv238)) (L 0 rfl rfl) Try.underlying83 ti85 (ix_ge hx232) (ix_lt hx232)) ?_
      obtain ⟨h239, hh240, ow241⟩ := ow172.ssopen (k := 1) rfl hx232
      have hcl243 := ow241.shcell (k := 2) rfl hv238 hh240
      refine U.k rfl rfl (.inl rfl) (S.load rfl (L 0 rfl rfl) Try.underlying85 rfl hcl243.2) (fun _ => (okH.nil (fun r h => by cases h; exact hcl243.1))) ?_
      refine U.p (v := .pointer (some ⟨b5, 3, none⟩)) rfl rfl (.inl rfl) (S.fieldAddr rfl (L 5 rfl rfl) Try.underlying38 rfl ti36 rfl rfl) ?_
      refine U.k rfl rfl (.inl rfl) (S.load rfl (L 0 rfl rfl) Try.underlying36 rfl ((ow241.own (k := 1) rfl).cell rfl)) (fun _ => (okH.cons trivial (okH.nil (fun r h => by cases h; exact (ow241.own (k := 1) rfl).lt)))) ?_
      refine U.p rfl rfl (.inl rfl) (S.move rfl (L 11 rfl rfl)) ?_
      obtain ⟨x244, hx245, h246⟩ := bindS h233
      obtain ⟨b247, o248, c249, cs250, hv251, hf252, hr253, hc254⟩ := f2.at hx245
      obtain ⟨v255, rfl, f256⟩ := hr253
      refine U.p rfl rfl (.inl rfl) (S.index rfl ((L 1 rfl rfl).trans hv251) (L 0 rfl rfl) Try.underlying36 ti44 (ix_ge hx245) (ix_lt hx245)) ?_
      refine U.k rfl rfl (.inl rfl) (S.loadN (cs := [.int .i64 x244.op, .int .i64 x244.d, .int .i64 x244.a, .int .i64 x244.b, .int .i64 x244.imm, v255, .int .i64 x244.what, .bool x244.volatile, .bool x244.final]) rfl (L 0 rfl rfl) Try.underlying44 rfl ti44 rfl (fun j v hj => (((((((le7.trans le16).trans le25).trans le39).trans le110).trans le125).trans le145).trans le171).cell hf252 (hc254 j v hj))) (fun _ => (okH.cons trivial (okH.cons trivial (okH.nil (fun r h => by cases h; exact (V170.wf _ ((((((((le7.trans le16).trans le25).trans le39).trans le110).trans le125).trans le145).trans le171).sub _ hf252))))))) ?_
      refine U.p rfl rfl (.inl rfl) (S.move rfl (L 15 rfl rfl)) ?_
      have f257 := f256.up (((((((le7.trans le16).trans le25).trans le39).trans le110).trans le125).trans le145).trans le171)
      have ow258 := ow241.pick 4 rfl
      obtain ⟨x259, hx260, h261⟩ := bindS h246
      obtain ⟨q267, ow268⟩ := ow258.toEx 3 rfl
      refine O.call (V := V170) rfl rfl (.inl rfl) rfl en47 (aC (L 1 rfl rfl) (aC (L 0 rfl rfl) aN)) (wk_flow_step V170 _ x244 xs162 v255 v143 f257 ow268 _ hx260) (fun v262 V263 le264 hp265 => by obtain ⟨_, rfl, ow266⟩ := hp265; exact (fun _ => (okH.cons (Or.inl rfl) (okH.cons (Or.inl rfl) (okH.cons (Or.inr (ow268.exsame (k := 3) (j := 4) rfl ow266 rfl (fun h => exb_sh hv238 h))) (okH.nil (fun r h => nomatch h))))))) (fun v262 V263 le264 hp265 => ?_)
      obtain ⟨_, rfl, ow266⟩ := hp265
      have ow271 := ow266.unEx 4 rfl
      have ow272 := ow271.pick 2 rfl
      obtain ⟨x273, hx274, h275⟩ := bindS h261
      refine O.call (V := V263) rfl rfl (.inl rfl) rfl en46 (aC (L 7 rfl rfl) (aC (L 0 rfl rfl) aN)) (wk_flow_set_merge V263 _ x231 x259 h239 v262 ow272 _ hx274) (fun v276 V277 le278 hp279 => by obtain ⟨rfl, ow280⟩ := hp279; exact (fun _ => (okH.cons rfl (okH.cons (Or.inl rfl) (okH.cons (Or.inl rfl) (okH.cons (Or.inl rfl) (okH.nil (fun r h => nomatch h)))))))) (fun v276 V277 le278 hp279 => ?_)
      obtain ⟨rfl, ow280⟩ := hp279
      refine U.done (nr rfl) ?_
      refine WP.cond _ (L 0 rfl rfl) rfl (fun c281 => ?_) (fun c281 => ?_)
      ·have h282 := ifT c281 h275
       refine WP.ureg rfl ?_
       refine U.p rfl rfl (.inl rfl) (S.assign rfl K) ?_
       refine U.done (nr rfl) ?_
       refine blkN (sqN ?_)
       have ow283 := ow280.ssclose (k := 4) (j := 0) rfl rfl (by decide) hh240
       have ow284 := ow283.drop 0 rfl
       have ow285 := ow284.drop 0 rfl
       exact ⟨_, V277, rfl, ⟨xs119.set (Int.toNat x121) x273.2, true, rfl, (((le145.trans le171).trans le264).trans le278), ow285, h282⟩, (allCons (L 14 rfl rfl) (allCons (L 15 rfl rfl) (allCons (L 16 rfl rfl) (allCons (L 0 rfl rfl) (allCons (L 18 rfl rfl) allNil)))))⟩
      ·have h286 := ifF c281 h275
       refine WP.skip ?_
       refine blkN (sqN ?_)
       have ow287 := ow280.ssclose (k := 4) (j := 0) rfl rfl (by decide) hh240
       have ow288 := ow287.drop 0 rfl
       have ow289 := ow288.drop 0 rfl
       exact ⟨_, V277, rfl, ⟨xs119.set (Int.toNat x121) x273.2, x120, rfl, (((le145.trans le171).trans le264).trans le278), ow289, h286⟩, (allCons (L 13 rfl rfl) (allCons (L 14 rfl rfl) (allCons (L 15 rfl rfl) (allCons (L 16 rfl rfl) (allCons (L 17 rfl rfl) allNil)))))⟩
   ·have h290 := ifF c132 h131
    refine WP.exit ?_
    refine sqE (sqE (blkE (blkN (sqN ?_))))
    have h291 := exitS h290 e129
    exact ⟨_, V124, rfl, ⟨m112, Nat.lt_succ_self _, xs119, x120, rfl, (le110.trans le125), ow126, backS h291 e114⟩, (allCons (L 2 rfl rfl) (allCons (L 3 rfl rfl) (allCons (L 4 rfl rfl) (allCons (L 5 rfl rfl) allNil))))⟩
  ·have h292 := ifF c117 h116
   refine WP.exit ?_
   refine sqE (sqE (blkE (sqN ?_)))
   have h293 := exitS h292 e114
   refine WP.usreg rfl ?_
   refine U.p rfl rfl (.inl rfl) (S.assign rfl K) ?_
   refine U.done (nr rfl) ?_
   refine WP.seq ?_
   refine WP.usreg rfl ?_
   refine U.p rfl rfl (.inl rfl) (S.move rfl (L 3 rfl rfl)) ?_
   refine U.p rfl rfl (.inl rfl) (ow111.sslen (k := 1) rfl rfl (L 0 rfl rfl) Try.underlying83) ?_
   refine U.p rfl rfl (.inl rfl) (S.move rfl K) ?_
   refine U.done (nr rfl) ?_
   refine WP.blk ?_
   have ow301 := ow111.nil (RT.sl RT.bool)
   obtain ⟨V303, eV307, le304, f305, ow306, fi308⟩ := ow301.ssfz (k := 2) rfl
   rw [← eV307]
   have ow309 := ow306.drop 1 rfl
   have ow310 := ow309.drop 1 rfl
   unfold flow_Live_l5 at h293
   obtain ⟨n312, hn311⟩ := loopO_some.1 h293
   refine WP.loopI2 (fun n l V' => ∃ (v295 : Value) (xs296 : List (List Bool)) (xs297 : List (List Bool)) (v298 : Value) (x300 : Int), l = [(11, v295), (82, v298), (83, .int .i64 (xs105.length : Int)), (84, .int .i64 x300)] ∧ V303.le V' ∧ Fz (RT.sl RT.bool) V' v298 xs297 ∧ Ow V' (.os (RT.sl RT.bool) v295 xs296 :: Rs) ∧ itO (fun s => flow_Live_l5b xs105 s.1 s.2.1 s.2.2) n (xs296, xs297, x300) = some r) n312 _ ⟨(.slice none 0 0), [], xs105, v13, 0, rfl, .refl _, f305, ow310, hn311⟩ (allCons (L 3 rfl rfl) (allCons (L 2 rfl rfl) (allCons (L 1 rfl rfl) (allCons (L 0 rfl rfl) allNil)))) ?_
   rintro _ _ V313 ⟨v295, xs296, xs297, v298, x300, rfl, le314, f299, ow315, h319⟩
   obtain ⟨m316, q317, rfl, h320, e318⟩ := itS h319
   replace h320 : flow_Live_l5b xs105 xs296 xs297 x300 = some q317 := h320
   unfold flow_Live_l5b at h320
   refine WP.usreg rfl ?_
   refine U.p rfl rfl (.inl rfl) (S.lss rfl (L 3 rfl rfl) (L 2 rfl rfl)) ?_
   refine U.done (nr rfl) ?_
   refine WP.seq ?_
   refine WP.cond _ (L 0 rfl rfl) rfl (fun c321 => ?_) (fun c321 => ?_)
   ·have h322 := ifT c321 h320
    refine WP.skip ?_
    refine sqN ?_
    refine WP.seq ?_
    refine WP.blk ?_
    refine WP.usreg rfl ?_
    obtain ⟨x323, hx324, h325⟩ := bindS h322
    obtain ⟨b326, o327, c328, cs329, hv330, hf331, hr332, hc333⟩ := f299.at hx324
    obtain ⟨v334, rfl, f335⟩ := hr332
    refine U.p rfl rfl (.inl rfl) (S.index rfl ((L 2 rfl rfl).trans hv330) (L 4 rfl rfl) Try.underlying83 ti85 (ix_ge hx324) (ix_lt hx324)) ?_
    refine U.k rfl rfl (.inl rfl) (S.load rfl (L 0 rfl rfl) Try.underlying85 rfl (hc333 0 _ rfl)) nd ?_
    refine U.p rfl rfl (.inl rfl) (S.assign rfl (L 0 rfl rfl)) ?_
    refine U.done (nr rfl) ?_
    refine WP.ureg rfl ?_
    refine U.p rfl rfl (.inl rfl) (S.move rfl (L 4 rfl rfl)) ?_
    refine U.p rfl rfl (.inl rfl) (S.move rfl (L 1 rfl rfl)) ?_
    refine O.lit (R := (RT.sl RT.bool)) ow315 rfl rfl (.inl rfl) rfl Try.underlying66 ti68 rfl rfl rfl (nr rfl) rfl (aC (L 0 rfl rfl) aN) (.cons _ _ x323 _ f335.ne ⟨_, (by rw [f335.cells]), f335⟩ .nil) (fun _ => nd) (fun v336 V337 le338 ow339 => ?_)
    obtain ⟨xs341, hx342, h343⟩ := bindS h325
    refine O.append (k := 1) ow339 rfl rfl rfl (.inl rfl) rfl (L 2 rfl rfl) (L 0 rfl rfl) Try.underlying66 ti68 rfl rfl (nr rfl) (ow339.src (k := 0) rfl Try.underlying66) hx342 (fun _ _ => nd) (fun v344 V345 le346 ow347 => ?_)
    refine U.p rfl rfl (.inl rfl) (S.assign rfl (L 0 rfl rfl)) ?_
    refine U.done (nr rfl) ?_
    refine blkN (sqN ?_)
    refine WP.ureg rfl ?_
    refine U.p rfl rfl (.inl rfl) (S.add rfl (L 12 rfl rfl) K) ?_
    refine U.p rfl rfl (.inl rfl) (S.move rfl (L 0 rfl rfl)) ?_
    refine U.done (nr rfl) ?_
    refine sqN ?_
    have ow349 := ow347.drop 0 rfl
    have f350 := f299.up (le338.trans le346)
    exact ⟨_, V345, rfl, ⟨m316, Nat.lt_succ_self _, v344, xs341, xs297, v298, w64 (x300 + 1), rfl, ((le314.trans le338).trans le346), f350, ow349, backS h343 e318⟩, (allCons (L 2 rfl rfl) (allCons (L 12 rfl rfl) (allCons (L 13 rfl rfl) (allCons (L 0 rfl rfl) allNil))))⟩
   ·have h351 := ifF c321 h320
    refine WP.exit ?_
    refine sqE (sqE (blkE (sqN ?_)))
    have h352 := exitS h351 e318
    refine WP.usreg rfl ?_
    refine U.p rfl rfl (.inl rfl) (S.move rfl (L 1 rfl rfl)) ?_
    refine U.p rfl rfl (.inl rfl) (S.assign rfl (L 0 rfl rfl)) ?_
    refine U.done (nr rfl) ?_
    refine WP.ret ?_
    refine fin.slot (.inr rfl) rfl (L 0 rfl rfl) ⟨V313, rfl, ((((((le7.trans le16).trans le25).trans le39).trans le110).trans le304).trans le314), ?_⟩
    have e353 := Option.some.inj h352
    subst e353
    exact ⟨v295, rfl, ow315⟩
theorem wk_flow_Reached (V : Vw) (Rs : List At) (p0 : TFunc) (v1 : Value) (f2 : Fz RT_TIns V v1 p0.code) (ow : Ow V (Rs)) (r : List Bool) (h : flow_Reached p0 = some r) : ∃ v V', Cl Try.prog 0 31 #[.agg #[.string p0.name, .int .i64 p0.params, .int .i64 p0.regs, v1]] V.H v V'.H ∧ V.le V' ∧ (∃ (v3 : Value), v = v3 ∧ Ow V' (.os RT.bool v3 r :: Rs)) := by
 refine Ct.of (Nat.zero_le _) Try.func31 rfl (nr rfl) ?_
 unfold flow_Reached at h
 refine WP.usreg rfl ?_
 refine O.box ow rfl rfl (.inl rfl) rfl (L 0 rfl rfl) (by simp [topV]) rfl nd (fun b5 V6 le7 ow8 => ?_)
 refine U.p rfl rfl (.inl rfl) (S.assign rfl K) ?_
 refine U.done (nr rfl) ?_
 refine WP.usreg rfl ?_
 refine U.p (v := .pointer (some ⟨b5, 3, none⟩)) rfl rfl (.inl rfl) (S.fieldAddr rfl (L 1 rfl rfl) Try.underlying38 rfl ti36 rfl rfl) ?_
 refine U.k rfl rfl (.inl rfl) (S.load rfl (L 0 rfl rfl) Try.underlying36 rfl ((ow8.own (k := 0) rfl).cell rfl)) nd ?_
 refine U.p rfl rfl (.inl rfl) (f2.1.len rfl (L 0 rfl rfl) Try.underlying36) ?_
 obtain ⟨xs10, hx11, h12⟩ := bindS h
 refine O.make (R := RT.bool) ow8 rfl rfl (.inl rfl) rfl (L 0 rfl rfl) (L 0 rfl rfl) Try.underlying68 ti4 rfl rfl rfl (nr rfl) rfl hx11 (fun _ => nd) (fun v13 V14 le15 ow16 => ?_)
 refine U.p rfl rfl (.inl rfl) (S.assign rfl (L 0 rfl rfl)) ?_
 refine U.done (nr rfl) ?_
 refine WP.usreg rfl ?_
 refine O.lit (R := (RT.int .i64)) ow16 rfl rfl (.inl rfl) rfl Try.underlying23 ti3 rfl rfl rfl (nr rfl) rfl (aC K aN) (.cons _ _ 0 _ (by simp [topV]) rfl .nil) (fun _ => nd) (fun v18 V19 le20 ow21 => ?_)
 refine U.p rfl rfl (.inl rfl) (S.assign rfl (L 0 rfl rfl)) ?_
 refine U.done (nr rfl) ?_
 refine WP.seq ?_
 refine WP.blk ?_
 have ow27 := ow21.pick 0 rfl
 have ow28 := ow27.pick 1 rfl
 have ow29 := ow28.pick 2 rfl
 unfold flow_Reached_l1 at h12
 obtain ⟨n31, hn30⟩ := loopO_some.1 h12
 refine WP.loopI2 (fun n l V' => ∃ (xs23 : List Bool) (v25 : Value) (xs26 : List Int), l = [(1, .pointer (some ⟨b5, 0, none⟩)), (3, v13), (4, v25)] ∧ V19.le V' ∧ Ow V' (.pt b5 (.cells 0 [.string p0.name, .int .i64 p0.params, .int .i64 p0.regs, v1]) :: .os RT.bool v13 xs23 :: .os (RT.int .i64) v25 xs26 :: Rs) ∧ itO (fun s => flow_Reached_l1b p0 s.1 s.2) n (xs23, xs26) = some r) n31 _ ⟨xs10, v18, [0], rfl, .refl _, ow29, hn30⟩ (allCons (L 8 rfl rfl) (allCons (L 2 rfl rfl) (allCons (L 0 rfl rfl) allNil))) ?_
 rintro _ _ V32 ⟨xs23, v25, xs26, rfl, le33, ow34, h38⟩
 obtain ⟨m35, q36, rfl, h39, e37⟩ := itS h38
 replace h39 : flow_Reached_l1b p0 xs23 xs26 = some q36 := h39
 unfold flow_Reached_l1b at h39
 refine WP.seq ?_
 refine WP.usreg rfl ?_
 refine U.p rfl rfl (.inl rfl) (S.move rfl (L 2 rfl rfl)) ?_
 refine U.p rfl rfl (.inl rfl) (ow34.oslen (k := 2) rfl rfl (L 0 rfl rfl) Try.underlying23) ?_
 refine U.p rfl rfl (.inl rfl) (S.gtr rfl (L 0 rfl rfl) K) ?_
 refine U.done (nr rfl) ?_
 refine WP.cond _ (L 0 rfl rfl) rfl (fun c40 => ?_) (fun c40 => ?_)
 ·have h41 := ifT c40 h39
  refine WP.skip ?_
  refine sqN ?_
  refine WP.seqI (fun l V' => ∃ (xs42 : List Bool) (v44 : Value) (xs45 : List Int), l = [(1, .pointer (some ⟨b5, 0, none⟩)), (3, v13), (4, v44)] ∧ V32.le V' ∧ Ow V' (.pt b5 (.cells 0 [.string p0.name, .int .i64 p0.params, .int .i64 p0.regs, v1]) :: .os RT.bool v13 xs42 :: .os (RT.int .i64) v44 xs45 :: Rs) ∧ flow_Reached_k1 xs42 xs45 = some q36) ?_ ?_
  ·rintro _ V46 ⟨xs42, v44, xs45, rfl, le47, ow48, h49⟩
   unfold flow_Reached_k1 at h49
   refine WP.ureg rfl ?_
   refine U.p rfl rfl (.inl rfl) (S.move rfl (L 2 rfl rfl)) ?_
   obtain ⟨xs50, hx51, h52⟩ := bindS h49
   refine O.subO (k := 2) ow48 rfl hx51 rfl rfl (.inl rfl) rfl (L 0 rfl rfl) Try.underlying23 ti3 ⟨.inr ⟨_, _, rfl, K⟩, .inl ⟨rfl, rfl⟩, .inl rfl⟩ (fun v53 ow56 => ?_)
   refine U.p rfl rfl (.inl rfl) (S.assign rfl (L 0 rfl rfl)) ?_
   refine U.done (nr rfl) ?_
   refine sqN ?_
   exact ⟨_, V46, rfl, ⟨m35, Nat.lt_succ_self _, xs42, v53, xs50, rfl, (le33.trans le47), ow56, backS h52 e37⟩, (allCons (L 3 rfl rfl) (allCons (L 4 rfl rfl) (allCons (L 0 rfl rfl) allNil)))⟩
  ·skip
   refine WP.blk ?_
   refine WP.usreg rfl ?_
   refine U.p rfl rfl (.inl rfl) (S.move rfl (L 5 rfl rfl)) ?_
   obtain ⟨x58, hx59, h60⟩ := bindS h41
   obtain ⟨b61, o62, n63, c64, hv65⟩ := ow34.ospt (k := 2) rfl hx59
   obtain ⟨_, hv66, _⟩ := ow34.osel (k := 2) rfl hv65 hx59
   refine U.p rfl rfl (.inl rfl) (S.index rfl ((L 0 rfl rfl).trans hv66) K Try.underlying23 ti3 (ix_ge hx59) (ix_lt hx59)) ?_
   obtain ⟨cs67, hv68, hlt69, hr70, hc71⟩ := ow34.osel (k := 2) rfl hv65 hx59
   obtain rfl : cs67 = [.int .i64 x58] := hr70
   refine U.k rfl rfl (.inl rfl) (S.load rfl (L 0 rfl rfl) Try.underlying3 rfl (hc71 0 _ rfl)) nd ?_
   refine U.p rfl rfl (.inl rfl) (S.assign rfl (L 0 rfl rfl)) ?_
   refine U.done (nr rfl) ?_
   refine WP.usreg rfl ?_
   refine U.p rfl rfl (.inl rfl) (S.move rfl (L 0 rfl rfl)) ?_
   refine U.p rfl rfl (.inl rfl) (S.move rfl (L 9 rfl rfl)) ?_
   refine U.p rfl rfl (.inl rfl) (ow34.oslen (k := 1) rfl rfl (L 0 rfl rfl) Try.underlying68) ?_
   refine U.p rfl rfl (.inl rfl) (S.lss rfl (L 2 rfl rfl) (L 0 rfl rfl)) ?_
   refine U.p rfl rfl (.inl rfl) (S.move rfl (L 0 rfl rfl)) ?_
   obtain ⟨y72, hy73, h74⟩ := bindS h60
   refine U.joinX 11 (fun e H => ∃ (u75 u76 u77 u78 u79 : Value), H = V32.H ∧ e = [(29, .bool y72), (28, u75), (27, u76), (26, u77), (25, u78), (24, u79)]) ?_ ?_
   ·rintro _ _ ⟨u75, u76, u77, u78, u79, rfl, rfl⟩
    refine U.done (nr rfl) ?_
    refine WP.cond _ (L 0 rfl rfl) rfl (fun c83 => ?_) (fun c83 => ?_)
    ·have h84 := ifT c83 h74
     refine WP.usreg rfl ?_
     refine U.p rfl rfl (.inl rfl) (S.move rfl (L 19 rfl rfl)) ?_
     refine U.p rfl rfl (.inl rfl) (S.move rfl (L 12 rfl rfl)) ?_
     obtain ⟨x85, hx86, h87⟩ := bindS h84
     obtain ⟨b88, o89, n90, c91, hv92⟩ := ow34.ospt (k := 1) rfl hx86
     obtain ⟨_, hv93, _⟩ := ow34.osel (k := 1) rfl hv92 hx86
     refine U.p rfl rfl (.inl rfl) (S.index rfl ((L 1 rfl rfl).trans hv93) (L 0 rfl rfl) Try.underlying68 ti4 (ix_ge hx86) (ix_lt hx86)) ?_
     obtain ⟨cs94, hv95, hlt96, hr97, hc98⟩ := ow34.osel (k := 1) rfl hv92 hx86
     obtain rfl : cs94 = [.bool x85] := hr97
     refine O.storeE (k := 1) (R := RT.bool) (j := 0) (y := true) (cs := [.bool true]) ow34 rfl hv95 rfl rfl (.inl rfl) rfl (L 0 rfl rfl) K ti4 hx86 (by simp [topV]) rfl rfl rfl (full rfl) (fun _ _ => nd) (fun V99 le100 ow101 => ?_)
     refine U.done (nr rfl) ?_
     refine WP.ureg rfl ?_
     refine U.p rfl rfl (.inl rfl) (S.move rfl (L 23 rfl rfl)) ?_
     refine U.k rfl rfl (.inl rfl) (S.loadB rfl (L 22 rfl rfl) Try.underlying38 rfl ti38 (ow101.own (k := 0) rfl).get rfl) nd ?_
     refine U.p rfl rfl (.inl rfl) (S.move rfl (L 16 rfl rfl)) ?_
     have f102 := f2.up ((((le7.trans le15).trans le20).trans le33).trans le100)
     obtain ⟨x103, hx104, h105⟩ := bindS h87
     refine O.call (V := V99) rfl rfl (.inl rfl) rfl en45 (aC (L 1 rfl rfl) (aC (L 0 rfl rfl) aN)) (wk_flow_Next V99 _ p0 x58 v1 f102 ow101 _ hx104) (fun _ _ _ _ => nd) (fun v106 V107 le108 hp109 => ?_)
     obtain ⟨_, rfl, ow110⟩ := hp109
     obtain ⟨xs113, hx114, h115⟩ := bindS h105
     refine O.append (k := 3) ow110 rfl rfl rfl (.inl rfl) rfl (L 3 rfl rfl) (L 0 rfl rfl) Try.underlying23 ti3 rfl rfl (nr rfl) (ow110.src (k := 0) rfl Try.underlying23) hx114 (fun _ _ => nd) (fun v116 V117 le118 ow119 => ?_)
     refine U.p rfl rfl (.inl rfl) (S.assign rfl (L 0 rfl rfl)) ?_
     refine U.done (nr rfl) ?_
     refine blkN (sqN ?_)
     have ow121 := ow119.drop 0 rfl
     exact ⟨_, V117, rfl, ⟨xs23.set (Int.toNat x58) true, v116, xs113, rfl, ((le100.trans le108).trans le118), ow121, h115⟩, (allCons (L 27 rfl rfl) (allCons (L 28 rfl rfl) (allCons (L 0 rfl rfl) allNil)))⟩
    ·have h122 := ifF c83 h74
     refine WP.skip ?_
     refine blkN (sqN ?_)
     exact ⟨_, V32, rfl, ⟨xs23, v25, xs26, rfl, (.refl _), ow34, h122⟩, (allCons (L 18 rfl rfl) (allCons (L 19 rfl rfl) (allCons (L 20 rfl rfl) allNil)))⟩
   ·intro kk
    refine bcase (b := decide (x58 < (xs23.length : Int))) (fun g123 => ?_) (fun g123 => ?_)
    ·have h124 := ifT g123 hy73
     refine U.p rfl rfl (.inr ⟨_, _, _, rfl, rfl, ((L 0 rfl rfl).trans (cB g123))⟩) (S.move rfl (L 13 rfl rfl)) ?_
     refine U.p rfl rfl (.inr ⟨_, _, _, rfl, rfl, ((L 1 rfl rfl).trans (cB g123))⟩) (S.move rfl (L 6 rfl rfl)) ?_
     obtain ⟨x125, hx126, h127⟩ := bindS h124
     obtain ⟨b128, o129, n130, c131, hv132⟩ := ow34.ospt (k := 1) rfl hx126
     obtain ⟨_, hv133, _⟩ := ow34.osel (k := 1) rfl hv132 hx126
     refine U.p rfl rfl (.inr ⟨_, _, _, rfl, rfl, ((L 2 rfl rfl).trans (cB g123))⟩) (S.index rfl ((L 1 rfl rfl).trans hv133) (L 0 rfl rfl) Try.underlying68 ti4 (ix_ge hx126) (ix_lt hx126)) ?_
     obtain ⟨cs134, hv135, hlt136, hr137, hc138⟩ := ow34.osel (k := 1) rfl hv132 hx126
     obtain rfl : cs134 = [.bool x125] := hr137
     refine U.k rfl rfl (.inr ⟨_, _, _, rfl, rfl, ((L 3 rfl rfl).trans (cB g123))⟩) (S.load rfl (L 0 rfl rfl) Try.underlying4 rfl (hc138 0 _ rfl)) nd ?_
     refine U.p rfl rfl (.inr ⟨_, _, _, rfl, rfl, ((L 4 rfl rfl).trans (cB g123))⟩) (S.not rfl (L 0 rfl rfl)) ?_
     refine U.p rfl rfl (.inl rfl) (S.pickT rfl ((L 5 rfl rfl).trans (cB g123)) (L 0 rfl rfl)) ?_
     have e139 := Option.some.inj h127
     subst e139
     exact kk [(29, .bool (!x125)), (28, .bool (!x125)), (27, .bool x125), (26, .pointer (some ⟨b128, o129 + Int.toNat x58 * 1, none⟩)), (25, .int .i64 x58), (24, v13)] _ ⟨.bool (!x125), .bool x125, .pointer (some ⟨b128, o129 + Int.toNat x58 * 1, none⟩), .int .i64 x58, v13, rfl, rfl⟩
    ·have h140 := ifF g123 hy73
     refine U.x rfl rfl rfl rfl ((L 0 rfl rfl).trans (cB g123)) (by decide) ?_
     refine U.x rfl rfl rfl rfl ((L 1 rfl rfl).trans (cB g123)) (by decide) ?_
     refine U.x rfl rfl rfl rfl ((L 2 rfl rfl).trans (cB g123)) (by decide) ?_
     refine U.x rfl rfl rfl rfl ((L 3 rfl rfl).trans (cB g123)) (by decide) ?_
     refine U.x rfl rfl rfl rfl ((L 4 rfl rfl).trans (cB g123)) (by decide) ?_
     refine U.p rfl rfl (.inl rfl) (S.pickF rfl ((L 5 rfl rfl).trans (cB g123)) K) ?_
     have e141 := Option.some.inj h140
     subst e141
     exact kk [(29, .bool false), (28, .tuple #[]), (27, .tuple #[]), (26, .tuple #[]), (25, .tuple #[]), (24, .tuple #[])] _ ⟨.tuple #[], .tuple #[], .tuple #[], .tuple #[], .tuple #[], rfl, rfl⟩
 ·have h142 := ifF c40 h39
  refine WP.exit ?_
  refine sqE (sqE (blkE (sqN ?_)))
  have h143 := exitS h142 e37
  refine WP.usreg rfl ?_
  refine U.p rfl rfl (.inl rfl) (S.move rfl (L 4 rfl rfl)) ?_
  refine U.p rfl rfl (.inl rfl) (S.assign rfl (L 0 rfl rfl)) ?_
  refine U.done (nr rfl) ?_
  refine WP.ret ?_
  refine fin.slot (.inr rfl) rfl (L 0 rfl rfl) ⟨V32, rfl, (((le7.trans le15).trans le20).trans le33), ?_⟩
  have ow144 := ow34.drop 0 rfl
  have ow145 := ow144.drop 1 rfl
  have e146 := Option.some.inj h143
  subst e146
  exact ⟨v13, rfl, ow145⟩
theorem wk_ir_Pure (V : Vw) (Rs : List At) (p0 : TIns) (v1 : Value) (f2 : Fz (RT.int .i64) V v1 p0.args) (ow : Ow V (Rs)) (r : Bool) (h : ir_Pure p0 = some r) : ∃ v V', Cl Try.prog 0 48 #[.agg #[.int .i64 p0.op, .int .i64 p0.d, .int .i64 p0.a, .int .i64 p0.b, .int .i64 p0.imm, v1, .int .i64 p0.what, .bool p0.volatile, .bool p0.final]] V.H v V'.H ∧ V.le V' ∧ (v = .bool r ∧ Ow V' (Rs)) := by
 refine Ct.of (Nat.zero_le _) Try.func48 rfl (nr rfl) ?_
 unfold ir_Pure at h
 refine WP.usreg rfl ?_
 refine O.box ow rfl rfl (.inl rfl) rfl (L 0 rfl rfl) (by simp [topV]) rfl nd (fun b3 V4 le5 ow6 => ?_)
 refine U.p rfl rfl (.inl rfl) (S.assign rfl K) ?_
 refine U.done (nr rfl) ?_
 refine WP.usreg rfl ?_
 refine U.p (v := .pointer (some ⟨b3, 0, none⟩)) rfl rfl (.inl rfl) (S.fieldAddr rfl (L 1 rfl rfl) Try.underlying44 rfl ti3 rfl rfl) ?_
 refine U.k rfl rfl (.inl rfl) (S.load rfl (L 0 rfl rfl) Try.underlying3 rfl ((ow6.own (k := 0) rfl).cell rfl)) nd ?_
 refine U.p rfl rfl (.inl rfl) (S.geq rfl (L 0 rfl rfl) K) ?_
 refine U.p rfl rfl (.inl rfl) (S.move rfl (L 0 rfl rfl)) ?_
 refine U.joinX 8 (fun e H => ∃ (u8 u9 u10 : Value), H = V4.H ∧ e = [(10, .bool ((decide (1 ≤ p0.op)) && (decide (p0.op ≤ 8)))), (9, u8), (8, u9), (7, u10)]) ?_ ?_
 ·rintro _ _ ⟨u8, u9, u10, rfl, rfl⟩
  refine U.p rfl rfl (.inl rfl) (S.assign rfl (L 0 rfl rfl)) ?_
  refine U.done (nr rfl) ?_
  refine WP.ret ?_
  refine fin.slot (.inr rfl) rfl (L 0 rfl rfl) ⟨V4, rfl, le5, ?_⟩
  have ow14 := ow6.drop 0 rfl
  have e15 := Option.some.inj h
  subst e15
  exact ⟨rfl, ow14⟩
 ·intro kk
  refine bcase (b := decide (1 ≤ p0.op)) (fun g16 => ?_) (fun g16 => ?_)
  ·skip
   refine U.p (v := .pointer (some ⟨b3, 0, none⟩)) rfl rfl (.inr ⟨_, _, _, rfl, rfl, ((L 0 rfl rfl).trans (cB g16))⟩) (S.fieldAddr rfl (L 5 rfl rfl) Try.underlying44 rfl ti3 rfl rfl) ?_
   refine U.k rfl rfl (.inr ⟨_, _, _, rfl, rfl, ((L 1 rfl rfl).trans (cB g16))⟩) (S.load rfl (L 0 rfl rfl) Try.underlying3 rfl ((ow6.own (k := 0) rfl).cell rfl)) nd ?_
   refine U.p rfl rfl (.inr ⟨_, _, _, rfl, rfl, ((L 2 rfl rfl).trans (cB g16))⟩) (S.leq rfl (L 0 rfl rfl) K) ?_
   refine U.p rfl rfl (.inl rfl) (S.pickT rfl ((L 3 rfl rfl).trans (cB g16)) (L 0 rfl rfl)) ?_
   exact kk [(10, .bool (decide (p0.op ≤ 8))), (9, .bool (decide (p0.op ≤ 8))), (8, .int .i64 p0.op), (7, .pointer (some ⟨b3, 0, none⟩))] _ ⟨.bool (decide (p0.op ≤ 8)), .int .i64 p0.op, .pointer (some ⟨b3, 0, none⟩), rfl, (by rw [g16, Bool.true_and])⟩
  ·skip
   refine U.x rfl rfl rfl rfl ((L 0 rfl rfl).trans (cB g16)) (by decide) ?_
   refine U.x rfl rfl rfl rfl ((L 1 rfl rfl).trans (cB g16)) (by decide) ?_
   refine U.x rfl rfl rfl rfl ((L 2 rfl rfl).trans (cB g16)) (by decide) ?_
   refine U.p rfl rfl (.inl rfl) (S.pickF rfl ((L 3 rfl rfl).trans (cB g16)) K) ?_
   exact kk [(10, .bool false), (9, .tuple #[]), (8, .tuple #[]), (7, .tuple #[])] _ ⟨.tuple #[], .tuple #[], .tuple #[], rfl, (by rw [g16, Bool.false_and])⟩
theorem wk_tidy_idle_c1 (V : Vw) (Rs : List At) (p0 : Int) (p1 : List (List Bool)) (p2 : TIns) (b1 : Nat) (z2 : Nat) (v4 : Value) (b6 : Nat) (z7 : Nat) (v9 : Value) (f10 : Fz (RT.int .i64) V v9 p2.args) (ow : Ow V (.pt b1 (.cells z2 [v4]) :: .os (RT.sl RT.bool) v4 p1 :: .pt b6 (.cells z7 [.int .i64 p2.op, .int .i64 p2.d, .int .i64 p2.a, .int .i64 p2.b, .int .i64 p2.imm, v9, .int .i64 p2.what, .bool p2.volatile, .bool p2.final]) :: Rs)) (r : Bool) (h : tidy_idle_c1 p0 p1 p2 = some r) : ∃ v V', Cl Try.prog 0 50 #[.int .i64 p0, .pointer (some ⟨b1, 0, none⟩), .pointer (some ⟨b6, 0, none⟩)] V.H v V'.H ∧ V.le V' ∧ (v = .bool r ∧ Ow V' (.pt b1 (.cells z2 [v4]) :: .os (RT.sl RT.bool) v4 p1 :: .pt b6 (.cells z7 [.int .i64 p2.op, .int .i64 p2.d, .int .i64 p2.a, .int .i64 p2.b, .int .i64 p2.imm, v9, .int .i64 p2.what, .bool p2.volatile, .bool p2.final]) :: Rs)) := by
 refine Ct.of (Nat.zero_le _) Try.func50 rfl (nr rfl) ?_
 unfold tidy_idle_c1 at h
 refine WP.usreg rfl ?_
 refine U.p rfl rfl (.inl rfl) (S.assign rfl K) ?_
 refine U.done (nr rfl) ?_
 refine WP.usdreg rfl rfl rfl ?_
 refine U.k rfl rfl (.inl rfl) (S.load rfl (L 2 rfl rfl) Try.underlying66 rfl ((ow.own (k := 0) rfl).cell rfl)) (fun _ => (okH.nil (fun r h => by cases h; exact (ow.own (k := 0) rfl).lt))) ?_
 refine U.p rfl rfl (.inl rfl) (S.move rfl (L 2 rfl rfl)) ?_
 obtain ⟨x11, hx12, h13⟩ := bindS h
 obtain ⟨b14, o15, n16, c17, hv18⟩ := ow.ospt (k := 1) rfl hx12
 obtain ⟨_, hv19, _⟩ := ow.osel (k := 1) rfl hv18 hx12
 refine U.p rfl rfl (.inl rfl) (S.index rfl ((L 1 rfl rfl).trans hv19) (L 0 rfl rfl) Try.underlying66 ti68 (ix_ge hx12) (ix_lt hx12)) ?_
 obtain ⟨cs20, hv21, hlt22, hr23, hc24⟩ := ow.osel (k := 1) rfl hv18 hx12
 obtain ⟨v25, rfl, f26⟩ := hr23
 refine U.k rfl rfl (.inl rfl) (S.load rfl (L 0 rfl rfl) Try.underlying68 rfl (hc24 0 _ rfl)) (fun _ => (okH.cons trivial (okH.nil (fun r h => by cases h; exact hlt22)))) ?_
 refine U.p (v := .pointer (some ⟨b6, 1, none⟩)) rfl rfl (.inl rfl) (S.fieldAddr rfl (L 7 rfl rfl) Try.underlying44 rfl ti3 rfl rfl) ?_
 refine U.k rfl rfl (.inl rfl) (S.load rfl (L 0 rfl rfl) Try.underlying3 rfl ((ow.own (k := 2) rfl).cell rfl)) (fun _ => (okH.cons trivial (okH.cons trivial (okH.nil (fun r h => by cases h; exact (ow.own (k := 2) rfl).lt))))) ?_
 obtain ⟨x27, hx28, h29⟩ := bindS h13
 obtain ⟨b30, o31, c32, cs33, hv34, hf35, hr36, hc37⟩ := f26.at hx28
 obtain rfl : cs33 = [.bool x27] := hr36
 refine U.p rfl rfl (.inl rfl) (S.index rfl ((L 2 rfl rfl).trans hv34) (L 0 rfl rfl) Try.underlying68 ti4 (ix_ge hx28) (ix_lt hx28)) ?_
 refine U.k rfl rfl (.inl rfl) (S.load rfl (L 0 rfl rfl) Try.underlying4 rfl (hc37 0 _ rfl)) (fun _ => (okH.cons trivial (okH.cons trivial (okH.cons trivial (okH.nil (fun r h => by cases h; exact (V.wf _ hf35))))))) ?_
 refine U.p rfl rfl (.inl rfl) (S.assign rfl (L 0 rfl rfl)) ?_
 refine U.done (nr rfl) ?_
 refine WP.ret ?_
 refine fin.slot (.inr rfl) rfl (L 0 rfl rfl) ⟨V, rfl, (.refl _), ?_⟩
 have e38 := Option.some.inj h29
 subst e38
 exact ⟨rfl, ow⟩
theorem wk_slices_IndexFunc_2 (V : Vw) (Rs : List At) (p0 : List Int) (p1_10 : List (List Bool)) (p1_11 : TIns) (v1 : Value) (b3 : Nat) (z4 : Nat) (v6 : Value) (b8 : Nat) (z9 : Nat) (v11 : Value) (f12 : Fz (RT.int .i64) V v11 p1_11.args) (ow : Ow V (.os (RT.int .i64) v1 p0 :: .pt b3 (.cells z4 [v6]) :: .os (RT.sl RT.bool) v6 p1_10 :: .pt b8 (.cells z9 [.int .i64 p1_11.op, .int .i64 p1_11.d, .int .i64 p1_11.a, .int .i64 p1_11.b, .int .i64 p1_11.imm, v11, .int .i64 p1_11.what, .bool p1_11.volatile, .bool p1_11.final]) :: Rs)) (r : Int) (h : slices_IndexFunc_2 p0 p1_10 p1_11 = some r) : ∃ v V', Cl Try.prog 0 56 #[v1, .func (.func 50) #[] #[.pointer (some ⟨b3, 0, none⟩), .pointer (some ⟨b8, 0, none⟩)]] V.H v V'.H ∧ V.le V' ∧ (v = .int .i64 r ∧ Ow V' (.os (RT.int .i64) v1 p0 :: .pt b3 (.cells z4 [v6]) :: .os (RT.sl RT.bool) v6 p1_10 :: .pt b8 (.cells z9 [.int .i64 p1_11.op, .int .i64 p1_11.d, .int .i64 p1_11.a, .int .i64 p1_11.b, .int .i64 p1_11.imm, v11, .int .i64 p1_11.what, .bool p1_11.volatile, .bool p1_11.final]) :: Rs)) := by
 refine Ct.of (Nat.zero_le _) Try.func56 rfl (nr rfl) ?_
 unfold slices_IndexFunc_2 at h
 refine WP.usreg rfl ?_
 refine U.p rfl rfl (.inl rfl) (S.assign rfl K) ?_
 refine U.done (nr rfl) ?_
 refine WP.seq ?_
 refine WP.usreg rfl ?_
 refine U.p rfl rfl (.inl rfl) (S.move rfl (L 1 rfl rfl)) ?_
 refine U.p rfl rfl (.inl rfl) (ow.oslen (k := 0) rfl rfl (L 0 rfl rfl) Try.underlying23) ?_
 refine U.p rfl rfl (.inl rfl) (S.move rfl K) ?_
 refine U.done (nr rfl) ?_
 refine WP.blk ?_
 unfold slices_IndexFunc_2_l1 at h
 obtain ⟨n15, hn14⟩ := loopO_some.1 h
 refine WP.loopI2 (fun n l V' => ∃ (x13 : Int), l = [(0, v1), (1, .func (.func 50) #[] #[.pointer (some ⟨b3, 0, none⟩), .pointer (some ⟨b8, 0, none⟩)]), (7, .int .i64 (p0.length : Int)), (8, .int .i64 x13)] ∧ V.le V' ∧ Ow V' (.os (RT.int .i64) v1 p0 :: .pt b3 (.cells z4 [v6]) :: .os (RT.sl RT.bool) v6 p1_10 :: .pt b8 (.cells z9 [.int .i64 p1_11.op, .int .i64 p1_11.d, .int .i64 p1_11.a, .int .i64 p1_11.b, .int .i64 p1_11.imm, v11, .int .i64 p1_11.what, .bool p1_11.volatile, .bool p1_11.final]) :: Rs) ∧ itO (fun s => slices_IndexFunc_2_l1b p0 p1_10 p1_11 s) n x13 = some r) n15 _ ⟨0, rfl, .refl _, ow, hn14⟩ (allCons (L 4 rfl rfl) (allCons (L 5 rfl rfl) (allCons (L 1 rfl rfl) (allCons (L 0 rfl rfl) allNil)))) ?_
 rintro _ _ V16 ⟨x13, rfl, le17, ow18, h22⟩
 obtain ⟨m19, q20, rfl, h23, e21⟩ := itS h22
 replace h23 : slices_IndexFunc_2_l1b p0 p1_10 p1_11 x13 = some q20 := h23
 unfold slices_IndexFunc_2_l1b at h23
 refine WP.usreg rfl ?_
 refine U.p rfl rfl (.inl rfl) (S.lss rfl (L 3 rfl rfl) (L 2 rfl rfl)) ?_
 refine U.done (nr rfl) ?_
 refine WP.seq ?_
 refine WP.cond _ (L 0 rfl rfl) rfl (fun c24 => ?_) (fun c24 => ?_)
 ·have h25 := ifT c24 h23
  refine WP.skip ?_
  refine sqN ?_
  refine WP.seq ?_
  refine WP.blk ?_
  refine WP.usreg rfl ?_
  refine U.p rfl rfl (.inl rfl) (S.move rfl (L 4 rfl rfl)) ?_
  refine U.p rfl rfl (.inl rfl) (S.assign rfl (L 0 rfl rfl)) ?_
  refine U.done (nr rfl) ?_
  refine WP.usreg rfl ?_
  refine U.p rfl rfl (.inl rfl) (S.move rfl (L 4 rfl rfl)) ?_
  refine U.p rfl rfl (.inl rfl) (S.move rfl (L 4 rfl rfl)) ?_
  refine U.p rfl rfl (.inl rfl) (S.move rfl (L 2 rfl rfl)) ?_
  obtain ⟨x26, hx27, h28⟩ := bindS h25
  obtain ⟨b29, o30, n31, c32, hv33⟩ := ow18.ospt (k := 0) rfl hx27
  obtain ⟨_, hv34, _⟩ := ow18.osel (k := 0) rfl hv33 hx27
  refine U.p rfl rfl (.inl rfl) (S.index rfl ((L 1 rfl rfl).trans hv34) (L 0 rfl rfl) Try.underlying23 ti3 (ix_ge hx27) (ix_lt hx27)) ?_
  obtain ⟨cs35, hv36, hlt37, hr38, hc39⟩ := ow18.osel (k := 0) rfl hv33 hx27
  obtain rfl : cs35 = [.int .i64 x26] := hr38
  refine U.k rfl rfl (.inl rfl) (S.load rfl (L 0 rfl rfl) Try.underlying3 rfl (hc39 0 _ rfl)) nd ?_
  have f40 := f12.up le17
  have ow41 := ow18.pick 3 rfl
  have ow42 := ow41.pick 3 rfl
  have ow43 := ow42.pick 3 rfl
  obtain ⟨x44, hx45, h46⟩ := bindS h28
  refine O.callv (V := V16) rfl rfl (.inl rfl) rfl (L 4 rfl rfl) en50 (aC (L 0 rfl rfl) aN) (wk_tidy_idle_c1 V16 _ x26 p1_10 p1_11 b3 z4 v6 b8 z9 v11 f40 ow43 _ hx45) (fun _ _ _ _ => nd) (fun v47 V48 le49 hp50 => ?_)
  obtain ⟨rfl, ow51⟩ := hp50
  refine U.done (nr rfl) ?_
  refine WP.cond _ (L 0 rfl rfl) rfl (fun c52 => ?_) (fun c52 => ?_)
  ·have h53 := ifT c52 h46
   refine WP.usreg rfl ?_
   refine U.p rfl rfl (.inl rfl) (S.move rfl (L 6 rfl rfl)) ?_
   refine U.p rfl rfl (.inl rfl) (S.assign rfl (L 0 rfl rfl)) ?_
   refine U.done (nr rfl) ?_
   refine WP.ret ?_
   refine blkR (sqR (sqR (blkR (sqR ?_))))
   have h54 := exitS h53 e21
   refine fin.slot (.inr rfl) rfl (L 0 rfl rfl) ⟨V48, rfl, (le17.trans le49), ?_⟩
   have ow55 := ow51.pick 2 rfl
   have ow56 := ow55.pick 2 rfl
   have ow57 := ow56.pick 2 rfl
   have ow58 := ow57.pick 3 rfl
   have e59 := Option.some.inj h54
   subst e59
   exact ⟨rfl, ow58⟩
  ·have h60 := ifF c52 h46
   refine WP.skip ?_
   refine blkN (sqN ?_)
   refine WP.ureg rfl ?_
   refine U.p rfl rfl (.inl rfl) (S.add rfl (L 12 rfl rfl) K) ?_
   refine U.p rfl rfl (.inl rfl) (S.move rfl (L 0 rfl rfl)) ?_
   refine U.done (nr rfl) ?_
   refine sqN ?_
   have ow61 := ow51.pick 2 rfl
   have ow62 := ow61.pick 2 rfl
   have ow63 := ow62.pick 2 rfl
   have ow64 := ow63.pick 3 rfl
   exact ⟨_, V48, rfl, ⟨m19, Nat.lt_succ_self _, w64 (x13 + 1), rfl, (le17.trans le49), ow64, backS h60 e21⟩, (allCons (L 11 rfl rfl) (allCons (L 12 rfl rfl) (allCons (L 13 rfl rfl) (allCons (L 0 rfl rfl) allNil))))⟩
 ·have h65 := ifF c24 h23
  refine WP.exit ?_
  refine sqE (sqE (blkE (sqN ?_)))
  have h66 := exitS h65 e21
  refine WP.usreg rfl ?_
  refine U.p rfl rfl (.inl rfl) (S.assign rfl K) ?_
  refine U.done (nr rfl) ?_
  refine WP.ret ?_
  refine fin.slot (.inr rfl) rfl (L 0 rfl rfl) ⟨V16, rfl, le17, ?_⟩
  have e67 := Option.some.inj h66
  subst e67
  exact ⟨rfl, ow18⟩
theorem wk_slices_ContainsFunc (V : Vw) (Rs : List At) (p0 : List Int) (p1_10 : List (List Bool)) (p1_11 : TIns) (v1 : Value) (b3 : Nat) (z4 : Nat) (v6 : Value) (b8 : Nat) (z9 : Nat) (v11 : Value) (f12 : Fz (RT.int .i64) V v11 p1_11.args) (ow : Ow V (.os (RT.int .i64) v1 p0 :: .pt b3 (.cells z4 [v6]) :: .os (RT.sl RT.bool) v6 p1_10 :: .pt b8 (.cells z9 [.int .i64 p1_11.op, .int .i64 p1_11.d, .int .i64 p1_11.a, .int .i64 p1_11.b, .int .i64 p1_11.imm, v11, .int .i64 p1_11.what, .bool p1_11.volatile, .bool p1_11.final]) :: Rs)) (r : Bool) (h : slices_ContainsFunc p0 p1_10 p1_11 = some r) : ∃ v V', Cl Try.prog 0 49 #[v1, .func (.func 50) #[] #[.pointer (some ⟨b3, 0, none⟩), .pointer (some ⟨b8, 0, none⟩)]] V.H v V'.H ∧ V.le V' ∧ (v = .bool r ∧ Ow V' (.os (RT.int .i64) v1 p0 :: .pt b3 (.cells z4 [v6]) :: .os (RT.sl RT.bool) v6 p1_10 :: .pt b8 (.cells z9 [.int .i64 p1_11.op, .int .i64 p1_11.d, .int .i64 p1_11.a, .int .i64 p1_11.b, .int .i64 p1_11.imm, v11, .int .i64 p1_11.what, .bool p1_11.volatile, .bool p1_11.final]) :: Rs)) := by
 refine Ct.of (Nat.zero_le _) Try.func49 rfl (nr rfl) ?_
 unfold slices_ContainsFunc at h
 refine WP.usreg rfl ?_
 refine U.p rfl rfl (.inl rfl) (S.assign rfl K) ?_
 refine U.done (nr rfl) ?_
 refine WP.usreg rfl ?_
 refine U.p rfl rfl (.inl rfl) (S.move rfl (L 1 rfl rfl)) ?_
 refine U.p rfl rfl (.inl rfl) (S.move rfl (L 3 rfl rfl)) ?_
 have ow13 := ow.pick 3 rfl
 have ow14 := ow13.pick 3 rfl
 have ow15 := ow14.pick 3 rfl
 have ow16 := ow15.pick 3 rfl
 obtain ⟨x17, hx18, h19⟩ := bindS h
 refine O.call (V := V) rfl rfl (.inl rfl) rfl en56 (aC (L 1 rfl rfl) (aC (L 0 rfl rfl) aN)) (wk_slices_IndexFunc_2 V _ p0 p1_10 p1_11 v1 b3 z4 v6 b8 z9 v11 f12 ow16 _ hx18) (fun _ _ _ _ => nd) (fun v20 V21 le22 hp23 => ?_)
 obtain ⟨rfl, ow24⟩ := hp23
 refine U.p rfl rfl (.inl rfl) (S.geq rfl (L 0 rfl rfl) K) ?_
 refine U.p rfl rfl (.inl rfl) (S.assign rfl (L 0 rfl rfl)) ?_
 refine U.done (nr rfl) ?_
 refine WP.ret ?_
 refine fin.slot (.inr rfl) rfl (L 0 rfl rfl) ⟨V21, rfl, le22, ?_⟩
 have e25 := Option.some.inj h19
 subst e25
 exact ⟨rfl, ow24⟩
theorem wk_tidy_idle (V : Vw) (Rs : List At) (p0 : TFunc) (p1 : Int) (p2 : List (List Bool)) (v1 : Value) (v3 : Value) (f2 : Fz RT_TIns V v1 p0.code) (ow : Ow V (.os (RT.sl RT.bool) v3 p2 :: Rs)) (r : Bool) (h : tidy_idle p0 p1 p2 = some r) : ∃ v V', Cl Try.prog 0 32 #[.agg #[.string p0.name, .int .i64 p0.params, .int .i64 p0.regs, v1], .int .i64 p1, v3] V.H v V'.H ∧ V.le V' ∧ (v = .bool r ∧ Ow V' (.os (RT.sl RT.bool) v3 p2 :: Rs)) := by
 refine Ct.of (Nat.zero_le _) Try.func32 rfl (nr rfl) ?_
 unfold tidy_idle at h
 refine WP.usreg rfl ?_
 refine O.box ow rfl rfl (.inl rfl) rfl (L 0 rfl rfl) (by simp [topV]) rfl nd (fun b5 V6 le7 ow8 => ?_)
 refine O.box ow8 rfl rfl (.inl rfl) rfl (L 3 rfl rfl) (ow8.osne (k := 1) rfl) (by rw [ow8.oscells (k := 1) rfl]) nd (fun b10 V11 le12 ow13 => ?_)
 refine U.p rfl rfl (.inl rfl) (S.assign rfl K) ?_
 refine U.done (nr rfl) ?_
 refine WP.usreg rfl ?_
 refine U.p (v := .pointer (some ⟨b5, 3, none⟩)) rfl rfl (.inl rfl) (S.fieldAddr rfl (L 2 rfl rfl) Try.underlying38 rfl ti36 rfl rfl) ?_
 refine U.k rfl rfl (.inl rfl) (S.load rfl (L 0 rfl rfl) Try.underlying36 rfl ((ow13.own (k := 1) rfl).cell rfl)) nd ?_
 refine U.p rfl rfl (.inl rfl) (S.move rfl (L 6 rfl rfl)) ?_
 obtain ⟨x15, hx16, h17⟩ := bindS h
 obtain ⟨b18, o19, c20, cs21, hv22, hf23, hr24, hc25⟩ := f2.at hx16
 obtain ⟨v26, rfl, f27⟩ := hr24
 refine U.p rfl rfl (.inl rfl) (S.index rfl ((L 1 rfl rfl).trans hv22) (L 0 rfl rfl) Try.underlying36 ti44 (ix_ge hx16) (ix_lt hx16)) ?_
 refine U.k rfl rfl (.inl rfl) (S.loadN (cs := [.int .i64 x15.op, .int .i64 x15.d, .int .i64 x15.a, .int .i64 x15.b, .int .i64 x15.imm, v26, .int .i64 x15.what, .bool x15.volatile, .bool x15.final]) rfl (L 0 rfl rfl) Try.underlying44 rfl ti44 rfl (fun j v hj => (le7.trans le12).cell hf23 (hc25 j v hj))) nd ?_
 refine O.alloc ow13 rfl rfl (.inl rfl) rfl ti44 rfl rfl nd (fun b28 V29 le30 ow31 => ?_)
 refine O.store (k := 0) (cs := [.int .i64 x15.op, .int .i64 x15.d, .int .i64 x15.a, .int .i64 x15.b, .int .i64 x15.imm, v26, .int .i64 x15.what, .bool x15.volatile, .bool x15.final]) (c' := [.int .i64 x15.op, .int .i64 x15.d, .int .i64 x15.a, .int .i64 x15.b, .int .i64 x15.imm, v26, .int .i64 x15.what, .bool x15.volatile, .bool x15.final]) ow31 rfl rfl rfl (.inl rfl) rfl (L 0 rfl rfl) (L 1 rfl rfl) ti44 (by simp [topV]) rfl rfl (nr rfl) (by have q0 := f27.one; simp only [List.all_cons, List.all_nil, q0]; rfl) rfl nd (fun V33 le34 ow35 => ?_)
 refine U.done (nr rfl) ?_
 refine WP.seq ?_
 refine WP.usreg rfl ?_
 refine U.p (v := .pointer (some ⟨b28, 0, none⟩)) rfl rfl (.inl rfl) (S.fieldAddr rfl (L 0 rfl rfl) Try.underlying44 rfl ti3 rfl rfl) ?_
 refine U.k rfl rfl (.inl rfl) (S.load rfl (L 0 rfl rfl) Try.underlying3 rfl ((ow35.own (k := 0) rfl).cell rfl)) nd ?_
 refine U.p rfl rfl (.inl rfl) (S.eqlI rfl (L 0 rfl rfl) K) ?_
 refine U.p rfl rfl (.inl rfl) (S.move rfl (L 0 rfl rfl)) ?_
 refine U.joinX 10 (fun e H => ∃ (u36 u37 u38 u39 u40 : Value), H = V33.H ∧ e = [(22, .bool ((decide (x15.op = 2)) && (decide (x15.d = x15.a)))), (21, u36), (20, u37), (19, u38), (18, u39), (17, u40)]) ?_ ?_
 ·rintro _ _ ⟨u36, u37, u38, u39, u40, rfl, rfl⟩
  refine U.done (nr rfl) ?_
  refine WP.cond _ (L 0 rfl rfl) rfl (fun c44 => ?_) (fun c44 => ?_)
  ·have h45 := ifT c44 h17
   refine WP.usreg rfl ?_
   refine U.p rfl rfl (.inl rfl) (S.assign rfl K) ?_
   refine U.done (nr rfl) ?_
   refine WP.ret ?_
   refine sqR ?_
   refine fin.slot (.inr rfl) rfl (L 0 rfl rfl) ⟨V33, rfl, (((le7.trans le12).trans le30).trans le34), ?_⟩
   have ow46 := ow35.drop 0 rfl
   have ow47 := ow46.drop 0 rfl
   have ow48 := ow47.drop 0 rfl
   have e49 := Option.some.inj h45
   subst e49
   exact ⟨rfl, ow48⟩
  ·have h50 := ifF c44 h17
   refine WP.skip ?_
   refine sqN ?_
   refine WP.seq ?_
   refine WP.seqI (fun l V' => ∃ (x51 : Bool), l = [(1, .int .i64 p1), (3, .pointer (some ⟨b5, 0, none⟩)), (5, .pointer (some ⟨b10, 0, none⟩)), (7, .pointer (some ⟨b28, 0, none⟩)), (55, .bool x51)] ∧ V33.le V' ∧ Ow V' (.os (RT.sl RT.bool) v3 p2 :: .pt b5 (.cells 0 [.string p0.name, .int .i64 p0.params, .int .i64 p0.regs, v1]) :: .pt b10 (.cells 0 [v3]) :: .pt b28 (.cells 9 [.int .i64 x15.op, .int .i64 x15.d, .int .i64 x15.a, .int .i64 x15.b, .int .i64 x15.imm, v26, .int .i64 x15.what, .bool x15.volatile, .bool x15.final]) :: Rs) ∧ tidy_idle_k1 p0 p1 p2 x15 x51 = some r) ?_ ?_
   ·rintro _ V52 ⟨x51, rfl, le53, ow54, h55⟩
    unfold tidy_idle_k1 at h55
    refine WP.cond _ (L 4 rfl rfl) rfl (fun c56 => ?_) (fun c56 => ?_)
    ·have h57 := ifT c56 h55
     refine WP.usreg rfl ?_
     refine U.p rfl rfl (.inl rfl) (S.assign rfl K) ?_
     refine U.done (nr rfl) ?_
     refine WP.ret ?_
     refine sqR ?_
     refine fin.slot (.inr rfl) rfl (L 0 rfl rfl) ⟨V52, rfl, ((((le7.trans le12).trans le30).trans le34).trans le53), ?_⟩
     have ow58 := ow54.drop 1 rfl
     have ow59 := ow58.drop 1 rfl
     have ow60 := ow59.drop 1 rfl
     have e61 := Option.some.inj h57
     subst e61
     exact ⟨rfl, ow60⟩
    ·have h62 := ifF c56 h55
     refine WP.skip ?_
     refine sqN ?_
     refine WP.usreg rfl ?_
     refine U.k rfl rfl (.inl rfl) (S.loadB rfl (L 3 rfl rfl) Try.underlying44 rfl ti44 (ow54.own (k := 3) rfl).get rfl) nd ?_
     have f63 := f27.up ((((le7.trans le12).trans le30).trans le34).trans le53)
     obtain ⟨x64, hx65, h66⟩ := bindS h62
     refine O.call (V := V52) rfl rfl (.inl rfl) rfl en48 (aC (L 0 rfl rfl) aN) (wk_ir_Pure V52 _ x15 v26 f63 ow54 _ hx65) (fun _ _ _ _ => nd) (fun v67 V68 le69 hp70 => ?_)
     obtain ⟨rfl, ow71⟩ := hp70
     refine U.p rfl rfl (.inl rfl) (S.move rfl (L 0 rfl rfl)) ?_
     obtain ⟨y72, hy73, h74⟩ := bindS h66
     refine U.joinX 10 (fun e H => ∃ (u75 u76 u77 u78 u79 u80 : Value), ∃ V' : Vw, H = V'.H ∧ V68.le V' ∧ e = [(65, .bool y72), (64, u75), (63, u76), (62, u77), (61, u78), (60, u79), (59, u80)] ∧ Ow V' (.os (RT.sl RT.bool) v3 p2 :: .pt b5 (.cells 0 [.string p0.name, .int .i64 p0.params, .int .i64 p0.regs, v1]) :: .pt b10 (.cells 0 [v3]) :: .pt b28 (.cells 9 [.int .i64 x15.op, .int .i64 x15.d, .int .i64 x15.a, .int .i64 x15.b, .int .i64 x15.imm, v26, .int .i64 x15.what, .bool x15.volatile, .bool x15.final]) :: Rs)) ?_ ?_
     ·rintro _ _ ⟨u75, u76, u77, u78, u79, u80, V81, rfl, le82, rfl, ow83⟩
      refine U.p rfl rfl (.inl rfl) (S.assign rfl (L 0 rfl rfl)) ?_
      refine U.done (nr rfl) ?_
      refine WP.ret ?_
      refine fin.slot (.inr rfl) rfl (L 0 rfl rfl) ⟨V81, rfl, ((((((le7.trans le12).trans le30).trans le34).trans le53).trans le69).trans le82), ?_⟩
      have ow84 := ow83.drop 1 rfl
      have ow85 := ow84.drop 1 rfl
      have ow86 := ow85.drop 1 rfl
      have e87 := Option.some.inj h74
      subst e87
      exact ⟨rfl, ow86⟩
     ·intro kk
      refine bcase (b := x64) (fun g88 => ?_) (fun g88 => ?_)
      ·have h89 := ifT g88 hy73
       refine U.k rfl rfl (.inr ⟨_, _, _, rfl, rfl, ((L 0 rfl rfl).trans (cB g88))⟩) (S.loadB rfl (L 4 rfl rfl) Try.underlying38 rfl ti38 (ow71.own (k := 1) rfl).get rfl) nd ?_
       refine U.p rfl rfl (.inr ⟨_, _, _, rfl, rfl, ((L 1 rfl rfl).trans (cB g88))⟩) (S.move rfl (L 4 rfl rfl)) ?_
       have f90 := f2.up (((((le7.trans le12).trans le30).trans le34).trans le53).trans le69)
       obtain ⟨x91, hx92, h93⟩ := bindS h89
       refine O.call (V := V68) rfl rfl (.inr ⟨_, _, _, rfl, rfl, ((L 2 rfl rfl).trans (cB g88))⟩) rfl en45 (aC (L 1 rfl rfl) (aC (L 0 rfl rfl) aN)) (wk_flow_Next V68 _ p0 p1 v1 f90 ow71 _ hx92) (fun _ _ _ _ => nd) (fun v94 V95 le96 hp97 => ?_)
       obtain ⟨_, rfl, ow98⟩ := hp97
       refine U.p (v := .func (.func 50) #[] #[.pointer (some ⟨b10, 0, none⟩), .pointer (some ⟨b28, 0, none⟩)]) rfl rfl (.inr ⟨_, _, _, rfl, rfl, ((L 3 rfl rfl).trans (cB g88))⟩) (S.makeFunc' rfl (amN) (am2 (L 8 rfl rfl) (L 9 rfl rfl))) ?_
       have f101 := f63.up (le69.trans le96)
       have ow102 := ow98.pick 4 rfl
       have ow103 := ow102.pick 2 rfl
       have ow104 := ow103.pick 4 rfl
       have ow105 := ow104.pick 3 rfl
       obtain ⟨x106, hx107, h108⟩ := bindS h93
       refine O.call (V := V95) rfl rfl (.inr ⟨_, _, _, rfl, rfl, ((L 4 rfl rfl).trans (cB g88))⟩) rfl en49 (aC (L 1 rfl rfl) (aC (L 0 rfl rfl) aN)) (wk_slices_ContainsFunc V95 _ x91 p2 x15 v94 b10 0 v3 b28 9 v26 f101 ow105 _ hx107) (fun _ _ _ _ => nd) (fun v109 V110 le111 hp112 => ?_)
       obtain ⟨rfl, ow113⟩ := hp112
       refine U.p rfl rfl (.inr ⟨_, _, _, rfl, rfl, ((L 5 rfl rfl).trans (cB g88))⟩) (S.not rfl (L 0 rfl rfl)) ?_
       refine U.p rfl rfl (.inl rfl) (S.pickT rfl ((L 6 rfl rfl).trans (cB g88)) (L 0 rfl rfl)) ?_
       have e114 := Option.some.inj h108
       subst e114
       have ow115 := ow113.drop 0 rfl
       have ow116 := ow115.pick 2 rfl
       have ow117 := ow116.pick 1 rfl
       have ow118 := ow117.pick 3 rfl
       have ow119 := ow118.pick 3 rfl
       exact kk [(65, .bool (!x106)), (64, .bool (!x106)), (63, .bool x106), (62, .func (.func 50) #[] #[.pointer (some ⟨b10, 0, none⟩), .pointer (some ⟨b28, 0, none⟩)]), (61, v94), (60, .int .i64 p1), (59, .agg #[.string p0.name, .int .i64 p0.params, .int .i64 p0.regs, v1])] _ ⟨.bool (!x106), .bool x106, .func (.func 50) #[] #[.pointer (some ⟨b10, 0, none⟩), .pointer (some ⟨b28, 0, none⟩)], v94, .int .i64 p1, .agg #[.string p0.name, .int .i64 p0.params, .int .i64 p0.regs, v1], V110, rfl, (le96.trans le111), rfl, ow119⟩
      ·have h120 := ifF g88 hy73
       refine U.x rfl rfl rfl rfl ((L 0 rfl rfl).trans (cB g88)) (by decide) ?_
       refine U.x rfl rfl rfl rfl ((L 1 rfl rfl).trans (cB g88)) (by decide) ?_
       refine U.x rfl rfl rfl rfl ((L 2 rfl rfl).trans (cB g88)) (by decide) ?_
       refine U.x rfl rfl rfl rfl ((L 3 rfl rfl).trans (cB g88)) (by decide) ?_
       refine U.x rfl rfl rfl rfl ((L 4 rfl rfl).trans (cB g88)) (by decide) ?_
       refine U.x rfl rfl rfl rfl ((L 5 rfl rfl).trans (cB g88)) (by decide) ?_
       refine U.p rfl rfl (.inl rfl) (S.pickF rfl ((L 6 rfl rfl).trans (cB g88)) K) ?_
       have e121 := Option.some.inj h120
       subst e121
       exact kk [(65, .bool false), (64, .tuple #[]), (63, .tuple #[]), (62, .tuple #[]), (61, .tuple #[]), (60, .tuple #[]), (59, .tuple #[])] _ ⟨.tuple #[], .tuple #[], .tuple #[], .tuple #[], .tuple #[], .tuple #[], V68, rfl, (.refl _), rfl, ow71⟩
   ·skip
    refine WP.udreg rfl rfl rfl ?_
    refine U.p (v := .pointer (some ⟨b28, 0, none⟩)) rfl rfl (.inl rfl) (S.fieldAddr rfl (L 10 rfl rfl) Try.underlying44 rfl ti3 rfl rfl) ?_
    refine U.k rfl rfl (.inl rfl) (S.load rfl (L 0 rfl rfl) Try.underlying3 rfl ((ow35.own (k := 0) rfl).cell rfl)) (fun _ => (okH.nil (fun r h => by cases h; exact (ow35.own (k := 0) rfl).lt))) ?_
    refine U.p rfl rfl (.inl rfl) (S.eqlI rfl (L 0 rfl rfl) K) ?_
    refine U.p rfl rfl (.inl rfl) (S.move rfl (L 0 rfl rfl)) ?_
    refine bcase (b := decide (x15.op = 12)) (fun g122 => ?_) (fun g122 => ?_)
    ·have h123 := ifT g122 h50
     refine U.p rfl rfl (.inr ⟨_, _, _, rfl, rfl, ((L 0 rfl rfl).trans (cB g122))⟩) (S.move rfl (L 24 rfl rfl)) ?_
     refine U.p rfl rfl (.inr ⟨_, _, _, rfl, rfl, ((L 1 rfl rfl).trans (cB g122))⟩) (S.add rfl (L 0 rfl rfl) K) ?_
     refine U.p (v := .pointer (some ⟨b5, 3, none⟩)) rfl rfl (.inr ⟨_, _, _, rfl, rfl, ((L 2 rfl rfl).trans (cB g122))⟩) (S.fieldAddr rfl (L 24 rfl rfl) Try.underlying38 rfl ti36 rfl rfl) ?_
     refine U.k rfl rfl (.inr ⟨_, _, _, rfl, rfl, ((L 3 rfl rfl).trans (cB g122))⟩) (S.load rfl (L 0 rfl rfl) Try.underlying36 rfl ((ow35.own (k := 2) rfl).cell rfl)) (fun _ => (okH.cons trivial (okH.nil (fun r h => by cases h; exact (ow35.own (k := 2) rfl).lt)))) ?_
     refine U.p rfl rfl (.inr ⟨_, _, _, rfl, rfl, ((L 4 rfl rfl).trans (cB g122))⟩) (f2.1.len rfl (L 0 rfl rfl) Try.underlying36) ?_
     refine U.p rfl rfl (.inr ⟨_, _, _, rfl, rfl, ((L 5 rfl rfl).trans (cB g122))⟩) (S.lss rfl (L 3 rfl rfl) (L 0 rfl rfl)) ?_
     refine U.p rfl rfl (.inl rfl) (S.pickT rfl ((L 6 rfl rfl).trans (cB g122)) (L 0 rfl rfl)) ?_
     refine U.p rfl rfl (.inl rfl) (S.move rfl (L 0 rfl rfl)) ?_
     refine bcase (b := decide ((w64 (p1 + 1)) < (p0.code.length : Int))) (fun g124 => ?_) (fun g124 => ?_)
     ·have h125 := ifT g124 h123
      refine U.p (v := .pointer (some ⟨b5, 3, none⟩)) rfl rfl (.inr ⟨_, _, _, rfl, rfl, ((L 0 rfl rfl).trans (cB g124))⟩) (S.fieldAddr rfl (L 30 rfl rfl) Try.underlying38 rfl ti36 rfl rfl) ?_
      refine U.k rfl rfl (.inr ⟨_, _, _, rfl, rfl, ((L 1 rfl rfl).trans (cB g124))⟩) (S.load rfl (L 0 rfl rfl) Try.underlying36 rfl ((ow35.own (k := 2) rfl).cell rfl)) (fun _ => (okH.cons trivial (okH.cons trivial (okH.nil (fun r h => by cases h; exact (ow35.own (k := 2) rfl).lt))))) ?_
      refine U.p rfl rfl (.inr ⟨_, _, _, rfl, rfl, ((L 2 rfl rfl).trans (cB g124))⟩) (S.move rfl (L 34 rfl rfl)) ?_
      refine U.p rfl rfl (.inr ⟨_, _, _, rfl, rfl, ((L 3 rfl rfl).trans (cB g124))⟩) (S.add rfl (L 0 rfl rfl) K) ?_
      obtain ⟨x126, hx127, h128⟩ := bindS h125
      obtain ⟨b129, o130, c131, cs132, hv133, hf134, hr135, hc136⟩ := f2.at hx127
      obtain ⟨v137, rfl, f138⟩ := hr135
      refine U.p rfl rfl (.inr ⟨_, _, _, rfl, rfl, ((L 4 rfl rfl).trans (cB g124))⟩) (S.index rfl ((L 2 rfl rfl).trans hv133) (L 0 rfl rfl) Try.underlying36 ti44 (ix_ge hx127) (ix_lt hx127)) ?_
      refine U.p (v := .pointer (some ⟨b129, o130 + Int.toNat (w64 (p1 + 1)) * 9, none⟩)) rfl rfl (.inr ⟨_, _, _, rfl, rfl, ((L 5 rfl rfl).trans (cB g124))⟩) (S.fieldAddr rfl (L 0 rfl rfl) Try.underlying44 rfl ti3 rfl rfl) ?_
      refine U.k rfl rfl (.inr ⟨_, _, _, rfl, rfl, ((L 6 rfl rfl).trans (cB g124))⟩) (S.load rfl (L 0 rfl rfl) Try.underlying3 rfl ((((le7.trans le12).trans le30).trans le34).cell hf134 (hc136 0 _ rfl))) (fun _ => (okH.cons trivial (okH.cons trivial (okH.cons trivial (okH.nil (fun r h => by cases h; exact (V33.wf _ ((((le7.trans le12).trans le30).trans le34).sub _ hf134)))))))) ?_
      refine U.p rfl rfl (.inr ⟨_, _, _, rfl, rfl, ((L 7 rfl rfl).trans (cB g124))⟩) (S.eqlI rfl (L 0 rfl rfl) K) ?_
      refine U.p rfl rfl (.inl rfl) (S.pickT rfl ((L 8 rfl rfl).trans (cB g124)) (L 0 rfl rfl)) ?_
      refine U.p rfl rfl (.inl rfl) (S.move rfl (L 0 rfl rfl)) ?_
      refine bcase (b := decide (x126.op = 11)) (fun g139 => ?_) (fun g139 => ?_)
      ·have h140 := ifT g139 h128
       refine U.p (v := .pointer (some ⟨b5, 3, none⟩)) rfl rfl (.inr ⟨_, _, _, rfl, rfl, ((L 0 rfl rfl).trans (cB g139))⟩) (S.fieldAddr rfl (L 40 rfl rfl) Try.underlying38 rfl ti36 rfl rfl) ?_
       refine U.k rfl rfl (.inr ⟨_, _, _, rfl, rfl, ((L 1 rfl rfl).trans (cB g139))⟩) (S.load rfl (L 0 rfl rfl) Try.underlying36 rfl ((ow35.own (k := 2) rfl).cell rfl)) (fun _ => (okH.cons trivial (okH.cons trivial (okH.cons trivial (okH.cons trivial (okH.nil (fun r h => by cases h; exact (ow35.own (k := 2) rfl).lt))))))) ?_
       refine U.p rfl rfl (.inr ⟨_, _, _, rfl, rfl, ((L 2 rfl rfl).trans (cB g139))⟩) (S.move rfl (L 44 rfl rfl)) ?_
       refine U.p rfl rfl (.inr ⟨_, _, _, rfl, rfl, ((L 3 rfl rfl).trans (cB g139))⟩) (S.add rfl (L 0 rfl rfl) K) ?_
       obtain ⟨x141, hx142, h143⟩ := bindS h140
       obtain ⟨b144, o145, c146, cs147, hv148, hf149, hr150, hc151⟩ := f2.at hx142
       obtain ⟨v152, rfl, f153⟩ := hr150
       refine U.p rfl rfl (.inr ⟨_, _, _, rfl, rfl, ((L 4 rfl rfl).trans (cB g139))⟩) (S.index rfl ((L 2 rfl rfl).trans hv148) (L 0 rfl rfl) Try.underlying36 ti44 (ix_ge hx142) (ix_lt hx142)) ?_
       refine U.p (v := .pointer (some ⟨b144, o145 + Int.toNat (w64 (p1 + 1)) * 9 + 4, none⟩)) rfl rfl (.inr ⟨_, _, _, rfl, rfl, ((L 5 rfl rfl).trans (cB g139))⟩) (S.fieldAddr rfl (L 0 rfl rfl) Try.underlying44 rfl ti3 rfl rfl) ?_
       refine U.k rfl rfl (.inr ⟨_, _, _, rfl, rfl, ((L 6 rfl rfl).trans (cB g139))⟩) (S.load rfl (L 0 rfl rfl) Try.underlying3 rfl ((((le7.trans le12).trans le30).trans le34).cell hf149 (hc151 4 _ rfl))) (fun _ => (okH.cons trivial (okH.cons trivial (okH.cons trivial (okH.cons trivial (okH.cons trivial (okH.nil (fun r h => by cases h; exact (V33.wf _ ((((le7.trans le12).trans le30).trans le34).sub _ hf149)))))))))) ?_
       refine U.p (v := .pointer (some ⟨b28, 4, none⟩)) rfl rfl (.inr ⟨_, _, _, rfl, rfl, ((L 7 rfl rfl).trans (cB g139))⟩) (S.fieldAddr rfl (L 39 rfl rfl) Try.underlying44 rfl ti3 rfl rfl) ?_
       refine U.k rfl rfl (.inr ⟨_, _, _, rfl, rfl, ((L 8 rfl rfl).trans (cB g139))⟩) (S.load rfl (L 0 rfl rfl) Try.underlying3 rfl ((ow35.own (k := 0) rfl).cell rfl)) (fun _ => (okH.cons trivial (okH.cons trivial (okH.cons trivial (okH.cons trivial (okH.cons trivial (okH.cons trivial (okH.nil (fun r h => by cases h; exact (ow35.own (k := 0) rfl).lt))))))))) ?_
       refine U.p rfl rfl (.inr ⟨_, _, _, rfl, rfl, ((L 9 rfl rfl).trans (cB g139))⟩) (S.eqlI rfl (L 2 rfl rfl) (L 0 rfl rfl)) ?_
       refine U.p rfl rfl (.inl rfl) (S.pickT rfl ((L 10 rfl rfl).trans (cB g139)) (L 0 rfl rfl)) ?_
       refine U.done (nr rfl) ?_
       refine sqN ?_
       have ow154 := ow35.pick 0 rfl
       have ow155 := ow154.pick 1 rfl
       have ow156 := ow155.pick 2 rfl
       have ow157 := ow156.pick 3 rfl
       exact ⟨_, V33, rfl, ⟨decide (x141.imm = x15.imm), rfl, (.refl _), ow157, h143⟩, (allCons (L 53 rfl rfl) (allCons (L 51 rfl rfl) (allCons (L 50 rfl rfl) (allCons (L 43 rfl rfl) (allCons (L 0 rfl rfl) allNil)))))⟩
      ·have h158 := ifF g139 h128
       refine U.x rfl rfl rfl rfl ((L 0 rfl rfl).trans (cB g139)) (by decide) ?_
       refine U.x rfl rfl rfl rfl ((L 1 rfl rfl).trans (cB g139)) (by decide) ?_
       refine U.x rfl rfl rfl rfl ((L 2 rfl rfl).trans (cB g139)) (by decide) ?_
       refine U.x rfl rfl rfl rfl ((L 3 rfl rfl).trans (cB g139)) (by decide) ?_
       refine U.x rfl rfl rfl rfl ((L 4 rfl rfl).trans (cB g139)) (by decide) ?_
       refine U.x rfl rfl rfl rfl ((L 5 rfl rfl).trans (cB g139)) (by decide) ?_
       refine U.x rfl rfl rfl rfl ((L 6 rfl rfl).trans (cB g139)) (by decide) ?_
       refine U.x rfl rfl rfl rfl ((L 7 rfl rfl).trans (cB g139)) (by decide) ?_
       refine U.x rfl rfl rfl rfl ((L 8 rfl rfl).trans (cB g139)) (by decide) ?_
       refine U.x rfl rfl rfl rfl ((L 9 rfl rfl).trans (cB g139)) (by decide) ?_
       refine U.p rfl rfl (.inl rfl) (S.pickF rfl ((L 10 rfl rfl).trans (cB g139)) K) ?_
       refine U.done (nr rfl) ?_
       refine sqN ?_
       have ow159 := ow35.pick 0 rfl
       have ow160 := ow159.pick 1 rfl
       have ow161 := ow160.pick 2 rfl
       have ow162 := ow161.pick 3 rfl
       exact ⟨_, V33, rfl, ⟨false, rfl, (.refl _), ow162, h158⟩, (allCons (L 53 rfl rfl) (allCons (L 51 rfl rfl) (allCons (L 50 rfl rfl) (allCons (L 43 rfl rfl) (allCons (L 0 rfl rfl) allNil)))))⟩
     ·have h163 := ifF g124 h123
      refine U.x rfl rfl rfl rfl ((L 0 rfl rfl).trans (cB g124)) (by decide) ?_
      refine U.x rfl rfl rfl rfl ((L 1 rfl rfl).trans (cB g124)) (by decide) ?_
      refine U.x rfl rfl rfl rfl ((L 2 rfl rfl).trans (cB g124)) (by decide) ?_
      refine U.x rfl rfl rfl rfl ((L 3 rfl rfl).trans (cB g124)) (by decide) ?_
      refine U.x rfl rfl rfl rfl ((L 4 rfl rfl).trans (cB g124)) (by decide) ?_
      refine U.x rfl rfl rfl rfl ((L 5 rfl rfl).trans (cB g124)) (by decide) ?_
      refine U.x rfl rfl rfl rfl ((L 6 rfl rfl).trans (cB g124)) (by decide) ?_
      refine U.x rfl rfl rfl rfl ((L 7 rfl rfl).trans (cB g124)) (by decide) ?_
      refine U.p rfl rfl (.inl rfl) (S.pickF rfl ((L 8 rfl rfl).trans (cB g124)) K) ?_
      refine U.p rfl rfl (.inl rfl) (S.move rfl (L 0 rfl rfl)) ?_
      refine U.x rfl rfl rfl rfl (L 0 rfl rfl) (by decide) ?_
      refine U.x rfl rfl rfl rfl (L 1 rfl rfl) (by decide) ?_
      refine U.x rfl rfl rfl rfl (L 2 rfl rfl) (by decide) ?_
      refine U.x rfl rfl rfl rfl (L 3 rfl rfl) (by decide) ?_
      refine U.x rfl rfl rfl rfl (L 4 rfl rfl) (by decide) ?_
      refine U.x rfl rfl rfl rfl (L 5 rfl rfl) (by decide) ?_
      refine U.x rfl rfl rfl rfl (L 6 rfl rfl) (by decide) ?_
      refine U.x rfl rfl rfl rfl (L 7 rfl rfl) (by decide) ?_
      refine U.x rfl rfl rfl rfl (L 8 rfl rfl) (by decide) ?_
      refine U.x rfl rfl rfl rfl (L 9 rfl rfl) (by decide) ?_
      refine U.p rfl rfl (.inl rfl) (S.pickF rfl (L 10 rfl rfl) K) ?_
      refine U.done (nr rfl) ?_
      refine sqN ?_
      have ow164 := ow35.pick 0 rfl
      have ow165 := ow164.pick 1 rfl
      have ow166 := ow165.pick 2 rfl
      have ow167 := ow166.pick 3 rfl
      exact ⟨_, V33, rfl, ⟨false, rfl, (.refl _), ow167, h163⟩, (allCons (L 53 rfl rfl) (allCons (L 51 rfl rfl) (allCons (L 50 rfl rfl) (allCons (L 43 rfl rfl) (allCons (L 0 rfl rfl) allNil)))))⟩
    ·have h168 := ifF g122 h50
     refine U.x rfl rfl rfl rfl ((L 0 rfl rfl).trans (cB g122)) (by decide) ?_
     refine U.x rfl rfl rfl rfl ((L 1 rfl rfl).trans (cB g122)) (by decide) ?_
     refine U.x rfl rfl rfl rfl ((L 2 rfl rfl).trans (cB g122)) (by decide) ?_
     refine U.x rfl rfl rfl rfl ((L 3 rfl rfl).trans (cB g122)) (by decide) ?_
     refine U.x rfl rfl rfl rfl ((L 4 rfl rfl).trans (cB g122)) (by decide) ?_
     refine U.x rfl rfl rfl rfl ((L 5 rfl rfl).trans (cB g122)) (by decide) ?_
     refine U.p rfl rfl (.inl rfl) (S.pickF rfl ((L 6 rfl rfl).trans (cB g122)) K) ?_
     refine U.p rfl rfl (.inl rfl) (S.move rfl (L 0 rfl rfl)) ?_
     refine U.x rfl rfl rfl rfl (L 0 rfl rfl) (by decide) ?_
     refine U.x rfl rfl rfl rfl (L 1 rfl rfl) (by decide) ?_
     refine U.x rfl rfl rfl rfl (L 2 rfl rfl) (by decide) ?_
     refine U.x rfl rfl rfl rfl (L 3 rfl rfl) (by decide) ?_
     refine U.x rfl rfl rfl rfl (L 4 rfl rfl) (by decide) ?_
     refine U.x rfl rfl rfl rfl (L 5 rfl rfl) (by decide) ?_
     refine U.x rfl rfl rfl rfl (L 6 rfl rfl) (by decide) ?_
     refine U.x rfl rfl rfl rfl (L 7 rfl rfl) (by decide) ?_
     refine U.p rfl rfl (.inl rfl) (S.pickF rfl (L 8 rfl rfl) K) ?_
     refine U.p rfl rfl (.inl rfl) (S.move rfl (L 0 rfl rfl)) ?_
     refine U.x rfl rfl rfl rfl (L 0 rfl rfl) (by decide) ?_
     refine U.x rfl rfl rfl rfl (L 1 rfl rfl) (by decide) ?_
     refine U.x rfl rfl rfl rfl (L 2 rfl rfl) (by decide) ?_
     refine U.x rfl rfl rfl rfl (L 3 rfl rfl) (by decide) ?_
     refine U.x rfl rfl rfl rfl (L 4 rfl rfl) (by decide) ?_
     refine U.x rfl rfl rfl rfl (L 5 rfl rfl) (by decide) ?_
     refine U.x rfl rfl rfl rfl (L 6 rfl rfl) (by decide) ?_
     refine U.x rfl rfl rfl rfl (L 7 rfl rfl) (by decide) ?_
     refine U.x rfl rfl rfl rfl (L 8 rfl rfl) (by decide) ?_
     refine U.x rfl rfl rfl rfl (L 9 rfl rfl) (by decide) ?_
     refine U.p rfl rfl (.inl rfl) (S.pickF rfl (L 10 rfl rfl) K) ?_
     refine U.done (nr rfl) ?_
     refine sqN ?_
     have ow169 := ow35.pick 0 rfl
     have ow170 := ow169.pick 1 rfl
     have ow171 := ow170.pick 2 rfl
     have ow172 := ow171.pick 3 rfl
     exact ⟨_, V33, rfl, ⟨false, rfl, (.refl _), ow172, h168⟩, (allCons (L 53 rfl rfl) (allCons (L 51 rfl rfl) (allCons (L 50 rfl rfl) (allCons (L 43 rfl rfl) (allCons (L 0 rfl rfl) allNil)))))⟩
 ·intro kk
  refine bcase (b := decide (x15.op = 2)) (fun g173 => ?_) (fun g173 => ?_)
  ·skip
   refine U.p (v := .pointer (some ⟨b28, 1, none⟩)) rfl rfl (.inr ⟨_, _, _, rfl, rfl, ((L 0 rfl rfl).trans (cB g173))⟩) (S.fieldAddr rfl (L 4 rfl rfl) Try.underlying44 rfl ti3 rfl rfl) ?_
   refine U.k rfl rfl (.inr ⟨_, _, _, rfl, rfl, ((L 1 rfl rfl).trans (cB g173))⟩) (S.load rfl (L 0 rfl rfl) Try.underlying3 rfl ((ow35.own (k := 0) rfl).cell rfl)) nd ?_
   refine U.p (v := .pointer (some ⟨b28, 2, none⟩)) rfl rfl (.inr ⟨_, _, _, rfl, rfl, ((L 2 rfl rfl).trans (cB g173))⟩) (S.fieldAddr rfl (L 6 rfl rfl) Try.underlying44 rfl ti3 rfl rfl) ?_
   refine U.k rfl rfl (.inr ⟨_, _, _, rfl, rfl, ((L 3 rfl rfl).trans (cB g173))⟩) (S.load rfl (L 0 rfl rfl) Try.underlying3 rfl ((ow35.own (k := 0) rfl).cell rfl)) nd ?_
   refine U.p rfl rfl (.inr ⟨_, _, _, rfl, rfl, ((L 4 rfl rfl).trans (cB g173))⟩) (S.eqlI rfl (L 2 rfl rfl) (L 0 rfl rfl)) ?_
   refine U.p rfl rfl (.inl rfl) (S.pickT rfl ((L 5 rfl rfl).trans (cB g173)) (L 0 rfl rfl)) ?_
   exact kk [(22, .bool (decide (x15.d = x15.a))), (21, .bool (decide (x15.d = x15.a))), (20, .int .i64 x15.a), (19, .pointer (some ⟨b28, 2, none⟩)), (18, .int .i64 x15.d), (17, .pointer (some ⟨b28, 1, none⟩))] _ ⟨.bool (decide (x15.d = x15.a)), .int .i64 x15.a, .pointer (some ⟨b28, 2, none⟩), .int .i64 x15.d, .pointer (some ⟨b28, 1, none⟩), rfl, (by rw [g173, Bool.true_and])⟩
  ·skip
   refine U.x rfl rfl rfl rfl ((L 0 rfl rfl).trans (cB g173)) (by decide) ?_
   refine U.x rfl rfl rfl rfl ((L 1 rfl rfl).trans (cB g173)) (by decide) ?_
   refine U.x rfl rfl rfl rfl ((L 2 rfl rfl).trans (cB g173)) (by decide) ?_
   refine U.x rfl rfl rfl rfl ((L 3 rfl rfl).trans (cB g173)) (by decide) ?_
   refine U.x rfl rfl rfl rfl ((L 4 rfl rfl).trans (cB g173)) (by decide) ?_
   refine U.p rfl rfl (.inl rfl) (S.pickF rfl ((L 5 rfl rfl).trans (cB g173)) K) ?_
   exact kk [(22, .bool false), (21, .tuple #[]), (20, .tuple #[]), (19, .tuple #[]), (18, .tuple #[]), (17, .tuple #[])] _ ⟨.tuple #[], .tuple #[], .tuple #[], .tuple #[], .tuple #[], rfl, (by rw [g173, Bool.false_and])⟩
end Go.Vm.G11
