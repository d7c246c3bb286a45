/-
  What the functions compute is what the plain ones say, for all inputs at which those answer.
-/
import Derived.Test.YtdnnbobadopkeaaDoorEDG15w
import Derived.Test.YtdnnbobadopkeaaDoorProg
import Derived.Test.YtdnnbobadopkeaaDoorESG15w
set_option linter.unusedSimpArgs false
set_option linter.unusedVariables false
namespace Go.Vm.G15w
open Go Go.Proofs
set_option maxHeartbeats 4000000
set_option maxRecDepth 10000
theorem ti3 : tinfo Tryd.prog 3 (.int .i64 0) 1 8 := by unfold tinfo; kernel_rfl
theorem ti4 : tinfo Tryd.prog 4 (.bool false) 1 1 := by unfold tinfo; kernel_rfl
theorem ti5 : tinfo Tryd.prog 5 (.int .u8 0) 1 1 := by unfold tinfo; kernel_rfl
theorem ti9 : tinfo Tryd.prog 9 (.string ByteArray.empty) 1 16 := by unfold tinfo; kernel_rfl
theorem ti23 : tinfo Tryd.prog 23 (.slice none 0 0) 1 24 := by unfold tinfo; kernel_rfl
theorem ti24 : tinfo Tryd.prog 24 (.slice none 0 0) 1 24 := by unfold tinfo; kernel_rfl
theorem ti25 : tinfo Tryd.prog 25 (.slice none 0 0) 1 24 := by unfold tinfo; kernel_rfl
theorem ti27 : tinfo Tryd.prog 27 (.agg #[.slice none 0 0, .slice none 0 0, .slice none 0 0]) 3 72 := by unfold tinfo; kernel_rfl
theorem ti39 : tinfo Tryd.prog 39 (.int .u32 0) 1 4 := by unfold tinfo; kernel_rfl
theorem ti42 : tinfo Tryd.prog 42 (.agg #[.int .i64 0, .int .i64 0, .bool false, .bool false]) 4 24 := by unfold tinfo; kernel_rfl
theorem ti50 : tinfo Tryd.prog 50 (.agg #[.int .i64 0, .int .i64 0, .int .i64 0, .int .i64 0, .int .i64 0]) 5 40 := by unfold tinfo; kernel_rfl
theorem ti59 : tinfo Tryd.prog 59 (.agg #[.pointer none, .slice none 0 0]) 2 32 := by unfold tinfo; kernel_rfl
theorem ti66 : tinfo Tryd.prog 66 (.agg #[.string ByteArray.empty, .string ByteArray.empty, .string ByteArray.empty, .string ByteArray.empty, .string ByteArray.empty, .string ByteArray.empty, .string ByteArray.empty]) 7 112 := by unfold tinfo; kernel_rfl
theorem ti70 : tinfo Tryd.prog 70 (.agg #[.string ByteArray.empty, .bool false, .bool false, .bool false, .int .i64 0, .int .u32 0]) 6 40 := by unfold tinfo; kernel_rfl
theorem ti81 : tinfo Tryd.prog 81 (.agg #[.string ByteArray.empty, .string ByteArray.empty, .int .u32 0]) 3 40 := by unfold tinfo; kernel_rfl
theorem ti87 : tinfo Tryd.prog 87 (.agg #[.string ByteArray.empty, .string ByteArray.empty, .string ByteArray.empty, .string ByteArray.empty, .string ByteArray.empty, .string ByteArray.empty]) 6 96 := by unfold tinfo; kernel_rfl
theorem ti88 : tinfo Tryd.prog 88 (.agg #[.int .i64 0, .int .i64 0, .int .i64 0]) 3 24 := by unfold tinfo; kernel_rfl
theorem ti89 : tinfo Tryd.prog 89 (.agg #[.bool false, .bool false, .bool false]) 3 3 := by unfold tinfo; kernel_rfl
theorem pl27 : placesAre Tryd.prog 27 #[(0, 1), (1, 1), (2, 1)] := ⟨_, Tryd.underlying27, by kernel_rfl⟩
theorem pl42 : placesAre Tryd.prog 42 #[(0, 1), (1, 1), (2, 1), (3, 1)] := ⟨_, Tryd.underlying42, by kernel_rfl⟩
theorem pl50 : placesAre Tryd.prog 50 #[(0, 1), (1, 1), (2, 1), (3, 1), (4, 1)] := ⟨_, Tryd.underlying50, by kernel_rfl⟩
theorem pl70 : placesAre Tryd.prog 70 #[(0, 1), (1, 1), (2, 1), (3, 1), (4, 1), (5, 1)] := ⟨_, Tryd.underlying70, by kernel_rfl⟩
theorem en6 : enterable Tryd.prog 6 := ⟨Tryd.f6, Tryd.func6, by kernel_rfl, Z⟩
theorem en7 : enterable Tryd.prog 7 := ⟨Tryd.f7, Tryd.func7, by kernel_rfl, Z⟩
theorem en9 : enterable Tryd.prog 9 := ⟨Tryd.f9, Tryd.func9, by kernel_rfl, Z⟩
theorem en10 : enterable Tryd.prog 10 := ⟨Tryd.f10, Tryd.func10, by kernel_rfl, Z⟩
theorem en11 : enterable Tryd.prog 11 := ⟨Tryd.f11, Tryd.func11, by kernel_rfl, Z⟩
theorem en12 : enterable Tryd.prog 12 := ⟨Tryd.f12, Tryd.func12, by kernel_rfl, Z⟩
theorem en13 : enterable Tryd.prog 13 := ⟨Tryd.f13, Tryd.func13, by kernel_rfl, Z⟩
theorem en14 : enterable Tryd.prog 14 := ⟨Tryd.f14, Tryd.func14, by kernel_rfl, Z⟩
theorem en15 : enterable Tryd.prog 15 := ⟨Tryd.f15, Tryd.func15, by kernel_rfl, Z⟩
theorem en16 : enterable Tryd.prog 16 := ⟨Tryd.f16, Tryd.func16, by kernel_rfl, Z⟩
theorem en17 : enterable Tryd.prog 17 := ⟨Tryd.f17, Tryd.func17, by kernel_rfl, Z⟩
theorem en18 : enterable Tryd.prog 18 := ⟨Tryd.f18, Tryd.func18, by kernel_rfl, Z⟩
theorem en20 : enterable Tryd.prog 20 := ⟨Tryd.f20, Tryd.func20, by kernel_rfl, Z⟩
theorem en21 : enterable Tryd.prog 21 := ⟨Tryd.f21, Tryd.func21, by kernel_rfl, Z⟩
theorem en22 : enterable Tryd.prog 22 := ⟨Tryd.f22, Tryd.func22, by kernel_rfl, Z⟩
theorem en23 : enterable Tryd.prog 23 := ⟨Tryd.f23, Tryd.func23, by kernel_rfl, Z⟩
theorem en24 : enterable Tryd.prog 24 := ⟨Tryd.f24, Tryd.func24, by kernel_rfl, Z⟩
theorem en25 : enterable Tryd.prog 25 := ⟨Tryd.f25, Tryd.func25, by kernel_rfl, Z⟩
theorem en26 : enterable Tryd.prog 26 := ⟨Tryd.f26, Tryd.func26, by kernel_rfl, Z⟩
theorem en27 : enterable Tryd.prog 27 := ⟨Tryd.f27, Tryd.func27, by kernel_rfl, Z⟩
theorem en28 : enterable Tryd.prog 28 := ⟨Tryd.f28, Tryd.func28, by kernel_rfl, Z⟩
theorem en29 : enterable Tryd.prog 29 := ⟨Tryd.f29, Tryd.func29, by kernel_rfl, Z⟩
theorem en30 : enterable Tryd.prog 30 := ⟨Tryd.f30, Tryd.func30, by kernel_rfl, Z⟩
theorem en31 : enterable Tryd.prog 31 := ⟨Tryd.f31, Tryd.func31, by kernel_rfl, Z⟩
theorem en32 : enterable Tryd.prog 32 := ⟨Tryd.f32, Tryd.func32, by kernel_rfl, Z⟩
theorem en33 : enterable Tryd.prog 33 := ⟨Tryd.f33, Tryd.func33, by kernel_rfl, Z⟩
theorem en34 : enterable Tryd.prog 34 := ⟨Tryd.f34, Tryd.func34, by kernel_rfl, Z⟩
theorem en35 : enterable Tryd.prog 35 := ⟨Tryd.f35, Tryd.func35, by kernel_rfl, Z⟩
theorem en36 : enterable Tryd.prog 36 := ⟨Tryd.f36, Tryd.func36, by kernel_rfl, Z⟩
theorem en37 : enterable Tryd.prog 37 := ⟨Tryd.f37, Tryd.func37, by kernel_rfl, Z⟩
theorem en38 : enterable Tryd.prog 38 := ⟨Tryd.f38, Tryd.func38, by kernel_rfl, Z⟩
theorem en41 : enterable Tryd.prog 41 := ⟨Tryd.f41, Tryd.func41, by kernel_rfl, Z⟩
theorem en42 : enterable Tryd.prog 42 := ⟨Tryd.f42, Tryd.func42, by kernel_rfl, Z⟩
theorem en43 : enterable Tryd.prog 43 := ⟨Tryd.f43, Tryd.func43, by kernel_rfl, Z⟩
theorem en44 : enterable Tryd.prog 44 := ⟨Tryd.f44, Tryd.func44, by kernel_rfl, Z⟩
theorem en45 : enterable Tryd.prog 45 := ⟨Tryd.f45, Tryd.func45, by kernel_rfl, Z⟩
theorem en46 : enterable Tryd.prog 46 := ⟨Tryd.f46, Tryd.func46, by kernel_rfl, Z⟩
theorem en47 : enterable Tryd.prog 47 := ⟨Tryd.f47, Tryd.func47, by kernel_rfl, Z⟩
theorem en48 : enterable Tryd.prog 48 := ⟨Tryd.f48, Tryd.func48, by kernel_rfl, Z⟩
theorem en49 : enterable Tryd.prog 49 := ⟨Tryd.f49, Tryd.func49, by kernel_rfl, Z⟩
theorem en50 : enterable Tryd.prog 50 := ⟨Tryd.f50, Tryd.func50, by kernel_rfl, Z⟩
theorem en51 : enterable Tryd.prog 51 := ⟨Tryd.f51, Tryd.func51, by kernel_rfl, Z⟩
theorem en52 : enterable Tryd.prog 52 := ⟨Tryd.f52, Tryd.func52, by kernel_rfl, Z⟩
theorem en53 : enterable Tryd.prog 53 := ⟨Tryd.f53, Tryd.func53, by kernel_rfl, Z⟩
theorem en54 : enterable Tryd.prog 54 := ⟨Tryd.f54, Tryd.func54, by kernel_rfl, Z⟩
theorem en57 : enterable Tryd.prog 57 := ⟨Tryd.f57, Tryd.func57, by kernel_rfl, Z⟩
theorem en62 : enterable Tryd.prog 62 := ⟨Tryd.f62, Tryd.func62, by kernel_rfl, Z⟩
theorem en63 : enterable Tryd.prog 63 := ⟨Tryd.f63, Tryd.func63, by kernel_rfl, Z⟩
theorem en64 : enterable Tryd.prog 64 := ⟨Tryd.f64, Tryd.func64, by kernel_rfl, Z⟩
theorem en65 : enterable Tryd.prog 65 := ⟨Tryd.f65, Tryd.func65, by kernel_rfl, Z⟩
theorem wk_image_number (V : Vw) (Rs : List At) (gl : Glb V) (p0 : ByteArray) (ow : Ow V (Rs)) (r : Int) (h : image_number p0 = some r) : ∃ v V', Cl Tryd.prog NG 17 #[.string p0] V.H v V'.H ∧ V.le V' ∧ (v = .int .i64 r ∧ Ow V' (Rs)) := by
 refine Ct.of gl.lo Tryd.func17 Z (nr Z) ?_
 unfold image_number at h
 refine WP.usreg Z ?_
 refine U.p Z Z (.inl Z) (S.assign Z K) ?_
 refine U.done (nr Z) ?_
 refine WP.usdreg Z Z Z ?_
 refine U.p Z Z (.inl Z) (S.move Z (L 1 Z Z)) ?_
 obtain ⟨x1, hx2, h3⟩ := bindS h
 refine U.p Z Z (.inl Z) (S.indexS hx2 Z (L 0 Z Z) K Tryd.underlying9) ?_
 refine U.p Z Z (.inl Z) (S.conv Z (L 0 Z Z) Tryd.underlying5 Tryd.underlying3) ?_
 obtain ⟨x4, hx5, h6⟩ := bindS h3
 refine U.p Z Z (.inl Z) (S.shl hx5 Z (L 0 Z Z) K) ?_
 refine U.p Z Z (.inl Z) (S.move Z (L 5 Z Z)) ?_
 obtain ⟨x7, hx8, h9⟩ := bindS h6
 refine U.p Z Z (.inl Z) (S.indexS hx8 Z (L 0 Z Z) K Tryd.underlying9) ?_
 refine U.p Z Z (.inl Z) (S.conv Z (L 0 Z Z) Tryd.underlying5 Tryd.underlying3) ?_
 obtain ⟨x10, hx11, h12⟩ := bindS h9
 refine U.p Z Z (.inl Z) (S.shl hx11 Z (L 0 Z Z) K) ?_
 refine U.p Z Z (.inl Z) (S.orI Z (L 4 Z Z) (L 0 Z Z)) ?_
 refine U.p Z Z (.inl Z) (S.move Z (L 10 Z Z)) ?_
 obtain ⟨x13, hx14, h15⟩ := bindS h12
 refine U.p Z Z (.inl Z) (S.indexS hx14 Z (L 0 Z Z) K Tryd.underlying9) ?_
 refine U.p Z Z (.inl Z) (S.conv Z (L 0 Z Z) Tryd.underlying5 Tryd.underlying3) ?_
 obtain ⟨x16, hx17, h18⟩ := bindS h15
 refine U.p Z Z (.inl Z) (S.shl hx17 Z (L 0 Z Z) K) ?_
 refine U.p Z Z (.inl Z) (S.orI Z (L 4 Z Z) (L 0 Z Z)) ?_
 refine U.p Z Z (.inl Z) (S.move Z (L 15 Z Z)) ?_
 obtain ⟨x19, hx20, h21⟩ := bindS h18
 refine U.p Z Z (.inl Z) (S.indexS hx20 Z (L 0 Z Z) K Tryd.underlying9) ?_
 refine U.p Z Z (.inl Z) (S.conv Z (L 0 Z Z) Tryd.underlying5 Tryd.underlying3) ?_
 refine U.p Z Z (.inl Z) (S.orI Z (L 3 Z Z) (L 0 Z Z)) ?_
 refine U.p Z Z (.inl Z) (S.assign Z (L 0 Z Z)) ?_
 refine U.done (nr Z) ?_
 refine WP.ret ?_
 refine fin.slot (.inr Z) Z (L 0 Z Z) ⟨V, Z, (.refl _), ?_⟩
 have e22 := Option.some.inj h21
 subst e22
 exact ⟨rfl, ow⟩
theorem wk_image_good (V : Vw) (Rs : List At) (gl : Glb V) (p0 : TNote) (ow : Ow V (Rs)) (r : Bool) (h : image_good p0 = some r) : ∃ v V', Cl Tryd.prog NG 24 #[.agg #[.int .i64 p0.role, .int .i64 p0.what, .bool p0.volatile, .bool p0.final]] V.H v V'.H ∧ V.le V' ∧ (v = .bool r ∧ Ow V' (Rs)) := by
 refine Ct.of gl.lo Tryd.func24 Z (nr Z) ?_
 unfold image_good at h
 refine WP.usreg Z ?_
 refine O.box ow Z Z (.inl Z) Z (L 0 Z Z) (by simp [topV]) Z nd (fun b1 V2 le3 ow4 => ?_)
 refine U.p Z Z (.inl Z) (S.assign Z K) ?_
 refine U.done (nr Z) ?_
 refine WP.seq ?_
 refine WP.usreg Z ?_
 refine U.p (v := .pointer (some ⟨b1, 0, none⟩)) Z Z (.inl Z) (S.fieldAddr Z (L 1 Z Z) Tryd.underlying42 Z ti3 Z Z) ?_
 refine U.k Z Z (.inl Z) (S.load Z (L 0 Z Z) Tryd.underlying3 Z ((ow4.own (k := 0) Z).cell Z)) nd ?_
 refine U.p Z Z (.inl Z) (S.lss Z (L 0 Z Z) K) ?_
 refine U.p Z Z (.inl Z) (S.move Z (L 0 Z Z)) ?_
 refine U.joinX 8 (fun e H => ∃ (u6 u7 u8 : Value), H = V2.H ∧ e = [(10, .bool ((decide (p0.role < 0)) || (decide (6 < p0.role)))), (9, u6), (8, u7), (7, u8)]) ?_ ?_
 ·rintro _ _ ⟨u6, u7, u8, rfl, rfl⟩
  refine U.done (nr Z) ?_
  refine WP.cond _ (L 0 Z Z) Z (fun c12 => ?_) (fun c12 => ?_)
  ·have h13 := ifT c12 h
   refine WP.usreg Z ?_
   refine U.p Z Z (.inl Z) (S.assign Z K) ?_
   refine U.done (nr Z) ?_
   refine WP.ret ?_
   refine sqR ?_
   refine fin.slot (.inr Z) Z (L 0 Z Z) ⟨V2, Z, le3, ?_⟩
   have ow14 := ow4.drop 0 Z
   have e15 := Option.some.inj h13
   subst e15
   exact ⟨rfl, ow14⟩
  ·have h16 := ifF c12 h
   refine WP.skip ?_
   refine sqN ?_
   refine WP.seq ?_
   refine WP.usreg Z ?_
   refine U.p (v := .pointer (some ⟨b1, 0, none⟩)) Z Z (.inl Z) (S.fieldAddr Z (L 9 Z Z) Tryd.underlying42 Z ti3 Z Z) ?_
   refine U.k Z Z (.inl Z) (S.load Z (L 0 Z Z) Tryd.underlying3 Z ((ow4.own (k := 0) Z).cell Z)) nd ?_
   refine U.p Z Z (.inl Z) (S.eqlI Z (L 0 Z Z) K) ?_
   refine U.done (nr Z) ?_
   refine WP.cond _ (L 0 Z Z) Z (fun c17 => ?_) (fun c17 => ?_)
   ·have h18 := ifT c17 h16
    refine WP.usreg Z ?_
    refine U.p (v := .pointer (some ⟨b1, 1, none⟩)) Z Z (.inl Z) (S.fieldAddr Z (L 12 Z Z) Tryd.underlying42 Z ti3 Z Z) ?_
    refine U.k Z Z (.inl Z) (S.load Z (L 0 Z Z) Tryd.underlying3 Z ((ow4.own (k := 0) Z).cell Z)) nd ?_
    refine U.p Z Z (.inl Z) (S.geq Z (L 0 Z Z) K) ?_
    refine U.p Z Z (.inl Z) (S.move Z (L 0 Z Z)) ?_
    refine U.joinX 8 (fun e H => ∃ (u19 u20 u21 : Value), H = V2.H ∧ e = [(21, .bool ((decide (1 ≤ p0.what)) && (decide (p0.what ≤ 5)))), (20, u19), (19, u20), (18, u21)]) ?_ ?_
    ·rintro _ _ ⟨u19, u20, u21, rfl, rfl⟩
     refine U.p Z Z (.inl Z) (S.assign Z (L 0 Z Z)) ?_
     refine U.done (nr Z) ?_
     refine WP.ret ?_
     refine sqR ?_
     refine fin.slot (.inr Z) Z (L 0 Z Z) ⟨V2, Z, le3, ?_⟩
     have ow25 := ow4.drop 0 Z
     have e26 := Option.some.inj h18
     subst e26
     exact ⟨rfl, ow25⟩
    ·intro kk
     refine bcase (b := decide (1 ≤ p0.what)) (fun g27 => ?_) (fun g27 => ?_)
     ·skip
      refine U.p (v := .pointer (some ⟨b1, 1, none⟩)) Z Z (.inr ⟨_, _, _, Z, Z, ((L 0 Z Z).trans (cB g27))⟩) (S.fieldAddr Z (L 16 Z Z) Tryd.underlying42 Z ti3 Z Z) ?_
      refine U.k Z Z (.inr ⟨_, _, _, Z, Z, ((L 1 Z Z).trans (cB g27))⟩) (S.load Z (L 0 Z Z) Tryd.underlying3 Z ((ow4.own (k := 0) Z).cell Z)) nd ?_
      refine U.p Z Z (.inr ⟨_, _, _, Z, Z, ((L 2 Z Z).trans (cB g27))⟩) (S.leq Z (L 0 Z Z) K) ?_
      refine U.p Z Z (.inl Z) (S.pickT Z ((L 3 Z Z).trans (cB g27)) (L 0 Z Z)) ?_
      exact kk [(21, .bool (decide (p0.what ≤ 5))), (20, .bool (decide (p0.what ≤ 5))), (19, .int .i64 p0.what), (18, .pointer (some ⟨b1, 1, none⟩))] _ ⟨.bool (decide (p0.what ≤ 5)), .int .i64 p0.what, .pointer (some ⟨b1, 1, none⟩), Z, (by rw [g27, Bool.true_and])⟩
     ·skip
      refine U.x Z Z Z Z ((L 0 Z Z).trans (cB g27)) (by decide) ?_
      refine U.x Z Z Z Z ((L 1 Z Z).trans (cB g27)) (by decide) ?_
      refine U.x Z Z Z Z ((L 2 Z Z).trans (cB g27)) (by decide) ?_
      refine U.p Z Z (.inl Z) (S.pickF Z ((L 3 Z Z).trans (cB g27)) K) ?_
      exact kk [(21, .bool false), (20, .tuple #[]), (19, .tuple #[]), (18, .tuple #[])] _ ⟨.tuple #[], .tuple #[], .tuple #[], Z, (by rw [g27, Bool.false_and])⟩
   ·have h28 := ifF c17 h16
    refine WP.skip ?_
    refine sqN ?_
    refine WP.usreg Z ?_
    refine U.k Z Z (.inl Z) (S.loadB Z (L 12 Z Z) Tryd.underlying42 Z ti42 (ow4.own (k := 0) Z).get Z) nd ?_
    refine U.p (v := .pointer (some ⟨b1, 0, none⟩)) Z Z (.inl Z) (S.fieldAddr Z (L 13 Z Z) Tryd.underlying42 Z ti3 Z Z) ?_
    refine U.k Z Z (.inl Z) (S.load Z (L 0 Z Z) Tryd.underlying3 Z ((ow4.own (k := 0) Z).cell Z)) nd ?_
    refine U.p (v := .agg #[.int .i64 p0.role, .int .i64 0, .bool false, .bool false]) Z Z (.inl Z) (S.build (vs := [.int .i64 p0.role]) Z ti42 Z pl42 (aC (L 0 Z Z) aN) (allC (by simp [topV]) allN) Z) ?_
    refine U.p Z Z (.inl Z) (S.eqlT (flA (flC (.int _ _) (flC (.int _ _) (flC (.bool _) (flC (.bool _) flN))))) (flA (flC (.int _ _) (flC (.int _ _) (flC (.bool _) (flC (.bool _) flN))))) Z (L 3 Z Z) (L 0 Z Z) Tryd.underlying42 (by kernel_rfl) (by kernel_rfl) (.cons _ _ _ _ _ _ (by decide) (part_cell Tryd.underlying3 Z Z) (part_cell Tryd.underlying3 Z Z) (eqIn_int Tryd.underlying3 9998) (.cons _ _ _ _ _ _ (by decide) (part_cell Tryd.underlying3 Z Z) (part_cell Tryd.underlying3 Z Z) (eqIn_int Tryd.underlying3 9998) (.cons _ _ _ _ _ _ (by decide) (part_cell Tryd.underlying4 Z Z) (part_cell Tryd.underlying4 Z Z) (eqIn_b Tryd.underlying4 9998) (.cons _ _ _ _ _ _ (by decide) (part_cell Tryd.underlying4 Z Z) (part_cell Tryd.underlying4 Z Z) (eqIn_b Tryd.underlying4 9998) .nil))))) ?_
    refine U.p Z Z (.inl Z) (S.assign Z (L 0 Z Z)) ?_
    refine U.done (nr Z) ?_
    refine WP.ret ?_
    refine fin.slot (.inr Z) Z (L 0 Z Z) ⟨V2, Z, le3, ?_⟩
    have ow29 := ow4.drop 0 Z
    have e30 := Option.some.inj h28
    subst e30
    exact ⟨rfl, ow29⟩
 ·intro kk
  refine bcase (b := decide (p0.role < 0)) (fun g31 => ?_) (fun g31 => ?_)
  ·skip
   refine U.x Z Z Z Z ((L 0 Z Z).trans (cB g31)) (by decide) ?_
   refine U.x Z Z Z Z ((L 1 Z Z).trans (cB g31)) (by decide) ?_
   refine U.x Z Z Z Z ((L 2 Z Z).trans (cB g31)) (by decide) ?_
   refine U.p Z Z (.inl Z) (S.pickT Z ((L 3 Z Z).trans (cB g31)) K) ?_
   exact kk [(10, .bool true), (9, .tuple #[]), (8, .tuple #[]), (7, .tuple #[])] _ ⟨.tuple #[], .tuple #[], .tuple #[], Z, (by rw [g31, Bool.true_or])⟩
  ·skip
   refine U.p (v := .pointer (some ⟨b1, 0, none⟩)) Z Z (.inr ⟨_, _, _, Z, Z, ((L 0 Z Z).trans (cB g31))⟩) (S.fieldAddr Z (L 5 Z Z) Tryd.underlying42 Z ti3 Z Z) ?_
   refine U.k Z Z (.inr ⟨_, _, _, Z, Z, ((L 1 Z Z).trans (cB g31))⟩) (S.load Z (L 0 Z Z) Tryd.underlying3 Z ((ow4.own (k := 0) Z).cell Z)) nd ?_
   refine U.p Z Z (.inr ⟨_, _, _, Z, Z, ((L 2 Z Z).trans (cB g31))⟩) (S.gtr Z (L 0 Z Z) K) ?_
   refine U.p Z Z (.inl Z) (S.pickF Z ((L 3 Z Z).trans (cB g31)) (L 0 Z Z)) ?_
   exact kk [(10, .bool (decide (6 < p0.role))), (9, .bool (decide (6 < p0.role))), (8, .int .i64 p0.role), (7, .pointer (some ⟨b1, 0, none⟩))] _ ⟨.bool (decide (6 < p0.role)), .int .i64 p0.role, .pointer (some ⟨b1, 0, none⟩), Z, (by rw [g31, Bool.false_or])⟩
theorem wk_image_readNote (V : Vw) (Rs : List At) (gl : Glb V) (p0 : Int) (ow : Ow V (Rs)) (r : TNote × Bool) (h : image_readNote p0 = some r) : ∃ v V', Cl Tryd.prog NG 18 #[.int .u8 p0] V.H v V'.H ∧ V.le V' ∧ (v = .tuple #[.agg #[.int .i64 r.1.role, .int .i64 r.1.what, .bool r.1.volatile, .bool r.1.final], .bool r.2] ∧ Ow V' (Rs)) := by
 refine Ct.of gl.lo Tryd.func18 Z (nr Z) ?_
 unfold image_readNote at h
 refine WP.usreg Z ?_
 refine O.alloc ow Z Z (.inl Z) Z ti42 Z Z nd (fun b1 V2 le3 ow4 => ?_)
 refine U.p Z Z (.inl Z) (S.assign Z K) ?_
 refine U.done (nr Z) ?_
 refine WP.usreg Z ?_
 refine U.p Z Z (.inl Z) (S.move Z (L 2 Z Z)) ?_
 refine U.p Z Z (.inl Z) (S.andI Z (L 0 Z Z) K) ?_
 refine U.p Z Z (.inl Z) (S.conv Z (L 0 Z Z) Tryd.underlying5 Tryd.underlying3) ?_
 refine U.p Z Z (.inl Z) (S.move Z (L 5 Z Z)) ?_
 obtain ⟨x6, hx7, h8⟩ := bindS h
 refine U.p Z Z (.inl Z) (S.shr hx7 Z (L 0 Z Z) K) ?_
 refine U.p Z Z (.inl Z) (S.andI Z (L 0 Z Z) K) ?_
 refine U.p Z Z (.inl Z) (S.conv Z (L 0 Z Z) Tryd.underlying5 Tryd.underlying3) ?_
 refine U.p Z Z (.inl Z) (S.move Z (L 9 Z Z)) ?_
 refine U.p Z Z (.inl Z) (S.andI Z (L 0 Z Z) K) ?_
 refine U.p Z Z (.inl Z) (S.neqI Z (L 0 Z Z) K) ?_
 refine U.p Z Z (.inl Z) (S.move Z (L 12 Z Z)) ?_
 refine U.p Z Z (.inl Z) (S.andI Z (L 0 Z Z) K) ?_
 refine U.p Z Z (.inl Z) (S.neqI Z (L 0 Z Z) K) ?_
 refine U.p (v := .agg #[.int .i64 (w64 (andB .u8 p0 7)), .int .i64 (w64 (andB .u8 x6 7)), .bool (decide ((andB .u8 p0 64) ≠ 0)), .bool (decide ((andB .u8 p0 128) ≠ 0))]) Z Z (.inl Z) (S.build (vs := [.int .i64 (w64 (andB .u8 p0 7)), .int .i64 (w64 (andB .u8 x6 7)), .bool (decide ((andB .u8 p0 64) ≠ 0)), .bool (decide ((andB .u8 p0 128) ≠ 0))]) Z ti42 Z pl42 (aC (L 10 Z Z) (aC (L 6 Z Z) (aC (L 3 Z Z) (aC (L 0 Z Z) aN)))) (allC (by simp [topV]) (allC (by simp [topV]) (allC (by simp [topV]) (allC (by simp [topV]) allN)))) Z) ?_
 refine O.alloc ow4 Z Z (.inl Z) Z ti42 Z Z nd (fun b9 V10 le11 ow12 => ?_)
 refine O.store (k := 0) (cs := [.int .i64 (w64 (andB .u8 p0 7)), .int .i64 (w64 (andB .u8 x6 7)), .bool (decide ((andB .u8 p0 64) ≠ 0)), .bool (decide ((andB .u8 p0 128) ≠ 0))]) (c' := [.int .i64 (w64 (andB .u8 p0 7)), .int .i64 (w64 (andB .u8 x6 7)), .bool (decide ((andB .u8 p0 64) ≠ 0)), .bool (decide ((andB .u8 p0 128) ≠ 0))]) ow12 Z Z Z (.inl Z) Z (L 0 Z Z) (L 1 Z Z) ti42 (by simp [topV]) Z Z (nr Z) Z Z nd (fun V14 le15 ow16 => ?_)
 refine U.done (nr Z) ?_
 refine WP.usdreg Z Z Z ?_
 refine U.k Z Z (.inl Z) (S.loadB Z (L 0 Z Z) Tryd.underlying42 Z ti42 (ow16.own (k := 0) Z).get Z) (fun _ => (okH.nil (fun r h => by cases h; exact (ow16.own (k := 0) Z).lt))) ?_
 refine U.k Z Z (.inl Z) (S.loadB Z (L 1 Z Z) Tryd.underlying42 Z ti42 (ow16.own (k := 0) Z).get Z) (fun _ => (okH.cons trivial (okH.nil (fun r h => by cases h; exact (ow16.own (k := 0) Z).lt)))) ?_
 obtain ⟨x17, hx18, h19⟩ := bindS h8
 refine O.call (V := V14) Z Z (.inl Z) Z en24 (aC (L 0 Z Z) aN) (wk_image_good V14 _ (gl.up ((le3.trans le11).trans le15)) (⟨w64 (andB .u8 p0 7), w64 (andB .u8 x6 7), decide ((andB .u8 p0 64) ≠ 0), decide ((andB .u8 p0 128) ≠ 0)⟩ : TNote) ow16 _ hx18) (fun v20 V21 le22 hp23 => by obtain ⟨rfl, ow24⟩ := hp23; exact (fun _ => (okH.cons (Or.inl Z) (okH.cons (Or.inr (((ow24.own (k := 0) Z).get.trans (ow16.own (k := 0) Z).get.symm))) (okH.nil (fun r h => nomatch h)))))) (fun v20 V21 le22 hp23 => ?_)
 obtain ⟨rfl, ow24⟩ := hp23
 refine O.store (k := 1) (cs := [.int .i64 (w64 (andB .u8 p0 7)), .int .i64 (w64 (andB .u8 x6 7)), .bool (decide ((andB .u8 p0 64) ≠ 0)), .bool (decide ((andB .u8 p0 128) ≠ 0))]) (c' := [.int .i64 (w64 (andB .u8 p0 7)), .int .i64 (w64 (andB .u8 x6 7)), .bool (decide ((andB .u8 p0 64) ≠ 0)), .bool (decide ((andB .u8 p0 128) ≠ 0))]) ow24 Z Z Z (.inl Z) Z (L 19 Z Z) (L 2 Z Z) ti42 (by simp [topV]) Z Z (nr Z) Z Z (fun _ => (okH.cons Z (okH.cons (Or.inl Z) (okH.cons (Or.inl Z) (okH.nil (fun r h => nomatch h)))))) (fun V25 le26 ow27 => ?_)
 refine U.p Z Z (.inl Z) (S.assign Z (L 0 Z Z)) ?_
 refine U.done (nr Z) ?_
 refine WP.ret ?_
 refine fin.mix (.inr Z) (resA (L 20 Z Z) Tryd.underlying42 Z ti42 (ow27.own (k := 1) Z).get Z (resT (L 0 Z Z) res0)) Z ⟨V25, Z, ((((le3.trans le11).trans le15).trans le22).trans le26), ?_⟩
 have ow28 := ow27.drop 0 Z
 have ow29 := ow28.drop 0 Z
 have e30 := Option.some.inj h19
 subst e30
 exact ⟨rfl, ow29⟩
theorem wk_word_good (V : Vw) (Rs : List At) (gl : Glb V) (p0 : Int) (p1 : Int) (ow : Ow V (Rs)) (r : Bool) (h : word_good p0 p1 = some r) : ∃ v V', Cl Tryd.prog NG 62 #[.int .i64 p0, .int .i64 p1] V.H v V'.H ∧ V.le V' ∧ (v = .bool r ∧ Ow V' (Rs)) := by
 refine Ct.of gl.lo Tryd.func62 Z (nr Z) ?_
 unfold word_good at h
 refine WP.usreg Z ?_
 refine U.p Z Z (.inl Z) (S.assign Z K) ?_
 refine U.done (nr Z) ?_
 refine WP.usreg Z ?_
 refine U.p Z Z (.inl Z) (S.move Z (L 1 Z Z)) ?_
 refine U.p Z Z (.inl Z) (S.geq Z (L 0 Z Z) K) ?_
 refine U.p Z Z (.inl Z) (S.move Z (L 0 Z Z)) ?_
 refine U.joinX 6 (fun e H => ∃ (u1 u2 : Value), H = V.H ∧ e = [(10, .bool ((decide (0 ≤ p0)) && (decide (0 ≤ p1)))), (9, u1), (8, u2)]) ?_ ?_
 ·rintro _ _ ⟨u1, u2, rfl, rfl⟩
  refine U.p Z Z (.inl Z) (S.move Z (L 0 Z Z)) ?_
  refine U.joinX 10 (fun e H => ∃ (u6 u7 : Value), H = V.H ∧ e = [(14, .bool (((decide (0 ≤ p0)) && (decide (0 ≤ p1))) && (decide (p0 ≤ 32)))), (13, u6), (12, u7)]) ?_ ?_
  ·rintro _ _ ⟨u6, u7, rfl, rfl⟩
   refine U.p Z Z (.inl Z) (S.move Z (L 0 Z Z)) ?_
   refine U.joinX 16 (fun e H => ∃ (u11 u12 u13 u14 : Value), H = V.H ∧ e = [(20, .bool ((((decide (0 ≤ p0)) && (decide (0 ≤ p1))) && (decide (p0 ≤ 32))) && (decide (p1 ≤ (w64 (32 - p0)))))), (19, u11), (18, u12), (17, u13), (16, u14)]) ?_ ?_
   ·rintro _ _ ⟨u11, u12, u13, u14, rfl, rfl⟩
    refine U.p Z Z (.inl Z) (S.assign Z (L 0 Z Z)) ?_
    refine U.done (nr Z) ?_
    refine WP.ret ?_
    refine fin.slot (.inr Z) Z (L 0 Z Z) ⟨V, Z, (.refl _), ?_⟩
    have e18 := Option.some.inj h
    subst e18
    exact ⟨rfl, ow⟩
   ·intro kk
    refine bcase (b := ((decide (0 ≤ p0)) && (decide (0 ≤ p1))) && (decide (p0 ≤ 32))) (fun g19 => ?_) (fun g19 => ?_)
    ·skip
     refine U.p Z Z (.inr ⟨_, _, _, Z, Z, ((L 0 Z Z).trans (cB g19))⟩) (S.move Z (L 13 Z Z)) ?_
     refine U.p Z Z (.inr ⟨_, _, _, Z, Z, ((L 1 Z Z).trans (cB g19))⟩) (S.move Z (L 13 Z Z)) ?_
     refine U.p Z Z (.inr ⟨_, _, _, Z, Z, ((L 2 Z Z).trans (cB g19))⟩) (S.sub Z K (L 0 Z Z)) ?_
     refine U.p Z Z (.inr ⟨_, _, _, Z, Z, ((L 3 Z Z).trans (cB g19))⟩) (S.leq Z (L 2 Z Z) (L 0 Z Z)) ?_
     refine U.p Z Z (.inl Z) (S.pickT Z ((L 4 Z Z).trans (cB g19)) (L 0 Z Z)) ?_
     exact kk [(20, .bool (decide (p1 ≤ (w64 (32 - p0))))), (19, .bool (decide (p1 ≤ (w64 (32 - p0))))), (18, .int .i64 (w64 (32 - p0))), (17, .int .i64 p0), (16, .int .i64 p1)] _ ⟨.bool (decide (p1 ≤ (w64 (32 - p0)))), .int .i64 (w64 (32 - p0)), .int .i64 p0, .int .i64 p1, Z, (by rw [g19, Bool.true_and])⟩
    ·skip
     refine U.x Z Z Z Z ((L 0 Z Z).trans (cB g19)) (by decide) ?_
     refine U.x Z Z Z Z ((L 1 Z Z).trans (cB g19)) (by decide) ?_
     refine U.x Z Z Z Z ((L 2 Z Z).trans (cB g19)) (by decide) ?_
     refine U.x Z Z Z Z ((L 3 Z Z).trans (cB g19)) (by decide) ?_
     refine U.p Z Z (.inl Z) (S.pickF Z ((L 4 Z Z).trans (cB g19)) K) ?_
     exact kk [(20, .bool false), (19, .tuple #[]), (18, .tuple #[]), (17, .tuple #[]), (16, .tuple #[])] _ ⟨.tuple #[], .tuple #[], .tuple #[], .tuple #[], Z, (by rw [g19, Bool.false_and])⟩
  ·intro kk
   refine bcase (b := (decide (0 ≤ p0)) && (decide (0 ≤ p1))) (fun g20 => ?_) (fun g20 => ?_)
   ·skip
    refine U.p Z Z (.inr ⟨_, _, _, Z, Z, ((L 0 Z Z).trans (cB g20))⟩) (S.move Z (L 8 Z Z)) ?_
    refine U.p Z Z (.inr ⟨_, _, _, Z, Z, ((L 1 Z Z).trans (cB g20))⟩) (S.leq Z (L 0 Z Z) K) ?_
    refine U.p Z Z (.inl Z) (S.pickT Z ((L 2 Z Z).trans (cB g20)) (L 0 Z Z)) ?_
    exact kk [(14, .bool (decide (p0 ≤ 32))), (13, .bool (decide (p0 ≤ 32))), (12, .int .i64 p0)] _ ⟨.bool (decide (p0 ≤ 32)), .int .i64 p0, Z, (by rw [g20, Bool.true_and])⟩
   ·skip
    refine U.x Z Z Z Z ((L 0 Z Z).trans (cB g20)) (by decide) ?_
    refine U.x Z Z Z Z ((L 1 Z Z).trans (cB g20)) (by decide) ?_
    refine U.p Z Z (.inl Z) (S.pickF Z ((L 2 Z Z).trans (cB g20)) K) ?_
    exact kk [(14, .bool false), (13, .tuple #[]), (12, .tuple #[])] _ ⟨.tuple #[], .tuple #[], Z, (by rw [g20, Bool.false_and])⟩
 ·intro kk
  refine bcase (b := decide (0 ≤ p0)) (fun g21 => ?_) (fun g21 => ?_)
  ·skip
   refine U.p Z Z (.inr ⟨_, _, _, Z, Z, ((L 0 Z Z).trans (cB g21))⟩) (S.move Z (L 5 Z Z)) ?_
   refine U.p Z Z (.inr ⟨_, _, _, Z, Z, ((L 1 Z Z).trans (cB g21))⟩) (S.geq Z (L 0 Z Z) K) ?_
   refine U.p Z Z (.inl Z) (S.pickT Z ((L 2 Z Z).trans (cB g21)) (L 0 Z Z)) ?_
   exact kk [(10, .bool (decide (0 ≤ p1))), (9, .bool (decide (0 ≤ p1))), (8, .int .i64 p1)] _ ⟨.bool (decide (0 ≤ p1)), .int .i64 p1, Z, (by rw [g21, Bool.true_and])⟩
  ·skip
   refine U.x Z Z Z Z ((L 0 Z Z).trans (cB g21)) (by decide) ?_
   refine U.x Z Z Z Z ((L 1 Z Z).trans (cB g21)) (by decide) ?_
   refine U.p Z Z (.inl Z) (S.pickF Z ((L 2 Z Z).trans (cB g21)) K) ?_
   exact kk [(10, .bool false), (9, .tuple #[]), (8, .tuple #[])] _ ⟨.tuple #[], .tuple #[], Z, (by rw [g21, Bool.false_and])⟩
theorem wk_word_mask (V : Vw) (Rs : List At) (gl : Glb V) (p0 : Int) (ow : Ow V (Rs)) (r : Int) (h : word_mask p0 = some r) : ∃ v V', Cl Tryd.prog NG 63 #[.int .i64 p0] V.H v V'.H ∧ V.le V' ∧ (v = .int .u32 r ∧ Ow V' (Rs)) := by
 refine Ct.of gl.lo Tryd.func63 Z (nr Z) ?_
 unfold word_mask at h
 refine WP.usreg Z ?_
 refine U.p Z Z (.inl Z) (S.assign Z K) ?_
 refine U.done (nr Z) ?_
 refine WP.seq ?_
 refine WP.usreg Z ?_
 refine U.p Z Z (.inl Z) (S.move Z (L 1 Z Z)) ?_
 refine U.p Z Z (.inl Z) (S.geq Z (L 0 Z Z) K) ?_
 refine U.done (nr Z) ?_
 refine WP.cond _ (L 0 Z Z) Z (fun c1 => ?_) (fun c1 => ?_)
 ·have h2 := ifT c1 h
  refine WP.usreg Z ?_
  refine U.p Z Z (.inl Z) (S.assign Z K) ?_
  refine U.done (nr Z) ?_
  refine WP.ret ?_
  refine sqR ?_
  refine fin.slot (.inr Z) Z (L 0 Z Z) ⟨V, Z, (.refl _), ?_⟩
  have e3 := Option.some.inj h2
  subst e3
  exact ⟨rfl, ow⟩
 ·have h4 := ifF c1 h
  refine WP.skip ?_
  refine sqN ?_
  refine WP.usreg Z ?_
  refine U.p Z Z (.inl Z) (S.move Z (L 3 Z Z)) ?_
  refine U.p Z Z (.inl Z) (S.maxI Z (L 0 Z Z) K) ?_
  obtain ⟨x5, hx6, h7⟩ := bindS h4
  refine U.p Z Z (.inl Z) (S.shl hx6 Z K (L 0 Z Z)) ?_
  refine U.p Z Z (.inl Z) (S.sub Z (L 0 Z Z) K) ?_
  refine U.p Z Z (.inl Z) (S.assign Z (L 0 Z Z)) ?_
  refine U.done (nr Z) ?_
  refine WP.ret ?_
  refine fin.slot (.inr Z) Z (L 0 Z Z) ⟨V, Z, (.refl _), ?_⟩
  have e8 := Option.some.inj h7
  subst e8
  exact ⟨rfl, ow⟩
theorem wk_word_Get (V : Vw) (Rs : List At) (gl : Glb V) (p0 : Int) (p1 : Int) (p2 : Int) (ow : Ow V (Rs)) (r : Int) (h : word_Get p0 p1 p2 = some r) : ∃ v V', Cl Tryd.prog NG 50 #[.int .u32 p0, .int .i64 p1, .int .i64 p2] V.H v V'.H ∧ V.le V' ∧ (v = .int .u32 r ∧ Ow V' (Rs)) := by
 refine Ct.of gl.lo Tryd.func50 Z (nr Z) ?_
 unfold word_Get at h
 refine WP.usreg Z ?_
 refine U.p Z Z (.inl Z) (S.assign Z K) ?_
 refine U.done (nr Z) ?_
 refine WP.seq ?_
 refine WP.usreg Z ?_
 refine U.p Z Z (.inl Z) (S.move Z (L 2 Z Z)) ?_
 refine U.p Z Z (.inl Z) (S.move Z (L 4 Z Z)) ?_
 obtain ⟨x1, hx2, h3⟩ := bindS h
 refine O.call (V := V) Z Z (.inl Z) Z en62 (aC (L 1 Z Z) (aC (L 0 Z Z) aN)) (wk_word_good V _ gl p1 p2 ow _ hx2) (fun _ _ _ _ => nd) (fun v4 V5 le6 hp7 => ?_)
 obtain ⟨rfl, ow8⟩ := hp7
 refine U.p Z Z (.inl Z) (S.not Z (L 0 Z Z)) ?_
 refine U.done (nr Z) ?_
 refine WP.cond _ (L 0 Z Z) Z (fun c9 => ?_) (fun c9 => ?_)
 ·have h10 := ifT c9 h3
  have k11 : x1 = false := nT c9
  refine WP.usreg Z ?_
  refine U.p Z Z (.inl Z) (S.assign Z K) ?_
  refine U.done (nr Z) ?_
  refine WP.ret ?_
  refine sqR ?_
  refine fin.slot (.inr Z) Z (L 0 Z Z) ⟨V5, Z, le6, ?_⟩
  have e12 := Option.some.inj h10
  subst e12
  exact ⟨rfl, ow8⟩
 ·have h13 := ifF c9 h3
  have k14 : x1 = true := nF c9
  refine WP.skip ?_
  refine sqN ?_
  refine WP.usdreg Z Z Z ?_
  refine U.p Z Z (.inl Z) (S.move Z (L 5 Z Z)) ?_
  refine U.p Z Z (.inl Z) (S.move Z (L 7 Z Z)) ?_
  refine U.p Z Z (.inl Z) (S.sub Z K (L 0 Z Z)) ?_
  refine U.p Z Z (.inl Z) (S.move Z (L 10 Z Z)) ?_
  refine U.p Z Z (.inl Z) (S.sub Z (L 1 Z Z) (L 0 Z Z)) ?_
  obtain ⟨x15, hx16, h17⟩ := bindS h13
  refine U.p Z Z (.inl Z) (S.shr hx16 Z (L 4 Z Z) (L 0 Z Z)) ?_
  refine U.p Z Z (.inl Z) (S.move Z (L 13 Z Z)) ?_
  obtain ⟨x18, hx19, h20⟩ := bindS h17
  refine O.call (V := V5) Z Z (.inl Z) Z en63 (aC (L 0 Z Z) aN) (wk_word_mask V5 _ (gl.up le6) p2 ow8 _ hx19) (fun v21 V22 le23 hp24 => by obtain ⟨rfl, ow25⟩ := hp24; exact (fun _ => (okH.nil (fun r h => nomatch h)))) (fun v21 V22 le23 hp24 => ?_)
  obtain ⟨rfl, ow25⟩ := hp24
  refine U.p Z Z (.inl Z) (S.andI Z (L 2 Z Z) (L 0 Z Z)) ?_
  refine U.p Z Z (.inl Z) (S.assign Z (L 0 Z Z)) ?_
  refine U.done (nr Z) ?_
  refine WP.ret ?_
  refine fin.slot (.inr Z) Z (L 0 Z Z) ⟨V22, Z, (le6.trans le23), ?_⟩
  have e26 := Option.some.inj h20
  subst e26
  exact ⟨rfl, ow25⟩
theorem wk_word_Signed (V : Vw) (Rs : List At) (gl : Glb V) (p0 : Int) (p1 : Int) (ow : Ow V (Rs)) (r : Int) (h : word_Signed p0 p1 = some r) : ∃ v V', Cl Tryd.prog NG 51 #[.int .u32 p0, .int .i64 p1] V.H v V'.H ∧ V.le V' ∧ (v = .int .i64 r ∧ Ow V' (Rs)) := by
 refine Ct.of gl.lo Tryd.func51 Z (nr Z) ?_
 unfold word_Signed at h
 refine WP.usreg Z ?_
 refine U.p Z Z (.inl Z) (S.assign Z K) ?_
 refine U.done (nr Z) ?_
 refine WP.seq ?_
 refine WP.usreg Z ?_
 refine U.p Z Z (.inl Z) (S.move Z (L 2 Z Z)) ?_
 refine U.p Z Z (.inl Z) (S.lss Z (L 0 Z Z) K) ?_
 refine U.p Z Z (.inl Z) (S.move Z (L 0 Z Z)) ?_
 refine U.joinX 6 (fun e H => ∃ (u1 u2 : Value), H = V.H ∧ e = [(11, .bool ((decide (p1 < 1)) || (decide (32 < p1)))), (10, u1), (9, u2)]) ?_ ?_
 ·rintro _ _ ⟨u1, u2, rfl, rfl⟩
  refine U.done (nr Z) ?_
  refine WP.cond _ (L 0 Z Z) Z (fun c6 => ?_) (fun c6 => ?_)
  ·have h7 := ifT c6 h
   refine WP.usreg Z ?_
   refine U.p Z Z (.inl Z) (S.assign Z K) ?_
   refine U.done (nr Z) ?_
   refine WP.ret ?_
   refine sqR ?_
   refine fin.slot (.inr Z) Z (L 0 Z Z) ⟨V, Z, (.refl _), ?_⟩
   have e8 := Option.some.inj h7
   subst e8
   exact ⟨rfl, ow⟩
  ·have h9 := ifF c6 h
   refine WP.skip ?_
   refine sqN ?_
   refine WP.usreg Z ?_
   refine U.p Z Z (.inl Z) (S.move Z (L 7 Z Z)) ?_
   refine U.p Z Z (.inl Z) (S.move Z (L 9 Z Z)) ?_
   obtain ⟨x10, hx11, h12⟩ := bindS h9
   refine O.call (V := V) Z Z (.inl Z) Z en63 (aC (L 0 Z Z) aN) (wk_word_mask V _ gl p1 ow _ hx11) (fun _ _ _ _ => nd) (fun v13 V14 le15 hp16 => ?_)
   obtain ⟨rfl, ow17⟩ := hp16
   refine U.p Z Z (.inl Z) (S.andI Z (L 2 Z Z) (L 0 Z Z)) ?_
   refine U.p Z Z (.inl Z) (S.conv Z (L 0 Z Z) Tryd.underlying39 Tryd.underlying3) ?_
   refine U.p Z Z (.inl Z) (S.assign Z (L 0 Z Z)) ?_
   refine U.done (nr Z) ?_
   refine WP.seqI (fun l V' => ∃ (x18 : Int), l = [(5, .int .i64 x18)] ∧ V14.le V' ∧ Ow V' (Rs) ∧ word_Signed_k1 x18 = some r) ?_ ?_
   ·rintro _ V19 ⟨x18, rfl, le20, ow21, h22⟩
    unfold word_Signed_k1 at h22
    refine WP.usreg Z ?_
    refine U.p Z Z (.inl Z) (S.move Z (L 0 Z Z)) ?_
    refine U.p Z Z (.inl Z) (S.assign Z (L 0 Z Z)) ?_
    refine U.done (nr Z) ?_
    refine WP.ret ?_
    refine fin.slot (.inr Z) Z (L 0 Z Z) ⟨V19, Z, (le15.trans le20), ?_⟩
    have e23 := Option.some.inj h22
    subst e23
    exact ⟨rfl, ow21⟩
   ·skip
    refine WP.usreg Z ?_
    refine U.p Z Z (.inl Z) (S.move Z (L 0 Z Z)) ?_
    refine U.p Z Z (.inl Z) (S.move Z (L 15 Z Z)) ?_
    refine U.p Z Z (.inl Z) (S.sub Z (L 0 Z Z) K) ?_
    obtain ⟨x24, hx25, h26⟩ := bindS h12
    refine U.p Z Z (.inl Z) (S.shr hx25 Z (L 2 Z Z) (L 0 Z Z)) ?_
    refine U.p Z Z (.inl Z) (S.eqlI Z (L 0 Z Z) K) ?_
    refine U.done (nr Z) ?_
    refine WP.cond _ (L 0 Z Z) Z (fun c27 => ?_) (fun c27 => ?_)
    ·have h28 := ifT c27 h26
     refine WP.ureg Z ?_
     refine U.p Z Z (.inl Z) (S.move Z (L 5 Z Z)) ?_
     refine U.p Z Z (.inl Z) (S.move Z (L 20 Z Z)) ?_
     obtain ⟨x29, hx30, h31⟩ := bindS h28
     refine U.p Z Z (.inl Z) (S.shl hx30 Z K (L 0 Z Z)) ?_
     refine U.p Z Z (.inl Z) (S.sub Z (L 2 Z Z) (L 0 Z Z)) ?_
     refine U.p Z Z (.inl Z) (S.assign Z (L 0 Z Z)) ?_
     refine U.done (nr Z) ?_
     refine sqN ?_
     exact ⟨_, V14, Z, ⟨w64 ((w64 (andB .u32 p0 x10)) - x29), Z, (.refl _), ow17, h31⟩, (allCons (L 0 Z Z) allNil)⟩
    ·have h32 := ifF c27 h26
     refine WP.skip ?_
     refine sqN ?_
     exact ⟨_, V14, Z, ⟨w64 (andB .u32 p0 x10), Z, (.refl _), ow17, h32⟩, (allCons (L 5 Z Z) allNil)⟩
 ·intro kk
  refine bcase (b := decide (p1 < 1)) (fun g33 => ?_) (fun g33 => ?_)
  ·skip
   refine U.x Z Z Z Z ((L 0 Z Z).trans (cB g33)) (by decide) ?_
   refine U.x Z Z Z Z ((L 1 Z Z).trans (cB g33)) (by decide) ?_
   refine U.p Z Z (.inl Z) (S.pickT Z ((L 2 Z Z).trans (cB g33)) K) ?_
   exact kk [(11, .bool true), (10, .tuple #[]), (9, .tuple #[])] _ ⟨.tuple #[], .tuple #[], Z, (by rw [g33, Bool.true_or])⟩
  ·skip
   refine U.p Z Z (.inr ⟨_, _, _, Z, Z, ((L 0 Z Z).trans (cB g33))⟩) (S.move Z (L 5 Z Z)) ?_
   refine U.p Z Z (.inr ⟨_, _, _, Z, Z, ((L 1 Z Z).trans (cB g33))⟩) (S.gtr Z (L 0 Z Z) K) ?_
   refine U.p Z Z (.inl Z) (S.pickF Z ((L 2 Z Z).trans (cB g33)) (L 0 Z Z)) ?_
   exact kk [(11, .bool (decide (32 < p1))), (10, .bool (decide (32 < p1))), (9, .int .i64 p1)] _ ⟨.bool (decide (32 < p1)), .int .i64 p1, Z, (by rw [g33, Bool.false_or])⟩
theorem wk_isa_read (V : Vw) (Rs : List At) (gl : Glb V) (p0 : Int) (p1 : Int) (ow : Ow V (Rs)) (r : TInst) (h : isa_read p0 p1 = some r) : ∃ v V', Cl Tryd.prog NG 37 #[.int .i64 p0, .int .u32 p1] V.H v V'.H ∧ V.le V' ∧ (v = .agg #[.int .i64 r.op, .int .i64 r.d, .int .i64 r.a, .int .i64 r.b, .int .i64 r.imm] ∧ Ow V' (Rs)) := by
 refine Ct.of gl.lo Tryd.func37 Z (nr Z) ?_
 unfold isa_read at h
 refine WP.usreg Z ?_
 refine O.alloc ow Z Z (.inl Z) Z ti50 Z Z nd (fun b1 V2 le3 ow4 => ?_)
 refine U.done (nr Z) ?_
 refine WP.usreg Z ?_
 refine U.p Z Z (.inl Z) (S.move Z (L 1 Z Z)) ?_
 refine U.p (v := .agg #[.int .i64 p0, .int .i64 0, .int .i64 0, .int .i64 0, .int .i64 0]) Z Z (.inl Z) (S.build (vs := [.int .i64 p0]) Z ti50 Z pl50 (aC (L 0 Z Z) aN) (allC (by simp [topV]) allN) Z) ?_
 refine O.alloc ow4 Z Z (.inl Z) Z ti50 Z Z nd (fun b6 V7 le8 ow9 => ?_)
 refine O.store (k := 0) (cs := [.int .i64 p0, .int .i64 0, .int .i64 0, .int .i64 0, .int .i64 0]) (c' := [.int .i64 p0, .int .i64 0, .int .i64 0, .int .i64 0, .int .i64 0]) ow9 Z Z Z (.inl Z) Z (L 0 Z Z) (L 1 Z Z) ti50 (by simp [topV]) Z Z (nr Z) Z Z nd (fun V11 le12 ow13 => ?_)
 refine U.done (nr Z) ?_
 refine WP.seq ?_
 refine WP.usreg Z ?_
 refine U.p Z Z (.inl Z) (S.move Z (L 4 Z Z)) ?_
 obtain ⟨x14, hx15, h16⟩ := bindS h
 obtain ⟨_, _, _, cs17, hv18, hf19, hr20, hc21⟩ := (gl.up ((le3.trans le8).trans le12)).g1.at hx15
 cases hv18
 obtain rfl : cs17 = [.string x14.name, .string x14.fields, .int .u32 x14.word] := hr20
 refine U.p Z Z (.inl Z) (S.indexA Z Gl (L 0 Z Z) Tryd.underlying82 ti81 (ix_ge hx15) (by have q1 := ix_lt hx15; have q2 := gl1_len; omega)) ?_
 refine U.p (v := .pointer (some ⟨1, 0 + Int.toNat p0 * 3 + 1, none⟩)) Z Z (.inl Z) (S.fieldAddr Z (L 0 Z Z) Tryd.underlying81 Z ti9 Z Z) ?_
 refine U.k Z Z (.inl Z) (S.load Z (L 0 Z Z) Tryd.underlying9 Z (hc21 1 _ Z)) nd ?_
 obtain ⟨xs22, hx23, h24⟩ := bindS h16
 refine O.bytes ow13 Z Z (.inl Z) Z (L 0 Z Z) Tryd.underlying9 Tryd.underlying46 Tryd.underlying5 hx23 (fun _ => nd) (fun v25 V26 le27 ow28 => ?_)
 refine U.p Z Z (.inl Z) (ow28.oslen (k := 0) Z Z (L 0 Z Z) Tryd.underlying46) ?_
 refine U.p Z Z (.inl Z) (S.move Z K) ?_
 refine U.done (nr Z) ?_
 refine WP.blk ?_
 have ow35 := ow28.pick 0 Z
 have ow36 := ow35.pick 1 Z
 have ow37 := ow36.pick 2 Z
 unfold isa_read_l1 at h24
 obtain ⟨n39, hn38⟩ := loopO_some.1 h24
 refine WP.loopI2 (fun n l V' => ∃ (x30 : Int) (x31 : Int) (x32 : Int) (x33 : Int) (x34 : Int), l = [(1, .int .u32 p1), (4, .pointer (some ⟨b1, 0, none⟩)), (5, .pointer (some ⟨b6, 0, none⟩)), (14, v25), (15, .int .i64 (xs22.length : Int)), (16, .int .i64 x34)] ∧ V26.le V' ∧ Ow V' (.pt b1 (.cells 5 [.int .i64 0, .int .i64 0, .int .i64 0, .int .i64 0, .int .i64 0]) :: .pt b6 (.cells 5 [.int .i64 p0, .int .i64 x30, .int .i64 x31, .int .i64 x32, .int .i64 x33]) :: .os (RT.int .u8) v25 xs22 :: Rs) ∧ itO (fun s => isa_read_l1b p0 p1 xs22 s.1 s.2.1 s.2.2.1 s.2.2.2.1 s.2.2.2.2) n (x30, x31, x32, x33, x34) = some r) n39 _ ⟨0, 0, 0, 0, 0, Z, .refl _, ow37, hn38⟩ (allCons (L 12 Z Z) (allCons (L 10 Z Z) (allCons (L 7 Z Z) (allCons (L 2 Z Z) (allCons (L 1 Z Z) (allCons (L 0 Z Z) allNil)))))) ?_
 rintro _ _ V40 ⟨x30, x31, x32, x33, x34, rfl, le41, ow42, h46⟩
 obtain ⟨m43, q44, rfl, h47, e45⟩ := itS h46
 replace h47 : isa_read_l1b p0 p1 xs22 x30 x31 x32 x33 x34 = some q44 := h47
 unfold isa_read_l1b at h47
 refine WP.usreg Z ?_
 refine U.p Z Z (.inl Z) (S.lss Z (L 5 Z Z) (L 4 Z Z)) ?_
 refine U.done (nr Z) ?_
 refine WP.seq ?_
 refine WP.cond _ (L 0 Z Z) Z (fun c48 => ?_) (fun c48 => ?_)
 ·have h49 := ifT c48 h47
  refine WP.skip ?_
  refine sqN ?_
  refine WP.seqI (fun l V' => ∃ (x50 : Int) (x51 : Int) (x52 : Int) (x53 : Int), l = [(1, .int .u32 p1), (4, .pointer (some ⟨b1, 0, none⟩)), (5, .pointer (some ⟨b6, 0, none⟩)), (14, v25), (15, .int .i64 (xs22.length : Int)), (16, .int .i64 x34)] ∧ V40.le V' ∧ Ow V' (.pt b1 (.cells 5 [.int .i64 0, .int .i64 0, .int .i64 0, .int .i64 0, .int .i64 0]) :: .pt b6 (.cells 5 [.int .i64 p0, .int .i64 x50, .int .i64 x51, .int .i64 x52, .int .i64 x53]) :: .os (RT.int .u8) v25 xs22 :: Rs) ∧ isa_read_k1 x34 x50 x51 x52 x53 = some q44) ?_ ?_
  ·rintro _ V54 ⟨x50, x51, x52, x53, rfl, le55, ow56, h57⟩
   unfold isa_read_k1 at h57
   refine WP.ureg Z ?_
   refine U.p Z Z (.inl Z) (S.add Z (L 5 Z Z) K) ?_
   refine U.p Z Z (.inl Z) (S.move Z (L 0 Z Z)) ?_
   refine U.done (nr Z) ?_
   refine sqN ?_
   exact ⟨_, V54, Z, ⟨m43, Nat.lt_succ_self _, x50, x51, x52, x53, w64 (x34 + 1), Z, (le41.trans le55), ow56, backS h57 e45⟩, (allCons (L 2 Z Z) (allCons (L 3 Z Z) (allCons (L 4 Z Z) (allCons (L 5 Z Z) (allCons (L 6 Z Z) (allCons (L 0 Z Z) allNil))))))⟩
  ·skip
   refine WP.blk ?_
   refine WP.usreg Z ?_
   obtain ⟨x58, hx59, h60⟩ := bindS h49
   obtain ⟨b61, o62, n63, c64, hv65⟩ := ow42.ospt (k := 2) Z hx59
   obtain ⟨_, hv66, _⟩ := ow42.osel (k := 2) Z hv65 hx59
   refine U.p Z Z (.inl Z) (S.index Z ((L 4 Z Z).trans hv66) (L 6 Z Z) Tryd.underlying46 ti5 (ix_ge hx59) (ix_lt hx59)) ?_
   obtain ⟨cs67, hv68, hlt69, hr70, hc71⟩ := ow42.osel (k := 2) Z hv65 hx59
   obtain rfl : cs67 = [.int .u8 x58] := hr70
   refine U.k Z Z (.inl Z) (S.load Z (L 0 Z Z) Tryd.underlying5 Z (hc71 0 _ Z)) nd ?_
   refine U.p Z Z (.inl Z) (S.assign Z (L 0 Z Z)) ?_
   refine U.done (nr Z) ?_
   refine WP.usreg Z ?_
   refine U.p Z Z (.inl Z) (S.move Z (L 0 Z Z)) ?_
   refine U.done (nr Z) ?_
   refine WP.blk ?_
   refine WP.usreg Z ?_
   refine U.p Z Z (.inl Z) (S.eqlI Z (L 0 Z Z) K) ?_
   refine U.p Z Z (.inl Z) (S.assign Z (L 0 Z Z)) ?_
   refine U.done (nr Z) ?_
   refine WP.cond _ (L 0 Z Z) Z (fun c72 => ?_) (fun c72 => ?_)
   ·have h73 := ifT c72 h60
    refine WP.ureg Z ?_
    refine U.p Z Z (.inl Z) (S.move Z (L 7 Z Z)) ?_
    obtain ⟨x74, hx75, h76⟩ := bindS h73
    refine O.call (V := V40) Z Z (.inl Z) Z en50 (aC (L 0 Z Z) (aC K (aC K aN))) (wk_word_Get V40 _ (gl.up ((((le3.trans le8).trans le12).trans le27).trans le41)) p1 6 5 ow42 _ hx75) (fun _ _ _ _ => nd) (fun v77 V78 le79 hp80 => ?_)
    obtain ⟨rfl, ow81⟩ := hp80
    refine U.p Z Z (.inl Z) (S.conv Z (L 0 Z Z) Tryd.underlying39 Tryd.underlying3) ?_
    refine U.p (v := .pointer (some ⟨b6, 1, none⟩)) Z Z (.inl Z) (S.fieldAddr Z (L 12 Z Z) Tryd.underlying50 Z ti3 Z Z) ?_
    refine O.store (k := 1) (cs := [.int .i64 (w64 x74)]) (c' := [.int .i64 p0, .int .i64 (w64 x74), .int .i64 x31, .int .i64 x32, .int .i64 x33]) ow81 Z Z Z (.inl Z) Z (L 0 Z Z) (L 1 Z Z) ti3 (by simp [topV]) Z Z (nr Z) Z Z nd (fun V82 le83 ow84 => ?_)
    refine U.done (nr Z) ?_
    refine blkN (blkN (sqN ?_))
    exact ⟨_, V82, Z, ⟨w64 x74, x31, x32, x33, Z, (le79.trans le83), ow84, h76⟩, (allCons (L 11 Z Z) (allCons (L 12 Z Z) (allCons (L 13 Z Z) (allCons (L 14 Z Z) (allCons (L 15 Z Z) (allCons (L 16 Z Z) allNil))))))⟩
   ·have h85 := ifF c72 h60
    refine WP.usreg Z ?_
    refine U.p Z Z (.inl Z) (S.eqlI Z (L 2 Z Z) K) ?_
    refine U.p Z Z (.inl Z) (S.assign Z (L 0 Z Z)) ?_
    refine U.done (nr Z) ?_
    refine WP.cond _ (L 0 Z Z) Z (fun c86 => ?_) (fun c86 => ?_)
    ·have h87 := ifT c86 h85
     refine WP.ureg Z ?_
     refine U.p Z Z (.inl Z) (S.move Z (L 9 Z Z)) ?_
     obtain ⟨x88, hx89, h90⟩ := bindS h87
     refine O.call (V := V40) Z Z (.inl Z) Z en50 (aC (L 0 Z Z) (aC K (aC K aN))) (wk_word_Get V40 _ (gl.up ((((le3.trans le8).trans le12).trans le27).trans le41)) p1 11 5 ow42 _ hx89) (fun _ _ _ _ => nd) (fun v91 V92 le93 hp94 => ?_)
     obtain ⟨rfl, ow95⟩ := hp94
     refine U.p Z Z (.inl Z) (S.conv Z (L 0 Z Z) Tryd.underlying39 Tryd.underlying3) ?_
     refine U.p (v := .pointer (some ⟨b6, 2, none⟩)) Z Z (.inl Z) (S.fieldAddr Z (L 14 Z Z) Tryd.underlying50 Z ti3 Z Z) ?_
     refine O.store (k := 1) (cs := [.int .i64 (w64 x88)]) (c' := [.int .i64 p0, .int .i64 x30, .int .i64 (w64 x88), .int .i64 x32, .int .i64 x33]) ow95 Z Z Z (.inl Z) Z (L 0 Z Z) (L 1 Z Z) ti3 (by simp [topV]) Z Z (nr Z) Z Z nd (fun V96 le97 ow98 => ?_)
     refine U.done (nr Z) ?_
     refine blkN (blkN (sqN ?_))
     exact ⟨_, V96, Z, ⟨x30, w64 x88, x32, x33, Z, (le93.trans le97), ow98, h90⟩, (allCons (L 13 Z Z) (allCons (L 14 Z Z) (allCons (L 15 Z Z) (allCons (L 16 Z Z) (allCons (L 17 Z Z) (allCons (L 18 Z Z) allNil))))))⟩
    ·have h99 := ifF c86 h85
     refine WP.usreg Z ?_
     refine U.p Z Z (.inl Z) (S.eqlI Z (L 4 Z Z) K) ?_
     refine U.p Z Z (.inl Z) (S.assign Z (L 0 Z Z)) ?_
     refine U.done (nr Z) ?_
     refine WP.cond _ (L 0 Z Z) Z (fun c100 => ?_) (fun c100 => ?_)
     ·have h101 := ifT c100 h99
      refine WP.ureg Z ?_
      refine U.p Z Z (.inl Z) (S.move Z (L 11 Z Z)) ?_
      obtain ⟨x102, hx103, h104⟩ := bindS h101
      refine O.call (V := V40) Z Z (.inl Z) Z en50 (aC (L 0 Z Z) (aC K (aC K aN))) (wk_word_Get V40 _ (gl.up ((((le3.trans le8).trans le12).trans le27).trans le41)) p1 16 5 ow42 _ hx103) (fun _ _ _ _ => nd) (fun v105 V106 le107 hp108 => ?_)
      obtain ⟨rfl, ow109⟩ := hp108
      refine U.p Z Z (.inl Z) (S.conv Z (L 0 Z Z) Tryd.underlying39 Tryd.underlying3) ?_
      refine U.p (v := .pointer (some ⟨b6, 3, none⟩)) Z Z (.inl Z) (S.fieldAddr Z (L 16 Z Z) Tryd.underlying50 Z ti3 Z Z) ?_
      refine O.store (k := 1) (cs := [.int .i64 (w64 x102)]) (c' := [.int .i64 p0, .int .i64 x30, .int .i64 x31, .int .i64 (w64 x102), .int .i64 x33]) ow109 Z Z Z (.inl Z) Z (L 0 Z Z) (L 1 Z Z) ti3 (by simp [topV]) Z Z (nr Z) Z Z nd (fun V110 le111 ow112 => ?_)
      refine U.done (nr Z) ?_
      refine blkN (blkN (sqN ?_))
      exact ⟨_, V110, Z, ⟨x30, x31, w64 x102, x33, Z, (le107.trans le111), ow112, h104⟩, (allCons (L 15 Z Z) (allCons (L 16 Z Z) (allCons (L 17 Z Z) (allCons (L 18 Z Z) (allCons (L 19 Z Z) (allCons (L 20 Z Z) allNil))))))⟩
     ·have h113 := ifF c100 h99
      refine WP.usreg Z ?_
      refine U.p Z Z (.inl Z) (S.eqlI Z (L 6 Z Z) K) ?_
      refine U.p Z Z (.inl Z) (S.assign Z (L 0 Z Z)) ?_
      refine U.done (nr Z) ?_
      refine WP.cond _ (L 0 Z Z) Z (fun c114 => ?_) (fun c114 => ?_)
      ·have h115 := ifT c114 h113
       refine WP.ureg Z ?_
       refine U.p Z Z (.inl Z) (S.move Z (L 13 Z Z)) ?_
       obtain ⟨x116, hx117, h118⟩ := bindS h115
       refine O.call (V := V40) Z Z (.inl Z) Z en51 (aC (L 0 Z Z) (aC K aN)) (wk_word_Signed V40 _ (gl.up ((((le3.trans le8).trans le12).trans le27).trans le41)) p1 16 ow42 _ hx117) (fun _ _ _ _ => nd) (fun v119 V120 le121 hp122 => ?_)
       obtain ⟨rfl, ow123⟩ := hp122
       refine U.p (v := .pointer (some ⟨b6, 4, none⟩)) Z Z (.inl Z) (S.fieldAddr Z (L 17 Z Z) Tryd.underlying50 Z ti3 Z Z) ?_
       refine O.store (k := 1) (cs := [.int .i64 x116]) (c' := [.int .i64 p0, .int .i64 x30, .int .i64 x31, .int .i64 x32, .int .i64 x116]) ow123 Z Z Z (.inl Z) Z (L 0 Z Z) (L 1 Z Z) ti3 (by simp [topV]) Z Z (nr Z) Z Z nd (fun V124 le125 ow126 => ?_)
       refine U.done (nr Z) ?_
       refine blkN (blkN (sqN ?_))
       exact ⟨_, V124, Z, ⟨x30, x31, x32, x116, Z, (le121.trans le125), ow126, h118⟩, (allCons (L 16 Z Z) (allCons (L 17 Z Z) (allCons (L 18 Z Z) (allCons (L 19 Z Z) (allCons (L 20 Z Z) (allCons (L 21 Z Z) allNil))))))⟩
      ·have h127 := ifF c114 h113
       refine WP.usreg Z ?_
       refine U.p Z Z (.inl Z) (S.eqlI Z (L 8 Z Z) K) ?_
       refine U.p Z Z (.inl Z) (S.assign Z (L 0 Z Z)) ?_
       refine U.done (nr Z) ?_
       refine WP.cond _ (L 0 Z Z) Z (fun c128 => ?_) (fun c128 => ?_)
       ·have h129 := ifT c128 h127
        refine WP.ureg Z ?_
        refine U.p Z Z (.inl Z) (S.move Z (L 15 Z Z)) ?_
        obtain ⟨x130, hx131, h132⟩ := bindS h129
        refine O.call (V := V40) Z Z (.inl Z) Z en50 (aC (L 0 Z Z) (aC K (aC K aN))) (wk_word_Get V40 _ (gl.up ((((le3.trans le8).trans le12).trans le27).trans le41)) p1 16 14 ow42 _ hx131) (fun _ _ _ _ => nd) (fun v133 V134 le135 hp136 => ?_)
        obtain ⟨rfl, ow137⟩ := hp136
        obtain ⟨x138, hx139, h140⟩ := bindS h132
        refine O.call (V := V134) Z Z (.inl Z) Z en51 (aC (L 0 Z Z) (aC K aN)) (wk_word_Signed V134 _ (gl.up (((((le3.trans le8).trans le12).trans le27).trans le41).trans le135)) x130 14 ow137 _ hx139) (fun _ _ _ _ => nd) (fun v141 V142 le143 hp144 => ?_)
        obtain ⟨rfl, ow145⟩ := hp144
        refine U.p Z Z (.inl Z) (S.mul Z K (L 0 Z Z)) ?_
        refine U.p (v := .pointer (some ⟨b6, 4, none⟩)) Z Z (.inl Z) (S.fieldAddr Z (L 21 Z Z) Tryd.underlying50 Z ti3 Z Z) ?_
        refine O.store (k := 1) (cs := [.int .i64 (w64 (4 * x138))]) (c' := [.int .i64 p0, .int .i64 x30, .int .i64 x31, .int .i64 x32, .int .i64 (w64 (4 * x138))]) ow145 Z Z Z (.inl Z) Z (L 0 Z Z) (L 1 Z Z) ti3 (by simp [topV]) Z Z (nr Z) Z Z nd (fun V146 le147 ow148 => ?_)
        refine U.done (nr Z) ?_
        refine blkN (blkN (sqN ?_))
        exact ⟨_, V146, Z, ⟨x30, x31, x32, w64 (4 * x138), Z, ((le135.trans le143).trans le147), ow148, h140⟩, (allCons (L 20 Z Z) (allCons (L 21 Z Z) (allCons (L 22 Z Z) (allCons (L 23 Z Z) (allCons (L 24 Z Z) (allCons (L 25 Z Z) allNil))))))⟩
       ·have h149 := ifF c128 h127
        refine WP.usreg Z ?_
        refine U.p Z Z (.inl Z) (S.eqlI Z (L 10 Z Z) K) ?_
        refine U.p Z Z (.inl Z) (S.assign Z (L 0 Z Z)) ?_
        refine U.done (nr Z) ?_
        refine WP.cond _ (L 0 Z Z) Z (fun c150 => ?_) (fun c150 => ?_)
        ·have h151 := ifT c150 h149
         refine WP.ureg Z ?_
         refine U.p Z Z (.inl Z) (S.move Z (L 17 Z Z)) ?_
         obtain ⟨x152, hx153, h154⟩ := bindS h151
         refine O.call (V := V40) Z Z (.inl Z) Z en50 (aC (L 0 Z Z) (aC K (aC K aN))) (wk_word_Get V40 _ (gl.up ((((le3.trans le8).trans le12).trans le27).trans le41)) p1 16 14 ow42 _ hx153) (fun _ _ _ _ => nd) (fun v155 V156 le157 hp158 => ?_)
         obtain ⟨rfl, ow159⟩ := hp158
         obtain ⟨x160, hx161, h162⟩ := bindS h154
         refine O.call (V := V156) Z Z (.inl Z) Z en51 (aC (L 0 Z Z) (aC K aN)) (wk_word_Signed V156 _ (gl.up (((((le3.trans le8).trans le12).trans le27).trans le41).trans le157)) x152 14 ow159 _ hx161) (fun _ _ _ _ => nd) (fun v163 V164 le165 hp166 => ?_)
         obtain ⟨rfl, ow167⟩ := hp166
         refine U.p (v := .pointer (some ⟨b6, 4, none⟩)) Z Z (.inl Z) (S.fieldAddr Z (L 22 Z Z) Tryd.underlying50 Z ti3 Z Z) ?_
         refine O.store (k := 1) (cs := [.int .i64 x160]) (c' := [.int .i64 p0, .int .i64 x30, .int .i64 x31, .int .i64 x32, .int .i64 x160]) ow167 Z Z Z (.inl Z) Z (L 0 Z Z) (L 1 Z Z) ti3 (by simp [topV]) Z Z (nr Z) Z Z nd (fun V168 le169 ow170 => ?_)
         refine U.done (nr Z) ?_
         refine blkN (blkN (sqN ?_))
         exact ⟨_, V168, Z, ⟨x30, x31, x32, x160, Z, ((le157.trans le165).trans le169), ow170, h162⟩, (allCons (L 21 Z Z) (allCons (L 22 Z Z) (allCons (L 23 Z Z) (allCons (L 24 Z Z) (allCons (L 25 Z Z) (allCons (L 26 Z Z) allNil))))))⟩
        ·have h171 := ifF c150 h149
         refine WP.usreg Z ?_
         refine U.p Z Z (.inl Z) (S.eqlI Z (L 12 Z Z) K) ?_
         refine U.p Z Z (.inl Z) (S.assign Z (L 0 Z Z)) ?_
         refine U.done (nr Z) ?_
         refine WP.cond _ (L 0 Z Z) Z (fun c172 => ?_) (fun c172 => ?_)
         ·have h173 := ifT c172 h171
          refine WP.ureg Z ?_
          refine U.p Z Z (.inl Z) (S.move Z (L 19 Z Z)) ?_
          obtain ⟨x174, hx175, h176⟩ := bindS h173
          refine O.call (V := V40) Z Z (.inl Z) Z en50 (aC (L 0 Z Z) (aC K (aC K aN))) (wk_word_Get V40 _ (gl.up ((((le3.trans le8).trans le12).trans le27).trans le41)) p1 6 24 ow42 _ hx175) (fun _ _ _ _ => nd) (fun v177 V178 le179 hp180 => ?_)
          obtain ⟨rfl, ow181⟩ := hp180
          obtain ⟨x182, hx183, h184⟩ := bindS h176
          refine O.call (V := V178) Z Z (.inl Z) Z en51 (aC (L 0 Z Z) (aC K aN)) (wk_word_Signed V178 _ (gl.up (((((le3.trans le8).trans le12).trans le27).trans le41).trans le179)) x174 24 ow181 _ hx183) (fun _ _ _ _ => nd) (fun v185 V186 le187 hp188 => ?_)
          obtain ⟨rfl, ow189⟩ := hp188
          refine U.p (v := .pointer (some ⟨b6, 4, none⟩)) Z Z (.inl Z) (S.fieldAddr Z (L 24 Z Z) Tryd.underlying50 Z ti3 Z Z) ?_
          refine O.store (k := 1) (cs := [.int .i64 x182]) (c' := [.int .i64 p0, .int .i64 x30, .int .i64 x31, .int .i64 x32, .int .i64 x182]) ow189 Z Z Z (.inl Z) Z (L 0 Z Z) (L 1 Z Z) ti3 (by simp [topV]) Z Z (nr Z) Z Z nd (fun V190 le191 ow192 => ?_)
          refine U.done (nr Z) ?_
          refine blkN (blkN (sqN ?_))
          exact ⟨_, V190, Z, ⟨x30, x31, x32, x182, Z, ((le179.trans le187).trans le191), ow192, h184⟩, (allCons (L 23 Z Z) (allCons (L 24 Z Z) (allCons (L 25 Z Z) (allCons (L 26 Z Z) (allCons (L 27 Z Z) (allCons (L 28 Z Z) allNil))))))⟩
         ·have h193 := ifF c172 h171
          refine WP.usreg Z ?_
          refine U.p Z Z (.inl Z) (S.eqlI Z (L 14 Z Z) K) ?_
          refine U.p Z Z (.inl Z) (S.assign Z (L 0 Z Z)) ?_
          refine U.done (nr Z) ?_
          refine WP.cond _ (L 0 Z Z) Z (fun c194 => ?_) (fun c194 => ?_)
          ·have h195 := ifT c194 h193
           refine WP.ureg Z ?_
           refine U.p Z Z (.inl Z) (S.move Z (L 21 Z Z)) ?_
           obtain ⟨x196, hx197, h198⟩ := bindS h195
           refine O.call (V := V40) Z Z (.inl Z) Z en50 (aC (L 0 Z Z) (aC K (aC K aN))) (wk_word_Get V40 _ (gl.up ((((le3.trans le8).trans le12).trans le27).trans le41)) p1 6 5 ow42 _ hx197) (fun _ _ _ _ => nd) (fun v199 V200 le201 hp202 => ?_)
           obtain ⟨rfl, ow203⟩ := hp202
           refine U.p Z Z (.inl Z) (S.conv Z (L 0 Z Z) Tryd.underlying39 Tryd.underlying3) ?_
           refine U.p Z Z (.inl Z) (S.move Z (L 24 Z Z)) ?_
           obtain ⟨x204, hx205, h206⟩ := bindS h198
           refine O.call (V := V200) Z Z (.inl Z) Z en50 (aC (L 0 Z Z) (aC K (aC K aN))) (wk_word_Get V200 _ (gl.up (((((le3.trans le8).trans le12).trans le27).trans le41).trans le201)) p1 11 5 ow203 _ hx205) (fun _ _ _ _ => nd) (fun v207 V208 le209 hp210 => ?_)
           obtain ⟨rfl, ow211⟩ := hp210
           refine U.p Z Z (.inl Z) (S.conv Z (L 0 Z Z) Tryd.underlying39 Tryd.underlying3) ?_
           refine U.p (v := .pointer (some ⟨b6, 1, none⟩)) Z Z (.inl Z) (S.fieldAddr Z (L 29 Z Z) Tryd.underlying50 Z ti3 Z Z) ?_
           refine O.store (k := 1) (cs := [.int .i64 (w64 x196)]) (c' := [.int .i64 p0, .int .i64 (w64 x196), .int .i64 x31, .int .i64 x32, .int .i64 x33]) ow211 Z Z Z (.inl Z) Z (L 0 Z Z) (L 4 Z Z) ti3 (by simp [topV]) Z Z (nr Z) Z Z nd (fun V212 le213 ow214 => ?_)
           refine U.p (v := .pointer (some ⟨b6, 2, none⟩)) Z Z (.inl Z) (S.fieldAddr Z (L 30 Z Z) Tryd.underlying50 Z ti3 Z Z) ?_
           refine O.store (k := 1) (cs := [.int .i64 (w64 x204)]) (c' := [.int .i64 p0, .int .i64 (w64 x196), .int .i64 (w64 x204), .int .i64 x32, .int .i64 x33]) ow214 Z Z Z (.inl Z) Z (L 0 Z Z) (L 2 Z Z) ti3 (by simp [topV]) Z Z (nr Z) Z Z nd (fun V215 le216 ow217 => ?_)
           refine U.done (nr Z) ?_
           refine blkN (blkN (sqN ?_))
           exact ⟨_, V215, Z, ⟨w64 x196, w64 x204, x32, x33, Z, (((le201.trans le209).trans le213).trans le216), ow217, h206⟩, (allCons (L 29 Z Z) (allCons (L 30 Z Z) (allCons (L 31 Z Z) (allCons (L 32 Z Z) (allCons (L 33 Z Z) (allCons (L 34 Z Z) allNil))))))⟩
          ·have h218 := ifF c194 h193
           refine WP.skip ?_
           refine blkN (blkN (sqN ?_))
           exact ⟨_, V40, Z, ⟨x30, x31, x32, x33, Z, (.refl _), ow42, h218⟩, (allCons (L 21 Z Z) (allCons (L 22 Z Z) (allCons (L 23 Z Z) (allCons (L 24 Z Z) (allCons (L 25 Z Z) (allCons (L 26 Z Z) allNil))))))⟩
 ·have h219 := ifF c48 h47
  refine WP.exit ?_
  refine sqE (sqE (blkE (sqN ?_)))
  have h220 := exitS h219 e45
  refine WP.usreg Z ?_
  refine U.k Z Z (.inl Z) (S.loadB Z (L 3 Z Z) Tryd.underlying50 Z ti50 (ow42.own (k := 1) Z).get Z) nd ?_
  refine O.store (k := 0) (cs := [.int .i64 p0, .int .i64 x30, .int .i64 x31, .int .i64 x32, .int .i64 x33]) (c' := [.int .i64 p0, .int .i64 x30, .int .i64 x31, .int .i64 x32, .int .i64 x33]) ow42 Z Z Z (.inl Z) Z (L 3 Z Z) (L 0 Z Z) ti50 (by simp [topV]) Z Z (nr Z) Z Z nd (fun V221 le222 ow223 => ?_)
  refine U.done (nr Z) ?_
  refine WP.ret ?_
  refine fin.cellN (.inr Z) Z (L 3 Z Z) Tryd.underlying50 Z ti50 (ow223.own (k := 0) Z).get Z ⟨V221, Z, (((((le3.trans le8).trans le12).trans le27).trans le41).trans le222), ?_⟩
  have ow224 := ow223.drop 0 Z
  have ow225 := ow224.drop 0 Z
  have ow226 := ow225.drop 0 Z
  have e227 := Option.some.inj h220
  subst e227
  exact ⟨rfl, ow226⟩
theorem wk_isa_used (V : Vw) (Rs : List At) (gl : Glb V) (p0 : TInst) (ow : Ow V (Rs)) (r : TInst) (h : isa_used p0 = some r) : ∃ v V', Cl Tryd.prog NG 57 #[.agg #[.int .i64 p0.op, .int .i64 p0.d, .int .i64 p0.a, .int .i64 p0.b, .int .i64 p0.imm]] V.H v V'.H ∧ V.le V' ∧ (v = .agg #[.int .i64 r.op, .int .i64 r.d, .int .i64 r.a, .int .i64 r.b, .int .i64 r.imm] ∧ Ow V' (Rs)) := by
 refine Ct.of gl.lo Tryd.func57 Z (nr Z) ?_
 unfold isa_used at h
 refine WP.usreg Z ?_
 refine O.box ow Z Z (.inl Z) Z (L 0 Z Z) (by simp [topV]) Z nd (fun b1 V2 le3 ow4 => ?_)
 refine O.alloc ow4 Z Z (.inl Z) Z ti50 Z Z nd (fun b6 V7 le8 ow9 => ?_)
 refine U.done (nr Z) ?_
 refine WP.usreg Z ?_
 refine U.p (v := .pointer (some ⟨b1, 0, none⟩)) Z Z (.inl Z) (S.fieldAddr Z (L 1 Z Z) Tryd.underlying50 Z ti3 Z Z) ?_
 refine U.k Z Z (.inl Z) (S.load Z (L 0 Z Z) Tryd.underlying3 Z ((ow9.own (k := 1) Z).cell Z)) nd ?_
 refine U.p (v := .agg #[.int .i64 p0.op, .int .i64 0, .int .i64 0, .int .i64 0, .int .i64 0]) Z Z (.inl Z) (S.build (vs := [.int .i64 p0.op]) Z ti50 Z pl50 (aC (L 0 Z Z) aN) (allC (by simp [topV]) allN) Z) ?_
 refine O.alloc ow9 Z Z (.inl Z) Z ti50 Z Z nd (fun b11 V12 le13 ow14 => ?_)
 refine O.store (k := 0) (cs := [.int .i64 p0.op, .int .i64 0, .int .i64 0, .int .i64 0, .int .i64 0]) (c' := [.int .i64 p0.op, .int .i64 0, .int .i64 0, .int .i64 0, .int .i64 0]) ow14 Z Z Z (.inl Z) Z (L 0 Z Z) (L 1 Z Z) ti50 (by simp [topV]) Z Z (nr Z) Z Z nd (fun V16 le17 ow18 => ?_)
 refine U.done (nr Z) ?_
 refine WP.seq ?_
 refine WP.usreg Z ?_
 refine U.p (v := .pointer (some ⟨b1, 0, none⟩)) Z Z (.inl Z) (S.fieldAddr Z (L 5 Z Z) Tryd.underlying50 Z ti3 Z Z) ?_
 refine U.k Z Z (.inl Z) (S.load Z (L 0 Z Z) Tryd.underlying3 Z ((ow18.own (k := 2) Z).cell Z)) nd ?_
 obtain ⟨x19, hx20, h21⟩ := bindS h
 obtain ⟨_, _, _, cs22, hv23, hf24, hr25, hc26⟩ := (gl.up (((le3.trans le8).trans le13).trans le17)).g1.at hx20
 cases hv23
 obtain rfl : cs22 = [.string x19.name, .string x19.fields, .int .u32 x19.word] := hr25
 refine U.p Z Z (.inl Z) (S.indexA Z Gl (L 0 Z Z) Tryd.underlying82 ti81 (ix_ge hx20) (by have q1 := ix_lt hx20; have q2 := gl1_len; omega)) ?_
 refine U.p (v := .pointer (some ⟨1, 0 + Int.toNat p0.op * 3 + 1, none⟩)) Z Z (.inl Z) (S.fieldAddr Z (L 0 Z Z) Tryd.underlying81 Z ti9 Z Z) ?_
 refine U.k Z Z (.inl Z) (S.load Z (L 0 Z Z) Tryd.underlying9 Z (hc26 1 _ Z)) nd ?_
 obtain ⟨xs27, hx28, h29⟩ := bindS h21
 refine O.bytes ow18 Z Z (.inl Z) Z (L 0 Z Z) Tryd.underlying9 Tryd.underlying46 Tryd.underlying5 hx28 (fun _ => nd) (fun v30 V31 le32 ow33 => ?_)
 refine U.p Z Z (.inl Z) (ow33.oslen (k := 0) Z Z (L 0 Z Z) Tryd.underlying46) ?_
 refine U.p Z Z (.inl Z) (S.move Z K) ?_
 refine U.done (nr Z) ?_
 refine WP.blk ?_
 have ow40 := ow33.pick 0 Z
 have ow41 := ow40.pick 1 Z
 have ow42 := ow41.pick 2 Z
 have ow43 := ow42.pick 3 Z
 unfold isa_used_l1 at h29
 obtain ⟨n45, hn44⟩ := loopO_some.1 h29
 refine WP.loopI2 (fun n l V' => ∃ (x35 : Int) (x36 : Int) (x37 : Int) (x38 : Int) (x39 : Int), l = [(1, .pointer (some ⟨b1, 0, none⟩)), (2, .pointer (some ⟨b6, 0, none⟩)), (3, .pointer (some ⟨b11, 0, none⟩)), (14, v30), (15, .int .i64 (xs27.length : Int)), (16, .int .i64 x39)] ∧ V31.le V' ∧ Ow V' (.pt b1 (.cells 0 [.int .i64 p0.op, .int .i64 p0.d, .int .i64 p0.a, .int .i64 p0.b, .int .i64 p0.imm]) :: .pt b6 (.cells 5 [.int .i64 0, .int .i64 0, .int .i64 0, .int .i64 0, .int .i64 0]) :: .pt b11 (.cells 5 [.int .i64 p0.op, .int .i64 x35, .int .i64 x36, .int .i64 x37, .int .i64 x38]) :: .os (RT.int .u8) v30 xs27 :: Rs) ∧ itO (fun s => isa_used_l1b p0 xs27 s.1 s.2.1 s.2.2.1 s.2.2.2.1 s.2.2.2.2) n (x35, x36, x37, x38, x39) = some r) n45 _ ⟨0, 0, 0, 0, 0, Z, .refl _, ow43, hn44⟩ (allCons (L 13 Z Z) (allCons (L 12 Z Z) (allCons (L 8 Z Z) (allCons (L 2 Z Z) (allCons (L 1 Z Z) (allCons (L 0 Z Z) allNil)))))) ?_
 rintro _ _ V46 ⟨x35, x36, x37, x38, x39, rfl, le47, ow48, h52⟩
 obtain ⟨m49, q50, rfl, h53, e51⟩ := itS h52
 replace h53 : isa_used_l1b p0 xs27 x35 x36 x37 x38 x39 = some q50 := h53
 unfold isa_used_l1b at h53
 refine WP.usreg Z ?_
 refine U.p Z Z (.inl Z) (S.lss Z (L 5 Z Z) (L 4 Z Z)) ?_
 refine U.done (nr Z) ?_
 refine WP.seq ?_
 refine WP.cond _ (L 0 Z Z) Z (fun c54 => ?_) (fun c54 => ?_)
 ·have h55 := ifT c54 h53
  refine WP.skip ?_
  refine sqN ?_
  refine WP.seqI (fun l V' => ∃ (x56 : Int) (x57 : Int) (x58 : Int) (x59 : Int), l = [(1, .pointer (some ⟨b1, 0, none⟩)), (2, .pointer (some ⟨b6, 0, none⟩)), (3, .pointer (some ⟨b11, 0, none⟩)), (14, v30), (15, .int .i64 (xs27.length : Int)), (16, .int .i64 x39)] ∧ V46.le V' ∧ Ow V' (.pt b1 (.cells 0 [.int .i64 p0.op, .int .i64 p0.d, .int .i64 p0.a, .int .i64 p0.b, .int .i64 p0.imm]) :: .pt b6 (.cells 5 [.int .i64 0, .int .i64 0, .int .i64 0, .int .i64 0, .int .i64 0]) :: .pt b11 (.cells 5 [.int .i64 p0.op, .int .i64 x56, .int .i64 x57, .int .i64 x58, .int .i64 x59]) :: .os (RT.int .u8) v30 xs27 :: Rs) ∧ isa_used_k1 x39 x56 x57 x58 x59 = some q50) ?_ ?_
  ·rintro _ V60 ⟨x56, x57, x58, x59, rfl, le61, ow62, h63⟩
   unfold isa_used_k1 at h63
   refine WP.ureg Z ?_
   refine U.p Z Z (.inl Z) (S.add Z (L 5 Z Z) K) ?_
   refine U.p Z Z (.inl Z) (S.move Z (L 0 Z Z)) ?_
   refine U.done (nr Z) ?_
   refine sqN ?_
   exact ⟨_, V60, Z, ⟨m49, Nat.lt_succ_self _, x56, x57, x58, x59, w64 (x39 + 1), Z, (le47.trans le61), ow62, backS h63 e51⟩, (allCons (L 2 Z Z) (allCons (L 3 Z Z) (allCons (L 4 Z Z) (allCons (L 5 Z Z) (allCons (L 6 Z Z) (allCons (L 0 Z Z) allNil))))))⟩
  ·skip
   refine WP.blk ?_
   refine WP.usreg Z ?_
   obtain ⟨x64, hx65, h66⟩ := bindS h55
   obtain ⟨b67, o68, n69, c70, hv71⟩ := ow48.ospt (k := 3) Z hx65
   obtain ⟨_, hv72, _⟩ := ow48.osel (k := 3) Z hv71 hx65
   refine U.p Z Z (.inl Z) (S.index Z ((L 4 Z Z).trans hv72) (L 6 Z Z) Tryd.underlying46 ti5 (ix_ge hx65) (ix_lt hx65)) ?_
   obtain ⟨cs73, hv74, hlt75, hr76, hc77⟩ := ow48.osel (k := 3) Z hv71 hx65
   obtain rfl : cs73 = [.int .u8 x64] := hr76
   refine U.k Z Z (.inl Z) (S.load Z (L 0 Z Z) Tryd.underlying5 Z (hc77 0 _ Z)) nd ?_
   refine U.p Z Z (.inl Z) (S.assign Z (L 0 Z Z)) ?_
   refine U.done (nr Z) ?_
   refine WP.usreg Z ?_
   refine U.p Z Z (.inl Z) (S.move Z (L 0 Z Z)) ?_
   refine U.done (nr Z) ?_
   refine WP.blk ?_
   refine WP.usreg Z ?_
   refine U.p Z Z (.inl Z) (S.eqlI Z (L 0 Z Z) K) ?_
   refine U.p Z Z (.inl Z) (S.assign Z (L 0 Z Z)) ?_
   refine U.done (nr Z) ?_
   refine WP.cond _ (L 0 Z Z) Z (fun c78 => ?_) (fun c78 => ?_)
   ·have h79 := ifT c78 h66
    refine WP.ureg Z ?_
    refine U.p (v := .pointer (some ⟨b1, 1, none⟩)) Z Z (.inl Z) (S.fieldAddr Z (L 7 Z Z) Tryd.underlying50 Z ti3 Z Z) ?_
    refine U.k Z Z (.inl Z) (S.load Z (L 0 Z Z) Tryd.underlying3 Z ((ow48.own (k := 0) Z).cell Z)) nd ?_
    refine U.p (v := .pointer (some ⟨b11, 1, none⟩)) Z Z (.inl Z) (S.fieldAddr Z (L 11 Z Z) Tryd.underlying50 Z ti3 Z Z) ?_
    refine O.store (k := 2) (cs := [.int .i64 p0.d]) (c' := [.int .i64 p0.op, .int .i64 p0.d, .int .i64 x36, .int .i64 x37, .int .i64 x38]) ow48 Z Z Z (.inl Z) Z (L 0 Z Z) (L 1 Z Z) ti3 (by simp [topV]) Z Z (nr Z) Z Z nd (fun V80 le81 ow82 => ?_)
    refine U.done (nr Z) ?_
    refine blkN (blkN (sqN ?_))
    exact ⟨_, V80, Z, ⟨p0.d, x36, x37, x38, Z, le81, ow82, h79⟩, (allCons (L 10 Z Z) (allCons (L 11 Z Z) (allCons (L 12 Z Z) (allCons (L 13 Z Z) (allCons (L 14 Z Z) (allCons (L 15 Z Z) allNil))))))⟩
   ·have h83 := ifF c78 h66
    refine WP.usreg Z ?_
    refine U.p Z Z (.inl Z) (S.eqlI Z (L 2 Z Z) K) ?_
    refine U.p Z Z (.inl Z) (S.assign Z (L 0 Z Z)) ?_
    refine U.done (nr Z) ?_
    refine WP.cond _ (L 0 Z Z) Z (fun c84 => ?_) (fun c84 => ?_)
    ·have h85 := ifT c84 h83
     refine WP.ureg Z ?_
     refine U.p (v := .pointer (some ⟨b1, 2, none⟩)) Z Z (.inl Z) (S.fieldAddr Z (L 9 Z Z) Tryd.underlying50 Z ti3 Z Z) ?_
     refine U.k Z Z (.inl Z) (S.load Z (L 0 Z Z) Tryd.underlying3 Z ((ow48.own (k := 0) Z).cell Z)) nd ?_
     refine U.p (v := .pointer (some ⟨b11, 2, none⟩)) Z Z (.inl Z) (S.fieldAddr Z (L 13 Z Z) Tryd.underlying50 Z ti3 Z Z) ?_
     refine O.store (k := 2) (cs := [.int .i64 p0.a]) (c' := [.int .i64 p0.op, .int .i64 x35, .int .i64 p0.a, .int .i64 x37, .int .i64 x38]) ow48 Z Z Z (.inl Z) Z (L 0 Z Z) (L 1 Z Z) ti3 (by simp [topV]) Z Z (nr Z) Z Z nd (fun V86 le87 ow88 => ?_)
     refine U.done (nr Z) ?_
     refine blkN (blkN (sqN ?_))
     exact ⟨_, V86, Z, ⟨x35, p0.a, x37, x38, Z, le87, ow88, h85⟩, (allCons (L 12 Z Z) (allCons (L 13 Z Z) (allCons (L 14 Z Z) (allCons (L 15 Z Z) (allCons (L 16 Z Z) (allCons (L 17 Z Z) allNil))))))⟩
    ·have h89 := ifF c84 h83
     refine WP.usreg Z ?_
     refine U.p Z Z (.inl Z) (S.eqlI Z (L 4 Z Z) K) ?_
     refine U.p Z Z (.inl Z) (S.assign Z (L 0 Z Z)) ?_
     refine U.done (nr Z) ?_
     refine WP.cond _ (L 0 Z Z) Z (fun c90 => ?_) (fun c90 => ?_)
     ·have h91 := ifT c90 h89
      refine WP.ureg Z ?_
      refine U.p (v := .pointer (some ⟨b1, 3, none⟩)) Z Z (.inl Z) (S.fieldAddr Z (L 11 Z Z) Tryd.underlying50 Z ti3 Z Z) ?_
      refine U.k Z Z (.inl Z) (S.load Z (L 0 Z Z) Tryd.underlying3 Z ((ow48.own (k := 0) Z).cell Z)) nd ?_
      refine U.p (v := .pointer (some ⟨b11, 3, none⟩)) Z Z (.inl Z) (S.fieldAddr Z (L 15 Z Z) Tryd.underlying50 Z ti3 Z Z) ?_
      refine O.store (k := 2) (cs := [.int .i64 p0.b]) (c' := [.int .i64 p0.op, .int .i64 x35, .int .i64 x36, .int .i64 p0.b, .int .i64 x38]) ow48 Z Z Z (.inl Z) Z (L 0 Z Z) (L 1 Z Z) ti3 (by simp [topV]) Z Z (nr Z) Z Z nd (fun V92 le93 ow94 => ?_)
      refine U.done (nr Z) ?_
      refine blkN (blkN (sqN ?_))
      exact ⟨_, V92, Z, ⟨x35, x36, p0.b, x38, Z, le93, ow94, h91⟩, (allCons (L 14 Z Z) (allCons (L 15 Z Z) (allCons (L 16 Z Z) (allCons (L 17 Z Z) (allCons (L 18 Z Z) (allCons (L 19 Z Z) allNil))))))⟩
     ·have h95 := ifF c90 h89
      refine WP.usreg Z ?_
      refine U.p Z Z (.inl Z) (S.eqlI Z (L 6 Z Z) K) ?_
      refine U.p Z Z (.inl Z) (S.assign Z (L 0 Z Z)) ?_
      refine U.done (nr Z) ?_
      refine WP.cond _ (L 0 Z Z) Z (fun c96 => ?_) (fun c96 => ?_)
      ·have h97 := ifT c96 h95
       refine WP.udreg Z Z Z ?_
       refine U.p (v := .pointer (some ⟨b1, 1, none⟩)) Z Z (.inl Z) (S.fieldAddr Z (L 13 Z Z) Tryd.underlying50 Z ti3 Z Z) ?_
       refine U.k Z Z (.inl Z) (S.load Z (L 0 Z Z) Tryd.underlying3 Z ((ow48.own (k := 0) Z).cell Z)) (fun _ => (okH.nil (fun r h => by cases h; exact (ow48.own (k := 0) Z).lt))) ?_
       refine U.p (v := .pointer (some ⟨b1, 2, none⟩)) Z Z (.inl Z) (S.fieldAddr Z (L 15 Z Z) Tryd.underlying50 Z ti3 Z Z) ?_
       refine U.k Z Z (.inl Z) (S.load Z (L 0 Z Z) Tryd.underlying3 Z ((ow48.own (k := 0) Z).cell Z)) (fun _ => (okH.cons trivial (okH.nil (fun r h => by cases h; exact (ow48.own (k := 0) Z).lt)))) ?_
       refine U.p (v := .pointer (some ⟨b11, 1, none⟩)) Z Z (.inl Z) (S.fieldAddr Z (L 19 Z Z) Tryd.underlying50 Z ti3 Z Z) ?_
       refine O.store (k := 2) (cs := [.int .i64 p0.d]) (c' := [.int .i64 p0.op, .int .i64 p0.d, .int .i64 x36, .int .i64 x37, .int .i64 x38]) ow48 Z Z Z (.inl Z) Z (L 0 Z Z) (L 3 Z Z) ti3 (by simp [topV]) Z Z (nr Z) Z Z (fun _ => (okH.cons (Or.inr (upd_same (ow48.nept (j := 0) (k := 2) Z Z (by decide)))) (okH.cons (Or.inl Z) (okH.nil (fun r h => nomatch h))))) (fun V98 le99 ow100 => ?_)
       refine U.p (v := .pointer (some ⟨b11, 2, none⟩)) Z Z (.inl Z) (S.fieldAddr Z (L 20 Z Z) Tryd.underlying50 Z ti3 Z Z) ?_
       refine O.store (k := 2) (cs := [.int .i64 p0.a]) (c' := [.int .i64 p0.op, .int .i64 p0.d, .int .i64 p0.a, .int .i64 x37, .int .i64 x38]) ow100 Z Z Z (.inl Z) Z (L 0 Z Z) (L 2 Z Z) ti3 (by simp [topV]) Z Z (nr Z) Z Z (fun _ => (okH.cons Z (okH.cons (Or.inl Z) (okH.cons (Or.inl Z) (okH.nil (fun r h => nomatch h)))))) (fun V101 le102 ow103 => ?_)
       refine U.done (nr Z) ?_
       refine blkN (blkN (sqN ?_))
       exact ⟨_, V101, Z, ⟨p0.d, p0.a, x37, x38, Z, (le99.trans le102), ow103, h97⟩, (allCons (L 19 Z Z) (allCons (L 20 Z Z) (allCons (L 21 Z Z) (allCons (L 22 Z Z) (allCons (L 23 Z Z) (allCons (L 24 Z Z) allNil))))))⟩
      ·have h104 := ifF c96 h95
       refine WP.ureg Z ?_
       refine U.p (v := .pointer (some ⟨b1, 4, none⟩)) Z Z (.inl Z) (S.fieldAddr Z (L 13 Z Z) Tryd.underlying50 Z ti3 Z Z) ?_
       refine U.k Z Z (.inl Z) (S.load Z (L 0 Z Z) Tryd.underlying3 Z ((ow48.own (k := 0) Z).cell Z)) nd ?_
       refine U.p (v := .pointer (some ⟨b11, 4, none⟩)) Z Z (.inl Z) (S.fieldAddr Z (L 17 Z Z) Tryd.underlying50 Z ti3 Z Z) ?_
       refine O.store (k := 2) (cs := [.int .i64 p0.imm]) (c' := [.int .i64 p0.op, .int .i64 x35, .int .i64 x36, .int .i64 x37, .int .i64 p0.imm]) ow48 Z Z Z (.inl Z) Z (L 0 Z Z) (L 1 Z Z) ti3 (by simp [topV]) Z Z (nr Z) Z Z nd (fun V105 le106 ow107 => ?_)
       refine U.done (nr Z) ?_
       refine blkN (blkN (sqN ?_))
       exact ⟨_, V105, Z, ⟨x35, x36, x37, p0.imm, Z, le106, ow107, h104⟩, (allCons (L 16 Z Z) (allCons (L 17 Z Z) (allCons (L 18 Z Z) (allCons (L 19 Z Z) (allCons (L 20 Z Z) (allCons (L 21 Z Z) allNil))))))⟩
 ·have h108 := ifF c54 h53
  refine WP.exit ?_
  refine sqE (sqE (blkE (sqN ?_)))
  have h109 := exitS h108 e51
  refine WP.usreg Z ?_
  refine U.k Z Z (.inl Z) (S.loadB Z (L 3 Z Z) Tryd.underlying50 Z ti50 (ow48.own (k := 2) Z).get Z) nd ?_
  refine O.store (k := 1) (cs := [.int .i64 p0.op, .int .i64 x35, .int .i64 x36, .int .i64 x37, .int .i64 x38]) (c' := [.int .i64 p0.op, .int .i64 x35, .int .i64 x36, .int .i64 x37, .int .i64 x38]) ow48 Z Z Z (.inl Z) Z (L 3 Z Z) (L 0 Z Z) ti50 (by simp [topV]) Z Z (nr Z) Z Z nd (fun V110 le111 ow112 => ?_)
  refine U.done (nr Z) ?_
  refine WP.ret ?_
  refine fin.cellN (.inr Z) Z (L 3 Z Z) Tryd.underlying50 Z ti50 (ow112.own (k := 1) Z).get Z ⟨V110, Z, ((((((le3.trans le8).trans le13).trans le17).trans le32).trans le47).trans le111), ?_⟩
  have ow113 := ow112.drop 0 Z
  have ow114 := ow113.drop 0 Z
  have ow115 := ow114.drop 0 Z
  have ow116 := ow115.drop 0 Z
  have e117 := Option.some.inj h109
  subst e117
  exact ⟨rfl, ow116⟩
theorem wk_isa_register (V : Vw) (Rs : List At) (gl : Glb V) (p0 : Int) (ow : Ow V (Rs)) (r : Bool) (h : isa_register p0 = some r) : ∃ v V', Cl Tryd.prog NG 64 #[.int .i64 p0] V.H v V'.H ∧ V.le V' ∧ (v = .bool r ∧ Ow V' (Rs)) := by
 refine Ct.of gl.lo Tryd.func64 Z (nr Z) ?_
 unfold isa_register at h
 refine WP.usreg Z ?_
 refine U.p Z Z (.inl Z) (S.assign Z K) ?_
 refine U.done (nr Z) ?_
 refine WP.usreg Z ?_
 refine U.p Z Z (.inl Z) (S.move Z (L 1 Z Z)) ?_
 refine U.p Z Z (.inl Z) (S.geq Z (L 0 Z Z) K) ?_
 refine U.p Z Z (.inl Z) (S.move Z (L 0 Z Z)) ?_
 refine U.joinX 6 (fun e H => ∃ (u1 u2 : Value), H = V.H ∧ e = [(8, .bool ((decide (0 ≤ p0)) && (decide (p0 < 32)))), (7, u1), (6, u2)]) ?_ ?_
 ·rintro _ _ ⟨u1, u2, rfl, rfl⟩
  refine U.p Z Z (.inl Z) (S.assign Z (L 0 Z Z)) ?_
  refine U.done (nr Z) ?_
  refine WP.ret ?_
  refine fin.slot (.inr Z) Z (L 0 Z Z) ⟨V, Z, (.refl _), ?_⟩
  have e6 := Option.some.inj h
  subst e6
  exact ⟨rfl, ow⟩
 ·intro kk
  refine bcase (b := decide (0 ≤ p0)) (fun g7 => ?_) (fun g7 => ?_)
  ·skip
   refine U.p Z Z (.inr ⟨_, _, _, Z, Z, ((L 0 Z Z).trans (cB g7))⟩) (S.move Z (L 4 Z Z)) ?_
   refine U.p Z Z (.inr ⟨_, _, _, Z, Z, ((L 1 Z Z).trans (cB g7))⟩) (S.lss Z (L 0 Z Z) K) ?_
   refine U.p Z Z (.inl Z) (S.pickT Z ((L 2 Z Z).trans (cB g7)) (L 0 Z Z)) ?_
   exact kk [(8, .bool (decide (p0 < 32))), (7, .bool (decide (p0 < 32))), (6, .int .i64 p0)] _ ⟨.bool (decide (p0 < 32)), .int .i64 p0, Z, (by rw [g7, Bool.true_and])⟩
  ·skip
   refine U.x Z Z Z Z ((L 0 Z Z).trans (cB g7)) (by decide) ?_
   refine U.x Z Z Z Z ((L 1 Z Z).trans (cB g7)) (by decide) ?_
   refine U.p Z Z (.inl Z) (S.pickF Z ((L 2 Z Z).trans (cB g7)) K) ?_
   exact kk [(8, .bool false), (7, .tuple #[]), (6, .tuple #[])] _ ⟨.tuple #[], .tuple #[], Z, (by rw [g7, Bool.false_and])⟩
theorem wk_word_Fits (V : Vw) (Rs : List At) (gl : Glb V) (p0 : Int) (p1 : Int) (ow : Ow V (Rs)) (r : Bool) (h : word_Fits p0 p1 = some r) : ∃ v V', Cl Tryd.prog NG 65 #[.int .i64 p0, .int .i64 p1] V.H v V'.H ∧ V.le V' ∧ (v = .bool r ∧ Ow V' (Rs)) := by
 refine Ct.of gl.lo Tryd.func65 Z (nr Z) ?_
 unfold word_Fits at h
 refine WP.usreg Z ?_
 refine U.p Z Z (.inl Z) (S.assign Z K) ?_
 refine U.done (nr Z) ?_
 refine WP.seq ?_
 refine WP.usreg Z ?_
 refine U.p Z Z (.inl Z) (S.move Z (L 2 Z Z)) ?_
 refine U.p Z Z (.inl Z) (S.lss Z (L 0 Z Z) K) ?_
 refine U.done (nr Z) ?_
 refine WP.cond _ (L 0 Z Z) Z (fun c1 => ?_) (fun c1 => ?_)
 ·have h2 := ifT c1 h
  refine WP.usreg Z ?_
  refine U.p Z Z (.inl Z) (S.assign Z K) ?_
  refine U.done (nr Z) ?_
  refine WP.ret ?_
  refine sqR ?_
  refine fin.slot (.inr Z) Z (L 0 Z Z) ⟨V, Z, (.refl _), ?_⟩
  have e3 := Option.some.inj h2
  subst e3
  exact ⟨rfl, ow⟩
 ·have h4 := ifF c1 h
  refine WP.skip ?_
  refine sqN ?_
  refine WP.seq ?_
  refine WP.usreg Z ?_
  refine U.p Z Z (.inl Z) (S.move Z (L 4 Z Z)) ?_
  refine U.p Z Z (.inl Z) (S.gtr Z (L 0 Z Z) K) ?_
  refine U.done (nr Z) ?_
  refine WP.cond _ (L 0 Z Z) Z (fun c5 => ?_) (fun c5 => ?_)
  ·have h6 := ifT c5 h4
   refine WP.usreg Z ?_
   refine U.p Z Z (.inl Z) (S.assign Z K) ?_
   refine U.done (nr Z) ?_
   refine WP.ret ?_
   refine sqR ?_
   refine fin.slot (.inr Z) Z (L 0 Z Z) ⟨V, Z, (.refl _), ?_⟩
   have e7 := Option.some.inj h6
   subst e7
   exact ⟨rfl, ow⟩
  ·have h8 := ifF c5 h4
   refine WP.skip ?_
   refine sqN ?_
   refine WP.usreg Z ?_
   refine U.p Z Z (.inl Z) (S.move Z (L 5 Z Z)) ?_
   refine U.p Z Z (.inl Z) (S.move Z (L 7 Z Z)) ?_
   refine U.p Z Z (.inl Z) (S.sub Z (L 0 Z Z) K) ?_
   obtain ⟨x9, hx10, h11⟩ := bindS h8
   refine U.p Z Z (.inl Z) (S.shl hx10 Z K (L 0 Z Z)) ?_
   refine U.p Z Z (.inl Z) (S.geq Z (L 3 Z Z) (L 0 Z Z)) ?_
   refine U.p Z Z (.inl Z) (S.move Z (L 0 Z Z)) ?_
   obtain ⟨y12, hy13, h14⟩ := bindS h11
   refine U.joinX 12 (fun e H => ∃ (u15 u16 u17 u18 u19 : Value), H = V.H ∧ e = [(20, .bool y12), (19, u15), (18, u16), (17, u17), (16, u18), (15, u19)]) ?_ ?_
   ·rintro _ _ ⟨u15, u16, u17, u18, u19, rfl, rfl⟩
    refine U.p Z Z (.inl Z) (S.assign Z (L 0 Z Z)) ?_
    refine U.done (nr Z) ?_
    refine WP.ret ?_
    refine fin.slot (.inr Z) Z (L 0 Z Z) ⟨V, Z, (.refl _), ?_⟩
    have e23 := Option.some.inj h14
    subst e23
    exact ⟨rfl, ow⟩
   ·intro kk
    refine bcase (b := decide (x9 ≤ p0)) (fun g24 => ?_) (fun g24 => ?_)
    ·have h25 := ifT g24 hy13
     refine U.p Z Z (.inr ⟨_, _, _, Z, Z, ((L 0 Z Z).trans (cB g24))⟩) (S.move Z (L 11 Z Z)) ?_
     refine U.p Z Z (.inr ⟨_, _, _, Z, Z, ((L 1 Z Z).trans (cB g24))⟩) (S.move Z (L 13 Z Z)) ?_
     refine U.p Z Z (.inr ⟨_, _, _, Z, Z, ((L 2 Z Z).trans (cB g24))⟩) (S.sub Z (L 0 Z Z) K) ?_
     obtain ⟨x26, hx27, h28⟩ := bindS h25
     refine U.p Z Z (.inr ⟨_, _, _, Z, Z, ((L 3 Z Z).trans (cB g24))⟩) (S.shl hx27 Z K (L 0 Z Z)) ?_
     refine U.p Z Z (.inr ⟨_, _, _, Z, Z, ((L 4 Z Z).trans (cB g24))⟩) (S.lss Z (L 3 Z Z) (L 0 Z Z)) ?_
     refine U.p Z Z (.inl Z) (S.pickT Z ((L 5 Z Z).trans (cB g24)) (L 0 Z Z)) ?_
     have e29 := Option.some.inj h28
     subst e29
     exact kk [(20, .bool (decide (p0 < x26))), (19, .bool (decide (p0 < x26))), (18, .int .i64 x26), (17, .int .i64 (w64 (p1 - 1))), (16, .int .i64 p1), (15, .int .i64 p0)] _ ⟨.bool (decide (p0 < x26)), .int .i64 x26, .int .i64 (w64 (p1 - 1)), .int .i64 p1, .int .i64 p0, Z, Z⟩
    ·have h30 := ifF g24 hy13
     refine U.x Z Z Z Z ((L 0 Z Z).trans (cB g24)) (by decide) ?_
     refine U.x Z Z Z Z ((L 1 Z Z).trans (cB g24)) (by decide) ?_
     refine U.x Z Z Z Z ((L 2 Z Z).trans (cB g24)) (by decide) ?_
     refine U.x Z Z Z Z ((L 3 Z Z).trans (cB g24)) (by decide) ?_
     refine U.x Z Z Z Z ((L 4 Z Z).trans (cB g24)) (by decide) ?_
     refine U.p Z Z (.inl Z) (S.pickF Z ((L 5 Z Z).trans (cB g24)) K) ?_
     have e31 := Option.some.inj h30
     subst e31
     exact kk [(20, .bool false), (19, .tuple #[]), (18, .tuple #[]), (17, .tuple #[]), (16, .tuple #[]), (15, .tuple #[])] _ ⟨.tuple #[], .tuple #[], .tuple #[], .tuple #[], .tuple #[], Z, Z⟩
theorem wk_isa_part (V : Vw) (Rs : List At) (gl : Glb V) (p0 : Int) (p1 : TInst) (b1 : Nat) (z2 : Nat) (ow : Ow V (.pt b1 (.cells z2 [.int .i64 p1.op, .int .i64 p1.d, .int .i64 p1.a, .int .i64 p1.b, .int .i64 p1.imm]) :: Rs)) (r : Int × Int × Int × Bool) (h : isa_part p0 p1 = some r) : ∃ v V', Cl Tryd.prog NG 52 #[.int .u8 p0, .pointer (some ⟨b1, 0, none⟩)] V.H v V'.H ∧ V.le V' ∧ (v = .tuple #[.int .i64 r.1, .int .i64 r.2.1, .int .i64 r.2.2.1, .bool r.2.2.2] ∧ Ow V' (.pt b1 (.cells z2 [.int .i64 p1.op, .int .i64 p1.d, .int .i64 p1.a, .int .i64 p1.b, .int .i64 p1.imm]) :: Rs)) := by
 refine Ct.of gl.lo Tryd.func52 Z (nr Z) ?_
 unfold isa_part at h
 refine WP.usreg Z ?_
 refine U.p Z Z (.inl Z) (S.assign Z K) ?_
 refine U.p Z Z (.inl Z) (S.assign Z K) ?_
 refine U.p Z Z (.inl Z) (S.assign Z K) ?_
 refine U.p Z Z (.inl Z) (S.assign Z K) ?_
 refine U.done (nr Z) ?_
 refine WP.seq ?_
 refine WP.usreg Z ?_
 refine U.p Z Z (.inl Z) (S.move Z (L 4 Z Z)) ?_
 refine U.done (nr Z) ?_
 refine WP.blk ?_
 refine WP.usreg Z ?_
 refine U.p Z Z (.inl Z) (S.eqlI Z (L 0 Z Z) K) ?_
 refine U.p Z Z (.inl Z) (S.assign Z (L 0 Z Z)) ?_
 refine U.done (nr Z) ?_
 refine WP.cond _ (L 0 Z Z) Z (fun c4 => ?_) (fun c4 => ?_)
 ·have h5 := ifT c4 h
  refine WP.usdreg Z Z Z ?_
  refine U.p Z Z (.inl Z) (S.move Z (L 8 Z Z)) ?_
  refine U.p Z Z (.inl Z) (S.nilCheck Z (L 0 Z Z)) ?_
  refine U.p (v := .pointer (some ⟨b1, 1, none⟩)) Z Z (.inl Z) (S.fieldAddr Z (L 0 Z Z) Tryd.underlying50 Z ti3 Z Z) ?_
  refine U.k Z Z (.inl Z) (S.load Z (L 0 Z Z) Tryd.underlying3 Z ((ow.own (k := 0) Z).cell Z)) (fun _ => (okH.nil (fun r h => by cases h; exact (ow.own (k := 0) Z).lt))) ?_
  refine U.p Z Z (.inl Z) (S.move Z (L 12 Z Z)) ?_
  refine U.p Z Z (.inl Z) (S.nilCheck Z (L 0 Z Z)) ?_
  refine U.p (v := .pointer (some ⟨b1, 1, none⟩)) Z Z (.inl Z) (S.fieldAddr Z (L 0 Z Z) Tryd.underlying50 Z ti3 Z Z) ?_
  refine U.k Z Z (.inl Z) (S.load Z (L 0 Z Z) Tryd.underlying3 Z ((ow.own (k := 0) Z).cell Z)) (fun _ => (okH.cons trivial (okH.nil (fun r h => by cases h; exact (ow.own (k := 0) Z).lt)))) ?_
  obtain ⟨x6, hx7, h8⟩ := bindS h5
  refine O.call (V := V) Z Z (.inl Z) Z en64 (aC (L 0 Z Z) aN) (wk_isa_register V _ gl p1.d ow _ hx7) (fun v9 V10 le11 hp12 => by obtain ⟨rfl, ow13⟩ := hp12; exact (fun _ => (okH.cons (Or.inl Z) (okH.cons (Or.inr (((ow13.own (k := 0) Z).get.trans (ow.own (k := 0) Z).get.symm))) (okH.nil (fun r h => nomatch h)))))) (fun v9 V10 le11 hp12 => ?_)
  obtain ⟨rfl, ow13⟩ := hp12
  refine U.p Z Z (.inl Z) (S.assign Z K) ?_
  refine U.p Z Z (.inl Z) (S.assign Z K) ?_
  refine U.p Z Z (.inl Z) (S.assign Z (L 7 Z Z)) ?_
  refine U.p Z Z (.inl Z) (S.assign Z (L 3 Z Z)) ?_
  refine U.done (nr Z) ?_
  refine WP.ret ?_
  refine blkR (sqR ?_)
  refine fin.slots' (.inr Z) (fsC (L 3 Z Z) (fsC (L 2 Z Z) (fsC (L 1 Z Z) (fsC (L 0 Z Z) fsN)))) Z ⟨V10, Z, le11, ?_⟩
  have e14 := Option.some.inj h8
  subst e14
  exact ⟨rfl, ow13⟩
 ·have h15 := ifF c4 h
  refine WP.usreg Z ?_
  refine U.p Z Z (.inl Z) (S.eqlI Z (L 2 Z Z) K) ?_
  refine U.p Z Z (.inl Z) (S.assign Z (L 0 Z Z)) ?_
  refine U.done (nr Z) ?_
  refine WP.cond _ (L 0 Z Z) Z (fun c16 => ?_) (fun c16 => ?_)
  ·have h17 := ifT c16 h15
   refine WP.usdreg Z Z Z ?_
   refine U.p Z Z (.inl Z) (S.move Z (L 10 Z Z)) ?_
   refine U.p Z Z (.inl Z) (S.nilCheck Z (L 0 Z Z)) ?_
   refine U.p (v := .pointer (some ⟨b1, 2, none⟩)) Z Z (.inl Z) (S.fieldAddr Z (L 0 Z Z) Tryd.underlying50 Z ti3 Z Z) ?_
   refine U.k Z Z (.inl Z) (S.load Z (L 0 Z Z) Tryd.underlying3 Z ((ow.own (k := 0) Z).cell Z)) (fun _ => (okH.nil (fun r h => by cases h; exact (ow.own (k := 0) Z).lt))) ?_
   refine U.p Z Z (.inl Z) (S.move Z (L 14 Z Z)) ?_
   refine U.p Z Z (.inl Z) (S.nilCheck Z (L 0 Z Z)) ?_
   refine U.p (v := .pointer (some ⟨b1, 2, none⟩)) Z Z (.inl Z) (S.fieldAddr Z (L 0 Z Z) Tryd.underlying50 Z ti3 Z Z) ?_
   refine U.k Z Z (.inl Z) (S.load Z (L 0 Z Z) Tryd.underlying3 Z ((ow.own (k := 0) Z).cell Z)) (fun _ => (okH.cons trivial (okH.nil (fun r h => by cases h; exact (ow.own (k := 0) Z).lt)))) ?_
   obtain ⟨x18, hx19, h20⟩ := bindS h17
   refine O.call (V := V) Z Z (.inl Z) Z en64 (aC (L 0 Z Z) aN) (wk_isa_register V _ gl p1.a ow _ hx19) (fun v21 V22 le23 hp24 => by obtain ⟨rfl, ow25⟩ := hp24; exact (fun _ => (okH.cons (Or.inl Z) (okH.cons (Or.inr (((ow25.own (k := 0) Z).get.trans (ow.own (k := 0) Z).get.symm))) (okH.nil (fun r h => nomatch h)))))) (fun v21 V22 le23 hp24 => ?_)
   obtain ⟨rfl, ow25⟩ := hp24
   refine U.p Z Z (.inl Z) (S.assign Z K) ?_
   refine U.p Z Z (.inl Z) (S.assign Z K) ?_
   refine U.p Z Z (.inl Z) (S.assign Z (L 7 Z Z)) ?_
   refine U.p Z Z (.inl Z) (S.assign Z (L 3 Z Z)) ?_
   refine U.done (nr Z) ?_
   refine WP.ret ?_
   refine blkR (sqR ?_)
   refine fin.slots' (.inr Z) (fsC (L 3 Z Z) (fsC (L 2 Z Z) (fsC (L 1 Z Z) (fsC (L 0 Z Z) fsN)))) Z ⟨V22, Z, le23, ?_⟩
   have e26 := Option.some.inj h20
   subst e26
   exact ⟨rfl, ow25⟩
  ·have h27 := ifF c16 h15
   refine WP.usreg Z ?_
   refine U.p Z Z (.inl Z) (S.eqlI Z (L 4 Z Z) K) ?_
   refine U.p Z Z (.inl Z) (S.assign Z (L 0 Z Z)) ?_
   refine U.done (nr Z) ?_
   refine WP.cond _ (L 0 Z Z) Z (fun c28 => ?_) (fun c28 => ?_)
   ·have h29 := ifT c28 h27
    refine WP.usdreg Z Z Z ?_
    refine U.p Z Z (.inl Z) (S.move Z (L 12 Z Z)) ?_
    refine U.p Z Z (.inl Z) (S.nilCheck Z (L 0 Z Z)) ?_
    refine U.p (v := .pointer (some ⟨b1, 3, none⟩)) Z Z (.inl Z) (S.fieldAddr Z (L 0 Z Z) Tryd.underlying50 Z ti3 Z Z) ?_
    refine U.k Z Z (.inl Z) (S.load Z (L 0 Z Z) Tryd.underlying3 Z ((ow.own (k := 0) Z).cell Z)) (fun _ => (okH.nil (fun r h => by cases h; exact (ow.own (k := 0) Z).lt))) ?_
    refine U.p Z Z (.inl Z) (S.move Z (L 16 Z Z)) ?_
    refine U.p Z Z (.inl Z) (S.nilCheck Z (L 0 Z Z)) ?_
    refine U.p (v := .pointer (some ⟨b1, 3, none⟩)) Z Z (.inl Z) (S.fieldAddr Z (L 0 Z Z) Tryd.underlying50 Z ti3 Z Z) ?_
    refine U.k Z Z (.inl Z) (S.load Z (L 0 Z Z) Tryd.underlying3 Z ((ow.own (k := 0) Z).cell Z)) (fun _ => (okH.cons trivial (okH.nil (fun r h => by cases h; exact (ow.own (k := 0) Z).lt)))) ?_
    obtain ⟨x30, hx31, h32⟩ := bindS h29
    refine O.call (V := V) Z Z (.inl Z) Z en64 (aC (L 0 Z Z) aN) (wk_isa_register V _ gl p1.b ow _ hx31) (fun v33 V34 le35 hp36 => by obtain ⟨rfl, ow37⟩ := hp36; exact (fun _ => (okH.cons (Or.inl Z) (okH.cons (Or.inr (((ow37.own (k := 0) Z).get.trans (ow.own (k := 0) Z).get.symm))) (okH.nil (fun r h => nomatch h)))))) (fun v33 V34 le35 hp36 => ?_)
    obtain ⟨rfl, ow37⟩ := hp36
    refine U.p Z Z (.inl Z) (S.assign Z K) ?_
    refine U.p Z Z (.inl Z) (S.assign Z K) ?_
    refine U.p Z Z (.inl Z) (S.assign Z (L 7 Z Z)) ?_
    refine U.p Z Z (.inl Z) (S.assign Z (L 3 Z Z)) ?_
    refine U.done (nr Z) ?_
    refine WP.ret ?_
    refine blkR (sqR ?_)
    refine fin.slots' (.inr Z) (fsC (L 3 Z Z) (fsC (L 2 Z Z) (fsC (L 1 Z Z) (fsC (L 0 Z Z) fsN)))) Z ⟨V34, Z, le35, ?_⟩
    have e38 := Option.some.inj h32
    subst e38
    exact ⟨rfl, ow37⟩
   ·have h39 := ifF c28 h27
    refine WP.usreg Z ?_
    refine U.p Z Z (.inl Z) (S.eqlI Z (L 6 Z Z) K) ?_
    refine U.p Z Z (.inl Z) (S.assign Z (L 0 Z Z)) ?_
    refine U.done (nr Z) ?_
    refine WP.cond _ (L 0 Z Z) Z (fun c40 => ?_) (fun c40 => ?_)
    ·have h41 := ifT c40 h39
     refine WP.usdreg Z Z Z ?_
     refine U.p Z Z (.inl Z) (S.move Z (L 14 Z Z)) ?_
     refine U.p Z Z (.inl Z) (S.nilCheck Z (L 0 Z Z)) ?_
     refine U.p (v := .pointer (some ⟨b1, 4, none⟩)) Z Z (.inl Z) (S.fieldAddr Z (L 0 Z Z) Tryd.underlying50 Z ti3 Z Z) ?_
     refine U.k Z Z (.inl Z) (S.load Z (L 0 Z Z) Tryd.underlying3 Z ((ow.own (k := 0) Z).cell Z)) (fun _ => (okH.nil (fun r h => by cases h; exact (ow.own (k := 0) Z).lt))) ?_
     refine U.p Z Z (.inl Z) (S.move Z (L 18 Z Z)) ?_
     refine U.p Z Z (.inl Z) (S.nilCheck Z (L 0 Z Z)) ?_
     refine U.p (v := .pointer (some ⟨b1, 4, none⟩)) Z Z (.inl Z) (S.fieldAddr Z (L 0 Z Z) Tryd.underlying50 Z ti3 Z Z) ?_
     refine U.k Z Z (.inl Z) (S.load Z (L 0 Z Z) Tryd.underlying3 Z ((ow.own (k := 0) Z).cell Z)) (fun _ => (okH.cons trivial (okH.nil (fun r h => by cases h; exact (ow.own (k := 0) Z).lt)))) ?_
     obtain ⟨x42, hx43, h44⟩ := bindS h41
     refine O.call (V := V) Z Z (.inl Z) Z en65 (aC (L 0 Z Z) (aC K aN)) (wk_word_Fits V _ gl p1.imm 16 ow _ hx43) (fun v45 V46 le47 hp48 => by obtain ⟨rfl, ow49⟩ := hp48; exact (fun _ => (okH.cons (Or.inl Z) (okH.cons (Or.inr (((ow49.own (k := 0) Z).get.trans (ow.own (k := 0) Z).get.symm))) (okH.nil (fun r h => nomatch h)))))) (fun v45 V46 le47 hp48 => ?_)
     obtain ⟨rfl, ow49⟩ := hp48
     refine U.p Z Z (.inl Z) (S.assign Z K) ?_
     refine U.p Z Z (.inl Z) (S.assign Z K) ?_
     refine U.p Z Z (.inl Z) (S.assign Z (L 7 Z Z)) ?_
     refine U.p Z Z (.inl Z) (S.assign Z (L 3 Z Z)) ?_
     refine U.done (nr Z) ?_
     refine WP.ret ?_
     refine blkR (sqR ?_)
     refine fin.slots' (.inr Z) (fsC (L 3 Z Z) (fsC (L 2 Z Z) (fsC (L 1 Z Z) (fsC (L 0 Z Z) fsN)))) Z ⟨V46, Z, le47, ?_⟩
     have e50 := Option.some.inj h44
     subst e50
     exact ⟨rfl, ow49⟩
    ·have h51 := ifF c40 h39
     refine WP.usreg Z ?_
     refine U.p Z Z (.inl Z) (S.eqlI Z (L 8 Z Z) K) ?_
     refine U.p Z Z (.inl Z) (S.assign Z (L 0 Z Z)) ?_
     refine U.done (nr Z) ?_
     refine WP.cond _ (L 0 Z Z) Z (fun c52 => ?_) (fun c52 => ?_)
     ·have h53 := ifT c52 h51
      refine WP.seqI (fun l V' => ∃ (x54 : Int) (x55 : Bool), l = [(4, .int .i64 16), (5, .int .i64 14), (6, .int .i64 x54), (7, .bool x55)] ∧ V.le V' ∧ Ow V' (.pt b1 (.cells z2 [.int .i64 p1.op, .int .i64 p1.d, .int .i64 p1.a, .int .i64 p1.b, .int .i64 p1.imm]) :: Rs) ∧ isa_part_k1 x54 x55 = some r) ?_ ?_
      ·rintro _ V56 ⟨x54, x55, rfl, le57, ow58, h59⟩
       unfold isa_part_k1 at h59
       refine WP.ret ?_
       refine blkR (sqR ?_)
       refine fin.slots' (.inr Z) (fsC (L 0 Z Z) (fsC (L 1 Z Z) (fsC (L 2 Z Z) (fsC (L 3 Z Z) fsN)))) Z ⟨V56, Z, le57, ?_⟩
       have e60 := Option.some.inj h59
       subst e60
       exact ⟨rfl, ow58⟩
      ·skip
       refine WP.udreg Z Z Z ?_
       refine U.p Z Z (.inl Z) (S.move Z (L 16 Z Z)) ?_
       refine U.p Z Z (.inl Z) (S.nilCheck Z (L 0 Z Z)) ?_
       refine U.p (v := .pointer (some ⟨b1, 4, none⟩)) Z Z (.inl Z) (S.fieldAddr Z (L 0 Z Z) Tryd.underlying50 Z ti3 Z Z) ?_
       refine U.k Z Z (.inl Z) (S.load Z (L 0 Z Z) Tryd.underlying3 Z ((ow.own (k := 0) Z).cell Z)) (fun _ => (okH.nil (fun r h => by cases h; exact (ow.own (k := 0) Z).lt))) ?_
       obtain ⟨x61, hx62, h63⟩ := bindS h53
       refine U.p Z Z (.inl Z) (S.shr hx62 Z (L 0 Z Z) K) ?_
       refine U.p Z Z (.inl Z) (S.move Z (L 21 Z Z)) ?_
       refine U.p Z Z (.inl Z) (S.nilCheck Z (L 0 Z Z)) ?_
       refine U.p (v := .pointer (some ⟨b1, 4, none⟩)) Z Z (.inl Z) (S.fieldAddr Z (L 0 Z Z) Tryd.underlying50 Z ti3 Z Z) ?_
       refine U.k Z Z (.inl Z) (S.load Z (L 0 Z Z) Tryd.underlying3 Z ((ow.own (k := 0) Z).cell Z)) (fun _ => (okH.cons trivial (okH.nil (fun r h => by cases h; exact (ow.own (k := 0) Z).lt)))) ?_
       obtain ⟨x64, hx65, h66⟩ := bindS h63
       refine O.call (V := V) Z Z (.inl Z) Z en65 (aC (L 0 Z Z) (aC K aN)) (wk_word_Fits V _ gl p1.imm 16 ow _ hx65) (fun v67 V68 le69 hp70 => by obtain ⟨rfl, ow71⟩ := hp70; exact (fun _ => (okH.cons (Or.inl Z) (okH.cons (Or.inr (((ow71.own (k := 0) Z).get.trans (ow.own (k := 0) Z).get.symm))) (okH.nil (fun r h => nomatch h)))))) (fun v67 V68 le69 hp70 => ?_)
       obtain ⟨rfl, ow71⟩ := hp70
       refine U.p Z Z (.inl Z) (S.move Z (L 0 Z Z)) ?_
       refine bcase (b := x64) (fun g72 => ?_) (fun g72 => ?_)
       ·have h73 := ifT g72 h66
        refine U.p Z Z (.inr ⟨_, _, _, Z, Z, ((L 0 Z Z).trans (cB g72))⟩) (S.move Z (L 27 Z Z)) ?_
        refine U.p Z Z (.inr ⟨_, _, _, Z, Z, ((L 1 Z Z).trans (cB g72))⟩) (S.nilCheck Z (L 0 Z Z)) ?_
        refine U.p (v := .pointer (some ⟨b1, 4, none⟩)) Z Z (.inr ⟨_, _, _, Z, Z, ((L 2 Z Z).trans (cB g72))⟩) (S.fieldAddr Z (L 0 Z Z) Tryd.underlying50 Z ti3 Z Z) ?_
        refine U.k Z Z (.inr ⟨_, _, _, Z, Z, ((L 3 Z Z).trans (cB g72))⟩) (S.load Z (L 0 Z Z) Tryd.underlying3 Z ((ow71.own (k := 0) Z).cell Z)) (fun _ => (okH.cons (Or.inl Z) (okH.cons trivial (okH.cons trivial (okH.nil (fun r h => by cases h; exact (ow71.own (k := 0) Z).lt)))))) ?_
        refine U.p Z Z (.inr ⟨_, _, _, Z, Z, ((L 4 Z Z).trans (cB g72))⟩) (S.andI Z (L 0 Z Z) K) ?_
        refine U.p Z Z (.inr ⟨_, _, _, Z, Z, ((L 5 Z Z).trans (cB g72))⟩) (S.eqlI Z (L 0 Z Z) K) ?_
        refine U.p Z Z (.inl Z) (S.pickT Z ((L 6 Z Z).trans (cB g72)) (L 0 Z Z)) ?_
        refine U.p Z Z (.inl Z) (S.assign Z K) ?_
        refine U.p Z Z (.inl Z) (S.assign Z K) ?_
        refine U.p Z Z (.inl Z) (S.assign Z (L 15 Z Z)) ?_
        refine U.p Z Z (.inl Z) (S.assign Z (L 3 Z Z)) ?_
        refine U.done (nr Z) ?_
        refine sqN ?_
        exact ⟨_, V68, Z, ⟨x61, decide ((andB .i64 p1.imm 3) = 0), Z, le69, ow71, h73⟩, (allCons (L 3 Z Z) (allCons (L 2 Z Z) (allCons (L 1 Z Z) (allCons (L 0 Z Z) allNil))))⟩
       ·have h74 := ifF g72 h66
        refine U.x Z Z Z Z ((L 0 Z Z).trans (cB g72)) (by decide) ?_
        refine U.x Z Z Z Z ((L 1 Z Z).trans (cB g72)) (by decide) ?_
        refine U.x Z Z Z Z ((L 2 Z Z).trans (cB g72)) (by decide) ?_
        refine U.x Z Z Z Z ((L 3 Z Z).trans (cB g72)) (by decide) ?_
        refine U.x Z Z Z Z ((L 4 Z Z).trans (cB g72)) (by decide) ?_
        refine U.x Z Z Z Z ((L 5 Z Z).trans (cB g72)) (by decide) ?_
        refine U.p Z Z (.inl Z) (S.pickF Z ((L 6 Z Z).trans (cB g72)) K) ?_
        refine U.p Z Z (.inl Z) (S.assign Z K) ?_
        refine U.p Z Z (.inl Z) (S.assign Z K) ?_
        refine U.p Z Z (.inl Z) (S.assign Z (L 15 Z Z)) ?_
        refine U.p Z Z (.inl Z) (S.assign Z (L 3 Z Z)) ?_
        refine U.done (nr Z) ?_
        refine sqN ?_
        exact ⟨_, V68, Z, ⟨x61, false, Z, le69, ow71, h74⟩, (allCons (L 3 Z Z) (allCons (L 2 Z Z) (allCons (L 1 Z Z) (allCons (L 0 Z Z) allNil))))⟩
     ·have h75 := ifF c52 h51
      refine WP.usreg Z ?_
      refine U.p Z Z (.inl Z) (S.eqlI Z (L 10 Z Z) K) ?_
      refine U.p Z Z (.inl Z) (S.assign Z (L 0 Z Z)) ?_
      refine U.done (nr Z) ?_
      refine WP.cond _ (L 0 Z Z) Z (fun c76 => ?_) (fun c76 => ?_)
      ·have h77 := ifT c76 h75
       refine WP.usdreg Z Z Z ?_
       refine U.p Z Z (.inl Z) (S.move Z (L 18 Z Z)) ?_
       refine U.p Z Z (.inl Z) (S.nilCheck Z (L 0 Z Z)) ?_
       refine U.p (v := .pointer (some ⟨b1, 4, none⟩)) Z Z (.inl Z) (S.fieldAddr Z (L 0 Z Z) Tryd.underlying50 Z ti3 Z Z) ?_
       refine U.k Z Z (.inl Z) (S.load Z (L 0 Z Z) Tryd.underlying3 Z ((ow.own (k := 0) Z).cell Z)) (fun _ => (okH.nil (fun r h => by cases h; exact (ow.own (k := 0) Z).lt))) ?_
       refine U.p Z Z (.inl Z) (S.move Z (L 22 Z Z)) ?_
       refine U.p Z Z (.inl Z) (S.nilCheck Z (L 0 Z Z)) ?_
       refine U.p (v := .pointer (some ⟨b1, 4, none⟩)) Z Z (.inl Z) (S.fieldAddr Z (L 0 Z Z) Tryd.underlying50 Z ti3 Z Z) ?_
       refine U.k Z Z (.inl Z) (S.load Z (L 0 Z Z) Tryd.underlying3 Z ((ow.own (k := 0) Z).cell Z)) (fun _ => (okH.cons trivial (okH.nil (fun r h => by cases h; exact (ow.own (k := 0) Z).lt)))) ?_
       obtain ⟨x78, hx79, h80⟩ := bindS h77
       refine O.call (V := V) Z Z (.inl Z) Z en65 (aC (L 0 Z Z) (aC K aN)) (wk_word_Fits V _ gl p1.imm 14 ow _ hx79) (fun v81 V82 le83 hp84 => by obtain ⟨rfl, ow85⟩ := hp84; exact (fun _ => (okH.cons (Or.inl Z) (okH.cons (Or.inr (((ow85.own (k := 0) Z).get.trans (ow.own (k := 0) Z).get.symm))) (okH.nil (fun r h => nomatch h)))))) (fun v81 V82 le83 hp84 => ?_)
       obtain ⟨rfl, ow85⟩ := hp84
       refine U.p Z Z (.inl Z) (S.assign Z K) ?_
       refine U.p Z Z (.inl Z) (S.assign Z K) ?_
       refine U.p Z Z (.inl Z) (S.assign Z (L 7 Z Z)) ?_
       refine U.p Z Z (.inl Z) (S.assign Z (L 3 Z Z)) ?_
       refine U.done (nr Z) ?_
       refine WP.ret ?_
       refine blkR (sqR ?_)
       refine fin.slots' (.inr Z) (fsC (L 3 Z Z) (fsC (L 2 Z Z) (fsC (L 1 Z Z) (fsC (L 0 Z Z) fsN)))) Z ⟨V82, Z, le83, ?_⟩
       have e86 := Option.some.inj h80
       subst e86
       exact ⟨rfl, ow85⟩
      ·have h87 := ifF c76 h75
       refine WP.usreg Z ?_
       refine U.p Z Z (.inl Z) (S.eqlI Z (L 12 Z Z) K) ?_
       refine U.p Z Z (.inl Z) (S.assign Z (L 0 Z Z)) ?_
       refine U.done (nr Z) ?_
       refine WP.cond _ (L 0 Z Z) Z (fun c88 => ?_) (fun c88 => ?_)
       ·have h89 := ifT c88 h87
        refine WP.usdreg Z Z Z ?_
        refine U.p Z Z (.inl Z) (S.move Z (L 20 Z Z)) ?_
        refine U.p Z Z (.inl Z) (S.nilCheck Z (L 0 Z Z)) ?_
        refine U.p (v := .pointer (some ⟨b1, 4, none⟩)) Z Z (.inl Z) (S.fieldAddr Z (L 0 Z Z) Tryd.underlying50 Z ti3 Z Z) ?_
        refine U.k Z Z (.inl Z) (S.load Z (L 0 Z Z) Tryd.underlying3 Z ((ow.own (k := 0) Z).cell Z)) (fun _ => (okH.nil (fun r h => by cases h; exact (ow.own (k := 0) Z).lt))) ?_
        refine U.p Z Z (.inl Z) (S.move Z (L 24 Z Z)) ?_
        refine U.p Z Z (.inl Z) (S.nilCheck Z (L 0 Z Z)) ?_
        refine U.p (v := .pointer (some ⟨b1, 4, none⟩)) Z Z (.inl Z) (S.fieldAddr Z (L 0 Z Z) Tryd.underlying50 Z ti3 Z Z) ?_
        refine U.k Z Z (.inl Z) (S.load Z (L 0 Z Z) Tryd.underlying3 Z ((ow.own (k := 0) Z).cell Z)) (fun _ => (okH.cons trivial (okH.nil (fun r h => by cases h; exact (ow.own (k := 0) Z).lt)))) ?_
        obtain ⟨x90, hx91, h92⟩ := bindS h89
        refine O.call (V := V) Z Z (.inl Z) Z en65 (aC (L 0 Z Z) (aC K aN)) (wk_word_Fits V _ gl p1.imm 24 ow _ hx91) (fun v93 V94 le95 hp96 => by obtain ⟨rfl, ow97⟩ := hp96; exact (fun _ => (okH.cons (Or.inl Z) (okH.cons (Or.inr (((ow97.own (k := 0) Z).get.trans (ow.own (k := 0) Z).get.symm))) (okH.nil (fun r h => nomatch h)))))) (fun v93 V94 le95 hp96 => ?_)
        obtain ⟨rfl, ow97⟩ := hp96
        refine U.p Z Z (.inl Z) (S.assign Z K) ?_
        refine U.p Z Z (.inl Z) (S.assign Z K) ?_
        refine U.p Z Z (.inl Z) (S.assign Z (L 7 Z Z)) ?_
        refine U.p Z Z (.inl Z) (S.assign Z (L 3 Z Z)) ?_
        refine U.done (nr Z) ?_
        refine WP.ret ?_
        refine blkR (sqR ?_)
        refine fin.slots' (.inr Z) (fsC (L 3 Z Z) (fsC (L 2 Z Z) (fsC (L 1 Z Z) (fsC (L 0 Z Z) fsN)))) Z ⟨V94, Z, le95, ?_⟩
        have e98 := Option.some.inj h92
        subst e98
        exact ⟨rfl, ow97⟩
       ·have h99 := ifF c88 h87
        refine WP.skip ?_
        refine blkN (sqN ?_)
        refine WP.seqI (fun l V' => ∃ (x100 : Int) (x101 : Bool), l = [(4, .int .i64 6), (5, .int .i64 10), (6, .int .i64 x100), (7, .bool x101)] ∧ V.le V' ∧ Ow V' (.pt b1 (.cells z2 [.int .i64 p1.op, .int .i64 p1.d, .int .i64 p1.a, .int .i64 p1.b, .int .i64 p1.imm]) :: Rs) ∧ isa_part_k2 x100 x101 = some r) ?_ ?_
        ·rintro _ V102 ⟨x100, x101, rfl, le103, ow104, h105⟩
         unfold isa_part_k2 at h105
         refine WP.ret ?_
         refine fin.slots' (.inr Z) (fsC (L 0 Z Z) (fsC (L 1 Z Z) (fsC (L 2 Z Z) (fsC (L 3 Z Z) fsN)))) Z ⟨V102, Z, le103, ?_⟩
         have e106 := Option.some.inj h105
         subst e106
         exact ⟨rfl, ow104⟩
        ·skip
         refine WP.udreg Z Z Z ?_
         refine U.p Z Z (.inl Z) (S.move Z (L 20 Z Z)) ?_
         refine U.p Z Z (.inl Z) (S.nilCheck Z (L 0 Z Z)) ?_
         refine U.p (v := .pointer (some ⟨b1, 1, none⟩)) Z Z (.inl Z) (S.fieldAddr Z (L 0 Z Z) Tryd.underlying50 Z ti3 Z Z) ?_
         refine U.k Z Z (.inl Z) (S.load Z (L 0 Z Z) Tryd.underlying3 Z ((ow.own (k := 0) Z).cell Z)) (fun _ => (okH.nil (fun r h => by cases h; exact (ow.own (k := 0) Z).lt))) ?_
         obtain ⟨x107, hx108, h109⟩ := bindS h99
         refine U.p Z Z (.inl Z) (S.shl hx108 Z (L 0 Z Z) K) ?_
         refine U.p Z Z (.inl Z) (S.move Z (L 25 Z Z)) ?_
         refine U.p Z Z (.inl Z) (S.nilCheck Z (L 0 Z Z)) ?_
         refine U.p (v := .pointer (some ⟨b1, 2, none⟩)) Z Z (.inl Z) (S.fieldAddr Z (L 0 Z Z) Tryd.underlying50 Z ti3 Z Z) ?_
         refine U.k Z Z (.inl Z) (S.load Z (L 0 Z Z) Tryd.underlying3 Z ((ow.own (k := 0) Z).cell Z)) (fun _ => (okH.cons trivial (okH.nil (fun r h => by cases h; exact (ow.own (k := 0) Z).lt)))) ?_
         refine U.p Z Z (.inl Z) (S.orI Z (L 4 Z Z) (L 0 Z Z)) ?_
         refine U.p Z Z (.inl Z) (S.move Z (L 30 Z Z)) ?_
         refine U.p Z Z (.inl Z) (S.nilCheck Z (L 0 Z Z)) ?_
         refine U.p (v := .pointer (some ⟨b1, 1, none⟩)) Z Z (.inl Z) (S.fieldAddr Z (L 0 Z Z) Tryd.underlying50 Z ti3 Z Z) ?_
         refine U.k Z Z (.inl Z) (S.load Z (L 0 Z Z) Tryd.underlying3 Z ((ow.own (k := 0) Z).cell Z)) (fun _ => (okH.cons trivial (okH.cons trivial (okH.nil (fun r h => by cases h; exact (ow.own (k := 0) Z).lt))))) ?_
         refine U.p Z Z (.inl Z) (S.eqlI Z (L 0 Z Z) K) ?_
         refine U.p Z Z (.inl Z) (S.move Z (L 0 Z Z)) ?_
         refine bcase (b := decide (p1.d = 4)) (fun g110 => ?_) (fun g110 => ?_)
         ·have h111 := ifT g110 h109
          refine U.x Z Z Z Z ((L 0 Z Z).trans (cB g110)) (by decide) ?_
          refine U.x Z Z Z Z ((L 1 Z Z).trans (cB g110)) (by decide) ?_
          refine U.x Z Z Z Z ((L 2 Z Z).trans (cB g110)) (by decide) ?_
          refine U.x Z Z Z Z ((L 3 Z Z).trans (cB g110)) (by decide) ?_
          refine U.x Z Z Z Z ((L 4 Z Z).trans (cB g110)) (by decide) ?_
          refine U.p Z Z (.inl Z) (S.pickT Z ((L 5 Z Z).trans (cB g110)) K) ?_
          refine U.p Z Z (.inl Z) (S.move Z (L 0 Z Z)) ?_
          refine U.p Z Z (.inr ⟨_, _, _, Z, Z, (L 0 Z Z)⟩) (S.move Z (L 43 Z Z)) ?_
          refine U.p Z Z (.inr ⟨_, _, _, Z, Z, (L 1 Z Z)⟩) (S.nilCheck Z (L 0 Z Z)) ?_
          refine U.p (v := .pointer (some ⟨b1, 2, none⟩)) Z Z (.inr ⟨_, _, _, Z, Z, (L 2 Z Z)⟩) (S.fieldAddr Z (L 0 Z Z) Tryd.underlying50 Z ti3 Z Z) ?_
          refine U.k Z Z (.inr ⟨_, _, _, Z, Z, (L 3 Z Z)⟩) (S.load Z (L 0 Z Z) Tryd.underlying3 Z ((ow.own (k := 0) Z).cell Z)) (fun _ => (okH.cons trivial (okH.cons trivial (okH.cons trivial (okH.nil (fun r h => by cases h; exact (ow.own (k := 0) Z).lt)))))) ?_
          refine U.p Z Z (.inr ⟨_, _, _, Z, Z, (L 4 Z Z)⟩) (S.geq Z (L 0 Z Z) K) ?_
          refine U.p Z Z (.inl Z) (S.pickT Z (L 5 Z Z) (L 0 Z Z)) ?_
          refine U.p Z Z (.inl Z) (S.move Z (L 0 Z Z)) ?_
          refine bcase (b := decide (0 ≤ p1.a)) (fun g112 => ?_) (fun g112 => ?_)
          ·have h113 := ifT g112 h111
           refine U.p Z Z (.inr ⟨_, _, _, Z, Z, ((L 0 Z Z).trans (cB g112))⟩) (S.move Z (L 50 Z Z)) ?_
           refine U.p Z Z (.inr ⟨_, _, _, Z, Z, ((L 1 Z Z).trans (cB g112))⟩) (S.nilCheck Z (L 0 Z Z)) ?_
           refine U.p (v := .pointer (some ⟨b1, 2, none⟩)) Z Z (.inr ⟨_, _, _, Z, Z, ((L 2 Z Z).trans (cB g112))⟩) (S.fieldAddr Z (L 0 Z Z) Tryd.underlying50 Z ti3 Z Z) ?_
           refine U.k Z Z (.inr ⟨_, _, _, Z, Z, ((L 3 Z Z).trans (cB g112))⟩) (S.load Z (L 0 Z Z) Tryd.underlying3 Z ((ow.own (k := 0) Z).cell Z)) (fun _ => (okH.cons trivial (okH.cons trivial (okH.cons trivial (okH.cons trivial (okH.nil (fun r h => by cases h; exact (ow.own (k := 0) Z).lt))))))) ?_
           refine U.p Z Z (.inr ⟨_, _, _, Z, Z, ((L 4 Z Z).trans (cB g112))⟩) (S.lss Z (L 0 Z Z) K) ?_
           refine U.p Z Z (.inl Z) (S.pickT Z ((L 5 Z Z).trans (cB g112)) (L 0 Z Z)) ?_
           refine U.p Z Z (.inl Z) (S.assign Z K) ?_
           refine U.p Z Z (.inl Z) (S.assign Z K) ?_
           refine U.p Z Z (.inl Z) (S.assign Z (L 28 Z Z)) ?_
           refine U.p Z Z (.inl Z) (S.assign Z (L 3 Z Z)) ?_
           refine U.done (nr Z) ?_
           refine sqN ?_
           exact ⟨_, V, Z, ⟨orB .i64 x107 p1.a, decide (p1.a < 3), Z, (.refl _), ow, h113⟩, (allCons (L 3 Z Z) (allCons (L 2 Z Z) (allCons (L 1 Z Z) (allCons (L 0 Z Z) allNil))))⟩
          ·have h114 := ifF g112 h111
           refine U.x Z Z Z Z ((L 0 Z Z).trans (cB g112)) (by decide) ?_
           refine U.x Z Z Z Z ((L 1 Z Z).trans (cB g112)) (by decide) ?_
           refine U.x Z Z Z Z ((L 2 Z Z).trans (cB g112)) (by decide) ?_
           refine U.x Z Z Z Z ((L 3 Z Z).trans (cB g112)) (by decide) ?_
           refine U.x Z Z Z Z ((L 4 Z Z).trans (cB g112)) (by decide) ?_
           refine U.p Z Z (.inl Z) (S.pickF Z ((L 5 Z Z).trans (cB g112)) K) ?_
           refine U.p Z Z (.inl Z) (S.assign Z K) ?_
           refine U.p Z Z (.inl Z) (S.assign Z K) ?_
           refine U.p Z Z (.inl Z) (S.assign Z (L 28 Z Z)) ?_
           refine U.p Z Z (.inl Z) (S.assign Z (L 3 Z Z)) ?_
           refine U.done (nr Z) ?_
           refine sqN ?_
           exact ⟨_, V, Z, ⟨orB .i64 x107 p1.a, false, Z, (.refl _), ow, h114⟩, (allCons (L 3 Z Z) (allCons (L 2 Z Z) (allCons (L 1 Z Z) (allCons (L 0 Z Z) allNil))))⟩
         ·have h115 := ifF g110 h109
          refine U.p Z Z (.inr ⟨_, _, _, Z, Z, ((L 0 Z Z).trans (cB g110))⟩) (S.move Z (L 36 Z Z)) ?_
          refine U.p Z Z (.inr ⟨_, _, _, Z, Z, ((L 1 Z Z).trans (cB g110))⟩) (S.nilCheck Z (L 0 Z Z)) ?_
          refine U.p (v := .pointer (some ⟨b1, 1, none⟩)) Z Z (.inr ⟨_, _, _, Z, Z, ((L 2 Z Z).trans (cB g110))⟩) (S.fieldAddr Z (L 0 Z Z) Tryd.underlying50 Z ti3 Z Z) ?_
          refine U.k Z Z (.inr ⟨_, _, _, Z, Z, ((L 3 Z Z).trans (cB g110))⟩) (S.load Z (L 0 Z Z) Tryd.underlying3 Z ((ow.own (k := 0) Z).cell Z)) (fun _ => (okH.cons trivial (okH.cons trivial (okH.cons trivial (okH.nil (fun r h => by cases h; exact (ow.own (k := 0) Z).lt)))))) ?_
          refine U.p Z Z (.inr ⟨_, _, _, Z, Z, ((L 4 Z Z).trans (cB g110))⟩) (S.eqlI Z (L 0 Z Z) K) ?_
          refine U.p Z Z (.inl Z) (S.pickF Z ((L 5 Z Z).trans (cB g110)) (L 0 Z Z)) ?_
          refine U.p Z Z (.inl Z) (S.move Z (L 0 Z Z)) ?_
          refine bcase (b := decide (p1.d = 12)) (fun g116 => ?_) (fun g116 => ?_)
          ·have h117 := ifT g116 h115
           refine U.p Z Z (.inr ⟨_, _, _, Z, Z, ((L 0 Z Z).trans (cB g116))⟩) (S.move Z (L 43 Z Z)) ?_
           refine U.p Z Z (.inr ⟨_, _, _, Z, Z, ((L 1 Z Z).trans (cB g116))⟩) (S.nilCheck Z (L 0 Z Z)) ?_
           refine U.p (v := .pointer (some ⟨b1, 2, none⟩)) Z Z (.inr ⟨_, _, _, Z, Z, ((L 2 Z Z).trans (cB g116))⟩) (S.fieldAddr Z (L 0 Z Z) Tryd.underlying50 Z ti3 Z Z) ?_
           refine U.k Z Z (.inr ⟨_, _, _, Z, Z, ((L 3 Z Z).trans (cB g116))⟩) (S.load Z (L 0 Z Z) Tryd.underlying3 Z ((ow.own (k := 0) Z).cell Z)) (fun _ => (okH.cons trivial (okH.cons trivial (okH.cons trivial (okH.cons trivial (okH.nil (fun r h => by cases h; exact (ow.own (k := 0) Z).lt))))))) ?_
           refine U.p Z Z (.inr ⟨_, _, _, Z, Z, ((L 4 Z Z).trans (cB g116))⟩) (S.geq Z (L 0 Z Z) K) ?_
           refine U.p Z Z (.inl Z) (S.pickT Z ((L 5 Z Z).trans (cB g116)) (L 0 Z Z)) ?_
           refine U.p Z Z (.inl Z) (S.move Z (L 0 Z Z)) ?_
           refine bcase (b := decide (0 ≤ p1.a)) (fun g118 => ?_) (fun g118 => ?_)
           ·have h119 := ifT g118 h117
            refine U.p Z Z (.inr ⟨_, _, _, Z, Z, ((L 0 Z Z).trans (cB g118))⟩) (S.move Z (L 50 Z Z)) ?_
            refine U.p Z Z (.inr ⟨_, _, _, Z, Z, ((L 1 Z Z).trans (cB g118))⟩) (S.nilCheck Z (L 0 Z Z)) ?_
            refine U.p (v := .pointer (some ⟨b1, 2, none⟩)) Z Z (.inr ⟨_, _, _, Z, Z, ((L 2 Z Z).trans (cB g118))⟩) (S.fieldAddr Z (L 0 Z Z) Tryd.underlying50 Z ti3 Z Z) ?_
            refine U.k Z Z (.inr ⟨_, _, _, Z, Z, ((L 3 Z Z).trans (cB g118))⟩) (S.load Z (L 0 Z Z) Tryd.underlying3 Z ((ow.own (k := 0) Z).cell Z)) (fun _ => (okH.cons trivial (okH.cons trivial (okH.cons trivial (okH.cons trivial (okH.cons trivial (okH.nil (fun r h => by cases h; exact (ow.own (k := 0) Z).lt)))))))) ?_
            refine U.p Z Z (.inr ⟨_, _, _, Z, Z, ((L 4 Z Z).trans (cB g118))⟩) (S.lss Z (L 0 Z Z) K) ?_
            refine U.p Z Z (.inl Z) (S.pickT Z ((L 5 Z Z).trans (cB g118)) (L 0 Z Z)) ?_
            refine U.p Z Z (.inl Z) (S.assign Z K) ?_
            refine U.p Z Z (.inl Z) (S.assign Z K) ?_
            refine U.p Z Z (.inl Z) (S.assign Z (L 28 Z Z)) ?_
            refine U.p Z Z (.inl Z) (S.assign Z (L 3 Z Z)) ?_
            refine U.done (nr Z) ?_
            refine sqN ?_
            exact ⟨_, V, Z, ⟨orB .i64 x107 p1.a, decide (p1.a < 3), Z, (.refl _), ow, h119⟩, (allCons (L 3 Z Z) (allCons (L 2 Z Z) (allCons (L 1 Z Z) (allCons (L 0 Z Z) allNil))))⟩
           ·have h120 := ifF g118 h117
            refine U.x Z Z Z Z ((L 0 Z Z).trans (cB g118)) (by decide) ?_
            refine U.x Z Z Z Z ((L 1 Z Z).trans (cB g118)) (by decide) ?_
            refine U.x Z Z Z Z ((L 2 Z Z).trans (cB g118)) (by decide) ?_
            refine U.x Z Z Z Z ((L 3 Z Z).trans (cB g118)) (by decide) ?_
            refine U.x Z Z Z Z ((L 4 Z Z).trans (cB g118)) (by decide) ?_
            refine U.p Z Z (.inl Z) (S.pickF Z ((L 5 Z Z).trans (cB g118)) K) ?_
            refine U.p Z Z (.inl Z) (S.assign Z K) ?_
            refine U.p Z Z (.inl Z) (S.assign Z K) ?_
            refine U.p Z Z (.inl Z) (S.assign Z (L 28 Z Z)) ?_
            refine U.p Z Z (.inl Z) (S.assign Z (L 3 Z Z)) ?_
            refine U.done (nr Z) ?_
            refine sqN ?_
            exact ⟨_, V, Z, ⟨orB .i64 x107 p1.a, false, Z, (.refl _), ow, h120⟩, (allCons (L 3 Z Z) (allCons (L 2 Z Z) (allCons (L 1 Z Z) (allCons (L 0 Z Z) allNil))))⟩
          ·have h121 := ifF g116 h115
           refine U.x Z Z Z Z ((L 0 Z Z).trans (cB g116)) (by decide) ?_
           refine U.x Z Z Z Z ((L 1 Z Z).trans (cB g116)) (by decide) ?_
           refine U.x Z Z Z Z ((L 2 Z Z).trans (cB g116)) (by decide) ?_
           refine U.x Z Z Z Z ((L 3 Z Z).trans (cB g116)) (by decide) ?_
           refine U.x Z Z Z Z ((L 4 Z Z).trans (cB g116)) (by decide) ?_
           refine U.p Z Z (.inl Z) (S.pickF Z ((L 5 Z Z).trans (cB g116)) K) ?_
           refine U.p Z Z (.inl Z) (S.move Z (L 0 Z Z)) ?_
           refine U.x Z Z Z Z (L 0 Z Z) (by decide) ?_
           refine U.x Z Z Z Z (L 1 Z Z) (by decide) ?_
           refine U.x Z Z Z Z (L 2 Z Z) (by decide) ?_
           refine U.x Z Z Z Z (L 3 Z Z) (by decide) ?_
           refine U.x Z Z Z Z (L 4 Z Z) (by decide) ?_
           refine U.p Z Z (.inl Z) (S.pickF Z (L 5 Z Z) K) ?_
           refine U.p Z Z (.inl Z) (S.assign Z K) ?_
           refine U.p Z Z (.inl Z) (S.assign Z K) ?_
           refine U.p Z Z (.inl Z) (S.assign Z (L 28 Z Z)) ?_
           refine U.p Z Z (.inl Z) (S.assign Z (L 3 Z Z)) ?_
           refine U.done (nr Z) ?_
           refine sqN ?_
           exact ⟨_, V, Z, ⟨orB .i64 x107 p1.a, false, Z, (.refl _), ow, h121⟩, (allCons (L 3 Z Z) (allCons (L 2 Z Z) (allCons (L 1 Z Z) (allCons (L 0 Z Z) allNil))))⟩
theorem wk_isa_Good (V : Vw) (Rs : List At) (gl : Glb V) (p0 : TInst) (ow : Ow V (Rs)) (r : Bool) (h : isa_Good p0 = some r) : ∃ v V', Cl Tryd.prog NG 41 #[.agg #[.int .i64 p0.op, .int .i64 p0.d, .int .i64 p0.a, .int .i64 p0.b, .int .i64 p0.imm]] V.H v V'.H ∧ V.le V' ∧ (v = .bool r ∧ Ow V' (Rs)) := by
 refine Ct.of gl.lo Tryd.func41 Z (nr Z) ?_
 unfold isa_Good at h
 refine WP.usreg Z ?_
 refine O.box ow Z Z (.inl Z) Z (L 0 Z Z) (by simp [topV]) Z nd (fun b1 V2 le3 ow4 => ?_)
 refine U.p Z Z (.inl Z) (S.assign Z K) ?_
 refine U.done (nr Z) ?_
 refine WP.seq ?_
 refine WP.seqI (fun l V' => ∃ (x6 : Bool), l = [(1, .pointer (some ⟨b1, 0, none⟩)), (32, .bool x6)] ∧ V2.le V' ∧ Ow V' (.pt b1 (.cells 0 [.int .i64 p0.op, .int .i64 p0.d, .int .i64 p0.a, .int .i64 p0.b, .int .i64 p0.imm]) :: Rs) ∧ isa_Good_k1 p0 x6 = some r) ?_ ?_
 ·rintro _ V7 ⟨x6, rfl, le8, ow9, h10⟩
  unfold isa_Good_k1 at h10
  refine WP.cond _ (L 1 Z Z) Z (fun c11 => ?_) (fun c11 => ?_)
  ·have h12 := ifT c11 h10
   refine WP.usreg Z ?_
   refine U.p Z Z (.inl Z) (S.assign Z K) ?_
   refine U.done (nr Z) ?_
   refine WP.ret ?_
   refine sqR ?_
   refine fin.slot (.inr Z) Z (L 0 Z Z) ⟨V7, Z, (le3.trans le8), ?_⟩
   have ow13 := ow9.drop 0 Z
   have e14 := Option.some.inj h12
   subst e14
   exact ⟨rfl, ow13⟩
  ·have h15 := ifF c11 h10
   refine WP.skip ?_
   refine sqN ?_
   refine WP.seq ?_
   refine WP.usreg Z ?_
   refine U.p (v := .pointer (some ⟨b1, 0, none⟩)) Z Z (.inl Z) (S.fieldAddr Z (L 0 Z Z) Tryd.underlying50 Z ti3 Z Z) ?_
   refine U.k Z Z (.inl Z) (S.load Z (L 0 Z Z) Tryd.underlying3 Z ((ow9.own (k := 0) Z).cell Z)) nd ?_
   obtain ⟨x16, hx17, h18⟩ := bindS h15
   obtain ⟨_, _, _, cs19, hv20, hf21, hr22, hc23⟩ := (gl.up (le3.trans le8)).g1.at hx17
   cases hv20
   obtain rfl : cs19 = [.string x16.name, .string x16.fields, .int .u32 x16.word] := hr22
   refine U.p Z Z (.inl Z) (S.indexA Z Gl (L 0 Z Z) Tryd.underlying82 ti81 (ix_ge hx17) (by have q1 := ix_lt hx17; have q2 := gl1_len; omega)) ?_
   refine U.p (v := .pointer (some ⟨1, 0 + Int.toNat p0.op * 3 + 1, none⟩)) Z Z (.inl Z) (S.fieldAddr Z (L 0 Z Z) Tryd.underlying81 Z ti9 Z Z) ?_
   refine U.k Z Z (.inl Z) (S.load Z (L 0 Z Z) Tryd.underlying9 Z (hc23 1 _ Z)) nd ?_
   obtain ⟨xs24, hx25, h26⟩ := bindS h18
   refine O.bytes ow9 Z Z (.inl Z) Z (L 0 Z Z) Tryd.underlying9 Tryd.underlying46 Tryd.underlying5 hx25 (fun _ => nd) (fun v27 V28 le29 ow30 => ?_)
   refine U.p Z Z (.inl Z) (ow30.oslen (k := 0) Z Z (L 0 Z Z) Tryd.underlying46) ?_
   refine U.p Z Z (.inl Z) (S.move Z K) ?_
   refine U.done (nr Z) ?_
   refine WP.blk ?_
   have ow33 := ow30.pick 0 Z
   have ow34 := ow33.pick 1 Z
   unfold isa_Good_l1 at h26
   obtain ⟨n36, hn35⟩ := loopO_some.1 h26
   refine WP.loopI2 (fun n l V' => ∃ (x32 : Int), l = [(1, .pointer (some ⟨b1, 0, none⟩)), (38, v27), (39, .int .i64 (xs24.length : Int)), (40, .int .i64 x32)] ∧ V28.le V' ∧ Ow V' (.pt b1 (.cells 0 [.int .i64 p0.op, .int .i64 p0.d, .int .i64 p0.a, .int .i64 p0.b, .int .i64 p0.imm]) :: .os (RT.int .u8) v27 xs24 :: Rs) ∧ itO (fun s => isa_Good_l1b p0 xs24 s) n x32 = some r) n36 _ ⟨0, Z, .refl _, ow34, hn35⟩ (allCons (L 8 Z Z) (allCons (L 2 Z Z) (allCons (L 1 Z Z) (allCons (L 0 Z Z) allNil)))) ?_
   rintro _ _ V37 ⟨x32, rfl, le38, ow39, h43⟩
   obtain ⟨m40, q41, rfl, h44, e42⟩ := itS h43
   replace h44 : isa_Good_l1b p0 xs24 x32 = some q41 := h44
   unfold isa_Good_l1b at h44
   refine WP.usreg Z ?_
   refine U.p Z Z (.inl Z) (S.lss Z (L 3 Z Z) (L 2 Z Z)) ?_
   refine U.done (nr Z) ?_
   refine WP.seq ?_
   refine WP.cond _ (L 0 Z Z) Z (fun c45 => ?_) (fun c45 => ?_)
   ·have h46 := ifT c45 h44
    refine WP.skip ?_
    refine sqN ?_
    refine WP.seq ?_
    refine WP.blk ?_
    refine WP.usreg Z ?_
    obtain ⟨x47, hx48, h49⟩ := bindS h46
    obtain ⟨b50, o51, n52, c53, hv54⟩ := ow39.ospt (k := 1) Z hx48
    obtain ⟨_, hv55, _⟩ := ow39.osel (k := 1) Z hv54 hx48
    refine U.p Z Z (.inl Z) (S.index Z ((L 2 Z Z).trans hv55) (L 4 Z Z) Tryd.underlying46 ti5 (ix_ge hx48) (ix_lt hx48)) ?_
    obtain ⟨cs56, hv57, hlt58, hr59, hc60⟩ := ow39.osel (k := 1) Z hv54 hx48
    obtain rfl : cs56 = [.int .u8 x47] := hr59
    refine U.k Z Z (.inl Z) (S.load Z (L 0 Z Z) Tryd.underlying5 Z (hc60 0 _ Z)) nd ?_
    refine U.p Z Z (.inl Z) (S.assign Z (L 0 Z Z)) ?_
    refine U.done (nr Z) ?_
    refine WP.usreg Z ?_
    refine U.p Z Z (.inl Z) (S.move Z (L 0 Z Z)) ?_
    obtain ⟨x61, hx62, h63⟩ := bindS h49
    refine O.call (V := V37) Z Z (.inl Z) Z en52 (aC (L 0 Z Z) (aC (L 5 Z Z) aN)) (wk_isa_part V37 _ (gl.up (((le3.trans le8).trans le29).trans le38)) x47 p0 b1 0 ow39 _ hx62) (fun _ _ _ _ => nd) (fun v64 V65 le66 hp67 => ?_)
    obtain ⟨rfl, ow68⟩ := hp67
    refine U.p Z Z (.inl Z) (S.move Z (L 0 Z Z)) ?_
    refine U.p Z Z (.inl Z) (S.extract Z (L 0 Z Z) Z (nr Z)) ?_
    refine U.p Z Z (.inl Z) (S.extract Z (L 1 Z Z) Z (nr Z)) ?_
    refine U.p Z Z (.inl Z) (S.extract Z (L 2 Z Z) Z (nr Z)) ?_
    refine U.p Z Z (.inl Z) (S.extract Z (L 3 Z Z) Z (nr Z)) ?_
    refine U.p Z Z (.inl Z) (S.assign Z (L 3 Z Z)) ?_
    refine U.p Z Z (.inl Z) (S.assign Z (L 3 Z Z)) ?_
    refine U.p Z Z (.inl Z) (S.assign Z (L 3 Z Z)) ?_
    refine U.p Z Z (.inl Z) (S.assign Z (L 3 Z Z)) ?_
    refine U.done (nr Z) ?_
    refine WP.usreg Z ?_
    refine U.p Z Z (.inl Z) (S.move Z (L 0 Z Z)) ?_
    refine U.p Z Z (.inl Z) (S.not Z (L 0 Z Z)) ?_
    refine U.done (nr Z) ?_
    refine WP.cond _ (L 0 Z Z) Z (fun c69 => ?_) (fun c69 => ?_)
    ·have h70 := ifT c69 h63
     have k71 : x61.2.2.2 = false := nT c69
     refine WP.usreg Z ?_
     refine U.p Z Z (.inl Z) (S.assign Z K) ?_
     refine U.done (nr Z) ?_
     refine WP.ret ?_
     refine blkR (sqR (sqR (blkR (sqR ?_))))
     have h72 := exitS h70 e42
     refine fin.slot (.inr Z) Z (L 0 Z Z) ⟨V65, Z, ((((le3.trans le8).trans le29).trans le38).trans le66), ?_⟩
     have ow73 := ow68.drop 0 Z
     have ow74 := ow73.drop 0 Z
     have e75 := Option.some.inj h72
     subst e75
     exact ⟨rfl, ow74⟩
    ·have h76 := ifF c69 h63
     have k77 : x61.2.2.2 = true := nF c69
     refine WP.skip ?_
     refine blkN (sqN ?_)
     refine WP.ureg Z ?_
     refine U.p Z Z (.inl Z) (S.add Z (L 20 Z Z) K) ?_
     refine U.p Z Z (.inl Z) (S.move Z (L 0 Z Z)) ?_
     refine U.done (nr Z) ?_
     refine sqN ?_
     exact ⟨_, V65, Z, ⟨m40, Nat.lt_succ_self _, w64 (x32 + 1), Z, (le38.trans le66), ow68, backS h76 e42⟩, (allCons (L 19 Z Z) (allCons (L 20 Z Z) (allCons (L 21 Z Z) (allCons (L 0 Z Z) allNil))))⟩
   ·have h78 := ifF c45 h44
    refine WP.exit ?_
    refine sqE (sqE (blkE (sqN ?_)))
    have h79 := exitS h78 e42
    refine WP.usreg Z ?_
    refine U.p Z Z (.inl Z) (S.assign Z K) ?_
    refine U.done (nr Z) ?_
    refine WP.ret ?_
    refine fin.slot (.inr Z) Z (L 0 Z Z) ⟨V37, Z, (((le3.trans le8).trans le29).trans le38), ?_⟩
    have ow80 := ow39.drop 0 Z
    have ow81 := ow80.drop 0 Z
    have e82 := Option.some.inj h79
    subst e82
    exact ⟨rfl, ow81⟩
 ·skip
  refine WP.udreg Z Z Z ?_
  refine U.p (v := .pointer (some ⟨b1, 0, none⟩)) Z Z (.inl Z) (S.fieldAddr Z (L 1 Z Z) Tryd.underlying50 Z ti3 Z Z) ?_
  refine U.k Z Z (.inl Z) (S.load Z (L 0 Z Z) Tryd.underlying3 Z ((ow4.own (k := 0) Z).cell Z)) (fun _ => (okH.nil (fun r h => by cases h; exact (ow4.own (k := 0) Z).lt))) ?_
  refine U.p Z Z (.inl Z) (S.lss Z (L 0 Z Z) K) ?_
  refine U.p Z Z (.inl Z) (S.move Z (L 0 Z Z)) ?_
  refine bcase (b := decide (p0.op < 1)) (fun g83 => ?_) (fun g83 => ?_)
  ·have h84 := ifT g83 h
   refine U.x Z Z Z Z ((L 0 Z Z).trans (cB g83)) (by decide) ?_
   refine U.x Z Z Z Z ((L 1 Z Z).trans (cB g83)) (by decide) ?_
   refine U.x Z Z Z Z ((L 2 Z Z).trans (cB g83)) (by decide) ?_
   refine U.p Z Z (.inl Z) (S.pickT Z ((L 3 Z Z).trans (cB g83)) K) ?_
   refine U.p Z Z (.inl Z) (S.move Z (L 0 Z Z)) ?_
   refine U.x Z Z Z Z (L 0 Z Z) (by decide) ?_
   refine U.x Z Z Z Z (L 1 Z Z) (by decide) ?_
   refine U.x Z Z Z Z (L 2 Z Z) (by decide) ?_
   refine U.x Z Z Z Z (L 3 Z Z) (by decide) ?_
   refine U.p Z Z (.inl Z) (S.pickT Z (L 4 Z Z) K) ?_
   refine U.p Z Z (.inl Z) (S.move Z (L 0 Z Z)) ?_
   refine U.x Z Z Z Z (L 0 Z Z) (by decide) ?_
   refine U.x Z Z Z Z (L 1 Z Z) (by decide) ?_
   refine U.x Z Z Z Z (L 2 Z Z) (by decide) ?_
   refine U.x Z Z Z Z (L 3 Z Z) (by decide) ?_
   refine U.z Z Z Z Z (L 0 Z Z) ?_
   refine U.z Z Z Z Z (L 1 Z Z) ?_
   refine U.z Z Z Z Z (L 2 Z Z) ?_
   refine U.x Z Z Z Z (L 7 Z Z) (by decide) ?_
   refine U.p Z Z (.inl Z) (S.pickT Z (L 8 Z Z) K) ?_
   refine U.done (nr Z) ?_
   refine sqN ?_
   exact ⟨_, V2, Z, ⟨true, Z, (.refl _), ow4, h84⟩, (allCons (L 25 Z Z) (allCons (L 0 Z Z) allNil))⟩
  ·have h85 := ifF g83 h
   refine U.p (v := .pointer (some ⟨b1, 0, none⟩)) Z Z (.inr ⟨_, _, _, Z, Z, ((L 0 Z Z).trans (cB g83))⟩) (S.fieldAddr Z (L 5 Z Z) Tryd.underlying50 Z ti3 Z Z) ?_
   refine U.k Z Z (.inr ⟨_, _, _, Z, Z, ((L 1 Z Z).trans (cB g83))⟩) (S.load Z (L 0 Z Z) Tryd.underlying3 Z ((ow4.own (k := 0) Z).cell Z)) (fun _ => (okH.cons trivial (okH.nil (fun r h => by cases h; exact (ow4.own (k := 0) Z).lt)))) ?_
   refine U.p Z Z (.inr ⟨_, _, _, Z, Z, ((L 2 Z Z).trans (cB g83))⟩) (S.gtr Z (L 0 Z Z) K) ?_
   refine U.p Z Z (.inl Z) (S.pickF Z ((L 3 Z Z).trans (cB g83)) (L 0 Z Z)) ?_
   refine U.p Z Z (.inl Z) (S.move Z (L 0 Z Z)) ?_
   refine bcase (b := decide (22 < p0.op)) (fun g86 => ?_) (fun g86 => ?_)
   ·have h87 := ifT g86 h85
    refine U.x Z Z Z Z ((L 0 Z Z).trans (cB g86)) (by decide) ?_
    refine U.x Z Z Z Z ((L 1 Z Z).trans (cB g86)) (by decide) ?_
    refine U.x Z Z Z Z ((L 2 Z Z).trans (cB g86)) (by decide) ?_
    refine U.x Z Z Z Z ((L 3 Z Z).trans (cB g86)) (by decide) ?_
    refine U.p Z Z (.inl Z) (S.pickT Z ((L 4 Z Z).trans (cB g86)) K) ?_
    refine U.p Z Z (.inl Z) (S.move Z (L 0 Z Z)) ?_
    refine U.x Z Z Z Z (L 0 Z Z) (by decide) ?_
    refine U.x Z Z Z Z (L 1 Z Z) (by decide) ?_
    refine U.x Z Z Z Z (L 2 Z Z) (by decide) ?_
    refine U.x Z Z Z Z (L 3 Z Z) (by decide) ?_
    refine U.z Z Z Z Z (L 0 Z Z) ?_
    refine U.z Z Z Z Z (L 1 Z Z) ?_
    refine U.z Z Z Z Z (L 2 Z Z) ?_
    refine U.x Z Z Z Z (L 7 Z Z) (by decide) ?_
    refine U.p Z Z (.inl Z) (S.pickT Z (L 8 Z Z) K) ?_
    refine U.done (nr Z) ?_
    refine sqN ?_
    exact ⟨_, V2, Z, ⟨true, Z, (.refl _), ow4, h87⟩, (allCons (L 25 Z Z) (allCons (L 0 Z Z) allNil))⟩
   ·have h88 := ifF g86 h85
    refine U.k Z Z (.inr ⟨_, _, _, Z, Z, ((L 0 Z Z).trans (cB g86))⟩) (S.loadB Z (L 10 Z Z) Tryd.underlying50 Z ti50 (ow4.own (k := 0) Z).get Z) (fun _ => (okH.cons trivial (okH.cons trivial (okH.nil (fun r h => by cases h; exact (ow4.own (k := 0) Z).lt))))) ?_
    obtain ⟨x89, hx90, h91⟩ := bindS h88
    refine O.call (V := V2) Z Z (.inr ⟨_, _, _, Z, Z, ((L 1 Z Z).trans (cB g86))⟩) Z en57 (aC (L 0 Z Z) aN) (wk_isa_used V2 _ (gl.up le3) p0 ow4 _ hx90) (fun v92 V93 le94 hp95 => by obtain ⟨rfl, ow96⟩ := hp95; exact (fun _ => (okH.cons (Or.inl Z) (okH.cons (Or.inl Z) (okH.cons (Or.inl Z) (okH.nil (fun r h => nomatch h))))))) (fun v92 V93 le94 hp95 => ?_)
    obtain ⟨rfl, ow96⟩ := hp95
    refine U.k Z Z (.inr ⟨_, _, _, Z, Z, ((L 2 Z Z).trans (cB g86))⟩) (S.loadB Z (L 12 Z Z) Tryd.underlying50 Z ti50 (ow96.own (k := 0) Z).get Z) (fun _ => (okH.cons (Or.inr (Or.inl ((ow96.own (k := 0) Z).get.trans (ow4.own (k := 0) Z).get.symm))) (okH.cons trivial (okH.cons trivial (okH.cons trivial (okH.nil (fun r h => by cases h; exact (ow96.own (k := 0) Z).lt))))))) ?_
    refine U.p Z Z (.inr ⟨_, _, _, Z, Z, ((L 3 Z Z).trans (cB g86))⟩) (S.neqT (flA (flC (.int _ _) (flC (.int _ _) (flC (.int _ _) (flC (.int _ _) (flC (.int _ _) flN)))))) (flA (flC (.int _ _) (flC (.int _ _) (flC (.int _ _) (flC (.int _ _) (flC (.int _ _) flN)))))) Z (L 1 Z Z) (L 0 Z Z) Tryd.underlying50 (by kernel_rfl) (by kernel_rfl) (.cons _ _ _ _ _ _ (by decide) (part_cell Tryd.underlying3 Z Z) (part_cell Tryd.underlying3 Z Z) (eqIn_int Tryd.underlying3 9998) (.cons _ _ _ _ _ _ (by decide) (part_cell Tryd.underlying3 Z Z) (part_cell Tryd.underlying3 Z Z) (eqIn_int Tryd.underlying3 9998) (.cons _ _ _ _ _ _ (by decide) (part_cell Tryd.underlying3 Z Z) (part_cell Tryd.underlying3 Z Z) (eqIn_int Tryd.underlying3 9998) (.cons _ _ _ _ _ _ (by decide) (part_cell Tryd.underlying3 Z Z) (part_cell Tryd.underlying3 Z Z) (eqIn_int Tryd.underlying3 9998) (.cons _ _ _ _ _ _ (by decide) (part_cell Tryd.underlying3 Z Z) (part_cell Tryd.underlying3 Z Z) (eqIn_int Tryd.underlying3 9998) .nil)))))) ?_
    refine U.p Z Z (.inl Z) (S.pickF Z ((L 4 Z Z).trans (cB g86)) (L 0 Z Z)) ?_
    refine U.p Z Z (.inl Z) (S.move Z (L 0 Z Z)) ?_
    refine bcase (b := !((decide (x89.op = p0.op)) && ((decide (x89.d = p0.d)) && ((decide (x89.a = p0.a)) && ((decide (x89.b = p0.b)) && ((decide (x89.imm = p0.imm)) && true)))))) (fun g97 => ?_) (fun g97 => ?_)
    ·have h98 := ifT g97 h91
     have k99 : ((decide (x89.op = p0.op)) && ((decide (x89.d = p0.d)) && ((decide (x89.a = p0.a)) && ((decide (x89.b = p0.b)) && ((decide (x89.imm = p0.imm)) && true))))) = false := nT g97
     refine U.x Z Z Z Z ((L 0 Z Z).trans (cB g97)) (by decide) ?_
     refine U.x Z Z Z Z ((L 1 Z Z).trans (cB g97)) (by decide) ?_
     refine U.x Z Z Z Z ((L 2 Z Z).trans (cB g97)) (by decide) ?_
     refine U.x Z Z Z Z ((L 3 Z Z).trans (cB g97)) (by decide) ?_
     refine U.z Z Z Z Z (L 0 Z Z) ?_
     refine U.z Z Z Z Z (L 1 Z Z) ?_
     refine U.z Z Z Z Z (L 2 Z Z) ?_
     refine U.x Z Z Z Z ((L 7 Z Z).trans (cB g97)) (by decide) ?_
     refine U.p Z Z (.inl Z) (S.pickT Z ((L 8 Z Z).trans (cB g97)) K) ?_
     refine U.done (nr Z) ?_
     refine sqN ?_
     exact ⟨_, V93, Z, ⟨true, Z, le94, ow96, h98⟩, (allCons (L 25 Z Z) (allCons (L 0 Z Z) allNil))⟩
    ·have h100 := ifF g97 h91
     have k101 : ((decide (x89.op = p0.op)) && ((decide (x89.d = p0.d)) && ((decide (x89.a = p0.a)) && ((decide (x89.b = p0.b)) && ((decide (x89.imm = p0.imm)) && true))))) = true := nF g97
     refine U.p (v := .pointer (some ⟨b1, 0, none⟩)) Z Z (.inr ⟨_, _, _, Z, Z, ((L 0 Z Z).trans (cB g97))⟩) (S.fieldAddr Z (L 16 Z Z) Tryd.underlying50 Z ti3 Z Z) ?_
     refine U.k Z Z (.inr ⟨_, _, _, Z, Z, ((L 1 Z Z).trans (cB g97))⟩) (S.load Z (L 0 Z Z) Tryd.underlying3 Z ((ow96.own (k := 0) Z).cell Z)) (fun _ => (okH.cons trivial (okH.cons (Or.inl Z) (okH.cons trivial (okH.cons trivial (okH.cons trivial (okH.nil (fun r h => by cases h; exact (ow96.own (k := 0) Z).lt)))))))) ?_
     refine U.p Z Z (.inr ⟨_, _, _, Z, Z, ((L 2 Z Z).trans (cB g97))⟩) (S.eqlI Z (L 0 Z Z) K) ?_
     refine U.p Z Z (.inr ⟨_, _, _, Z, Z, ((L 3 Z Z).trans (cB g97))⟩) (S.move Z (L 0 Z Z)) ?_
     refine bcase (b := decide (p0.op = 21)) (fun g102 => ?_) (fun g102 => ?_)
     ·have h103 := ifT g102 h100
      refine U.p (v := .pointer (some ⟨b1, 4, none⟩)) Z Z (.inr ⟨_, _, _, Z, Z, ((L 0 Z Z).trans (cB g102))⟩) (S.fieldAddr Z (L 20 Z Z) Tryd.underlying50 Z ti3 Z Z) ?_
      refine U.k Z Z (.inr ⟨_, _, _, Z, Z, ((L 1 Z Z).trans (cB g102))⟩) (S.load Z (L 0 Z Z) Tryd.underlying3 Z ((ow96.own (k := 0) Z).cell Z)) (fun _ => (okH.cons trivial (okH.cons trivial (okH.cons (Or.inl Z) (okH.cons trivial (okH.cons trivial (okH.cons trivial (okH.nil (fun r h => by cases h; exact (ow96.own (k := 0) Z).lt))))))))) ?_
      refine U.p Z Z (.inr ⟨_, _, _, Z, Z, ((L 2 Z Z).trans (cB g102))⟩) (S.lss Z (L 0 Z Z) K) ?_
      refine U.p Z Z (.inr ⟨_, _, _, Z, Z, ((L 7 Z Z).trans (cB g97))⟩) (S.pickT Z ((L 3 Z Z).trans (cB g102)) (L 0 Z Z)) ?_
      refine U.p Z Z (.inl Z) (S.pickF Z ((L 8 Z Z).trans (cB g97)) (L 0 Z Z)) ?_
      refine U.done (nr Z) ?_
      refine sqN ?_
      exact ⟨_, V93, Z, ⟨decide (p0.imm < 0), Z, le94, ow96, h103⟩, (allCons (L 25 Z Z) (allCons (L 0 Z Z) allNil))⟩
     ·have h104 := ifF g102 h100
      refine U.x Z Z Z Z ((L 0 Z Z).trans (cB g102)) (by decide) ?_
      refine U.x Z Z Z Z ((L 1 Z Z).trans (cB g102)) (by decide) ?_
      refine U.x Z Z Z Z ((L 2 Z Z).trans (cB g102)) (by decide) ?_
      refine U.p Z Z (.inr ⟨_, _, _, Z, Z, ((L 7 Z Z).trans (cB g97))⟩) (S.pickF Z ((L 3 Z Z).trans (cB g102)) K) ?_
      refine U.p Z Z (.inl Z) (S.pickF Z ((L 8 Z Z).trans (cB g97)) (L 0 Z Z)) ?_
      refine U.done (nr Z) ?_
      refine sqN ?_
      exact ⟨_, V93, Z, ⟨false, Z, le94, ow96, h104⟩, (allCons (L 25 Z Z) (allCons (L 0 Z Z) allNil))⟩
theorem wk_word_Bits (V : Vw) (Rs : List At) (gl : Glb V) (p0 : Int) (p1 : Int) (ow : Ow V (Rs)) (r : Int) (h : word_Bits p0 p1 = some r) : ∃ v V', Cl Tryd.prog NG 54 #[.int .i64 p0, .int .i64 p1] V.H v V'.H ∧ V.le V' ∧ (v = .int .u32 r ∧ Ow V' (Rs)) := by
 refine Ct.of gl.lo Tryd.func54 Z (nr Z) ?_
 unfold word_Bits at h
 refine WP.usreg Z ?_
 refine U.p Z Z (.inl Z) (S.assign Z K) ?_
 refine U.done (nr Z) ?_
 refine WP.usreg Z ?_
 refine U.p Z Z (.inl Z) (S.move Z (L 1 Z Z)) ?_
 refine U.p Z Z (.inl Z) (S.conv Z (L 0 Z Z) Tryd.underlying3 Tryd.underlying39) ?_
 refine U.p Z Z (.inl Z) (S.move Z (L 4 Z Z)) ?_
 obtain ⟨x1, hx2, h3⟩ := bindS h
 refine O.call (V := V) Z Z (.inl Z) Z en63 (aC (L 0 Z Z) aN) (wk_word_mask V _ gl p1 ow _ hx2) (fun _ _ _ _ => nd) (fun v4 V5 le6 hp7 => ?_)
 obtain ⟨rfl, ow8⟩ := hp7
 refine U.p Z Z (.inl Z) (S.andI Z (L 2 Z Z) (L 0 Z Z)) ?_
 refine U.p Z Z (.inl Z) (S.assign Z (L 0 Z Z)) ?_
 refine U.done (nr Z) ?_
 refine WP.ret ?_
 refine fin.slot (.inr Z) Z (L 0 Z Z) ⟨V5, Z, le6, ?_⟩
 have e9 := Option.some.inj h3
 subst e9
 exact ⟨rfl, ow8⟩
theorem wk_word_Put (V : Vw) (Rs : List At) (gl : Glb V) (p0 : Int) (p1 : Int) (p2 : Int) (p3 : Int) (ow : Ow V (Rs)) (r : Int) (h : word_Put p0 p1 p2 p3 = some r) : ∃ v V', Cl Tryd.prog NG 53 #[.int .u32 p0, .int .i64 p1, .int .i64 p2, .int .u32 p3] V.H v V'.H ∧ V.le V' ∧ (v = .int .u32 r ∧ Ow V' (Rs)) := by
 refine Ct.of gl.lo Tryd.func53 Z (nr Z) ?_
 unfold word_Put at h
 refine WP.usreg Z ?_
 refine U.p Z Z (.inl Z) (S.assign Z K) ?_
 refine U.done (nr Z) ?_
 refine WP.seq ?_
 refine WP.usreg Z ?_
 refine U.p Z Z (.inl Z) (S.move Z (L 2 Z Z)) ?_
 refine U.p Z Z (.inl Z) (S.move Z (L 4 Z Z)) ?_
 obtain ⟨x1, hx2, h3⟩ := bindS h
 refine O.call (V := V) Z Z (.inl Z) Z en62 (aC (L 1 Z Z) (aC (L 0 Z Z) aN)) (wk_word_good V _ gl p1 p2 ow _ hx2) (fun _ _ _ _ => nd) (fun v4 V5 le6 hp7 => ?_)
 obtain ⟨rfl, ow8⟩ := hp7
 refine U.p Z Z (.inl Z) (S.not Z (L 0 Z Z)) ?_
 refine U.done (nr Z) ?_
 refine WP.cond _ (L 0 Z Z) Z (fun c9 => ?_) (fun c9 => ?_)
 ·have h10 := ifT c9 h3
  have k11 : x1 = false := nT c9
  refine WP.usreg Z ?_
  refine U.p Z Z (.inl Z) (S.move Z (L 5 Z Z)) ?_
  refine U.p Z Z (.inl Z) (S.assign Z (L 0 Z Z)) ?_
  refine U.done (nr Z) ?_
  refine WP.ret ?_
  refine sqR ?_
  refine fin.slot (.inr Z) Z (L 0 Z Z) ⟨V5, Z, le6, ?_⟩
  have e12 := Option.some.inj h10
  subst e12
  exact ⟨rfl, ow8⟩
 ·have h13 := ifF c9 h3
  have k14 : x1 = true := nF c9
  refine WP.skip ?_
  refine sqN ?_
  refine WP.usreg Z ?_
  refine U.p Z Z (.inl Z) (S.move Z (L 6 Z Z)) ?_
  refine U.p Z Z (.inl Z) (S.sub Z K (L 0 Z Z)) ?_
  refine U.p Z Z (.inl Z) (S.move Z (L 9 Z Z)) ?_
  refine U.p Z Z (.inl Z) (S.sub Z (L 1 Z Z) (L 0 Z Z)) ?_
  refine U.p Z Z (.inl Z) (S.assign Z (L 0 Z Z)) ?_
  refine U.done (nr Z) ?_
  refine WP.usdreg Z Z Z ?_
  refine U.p Z Z (.inl Z) (S.move Z (L 10 Z Z)) ?_
  refine U.p Z Z (.inl Z) (S.move Z (L 13 Z Z)) ?_
  obtain ⟨x15, hx16, h17⟩ := bindS h13
  refine O.call (V := V5) Z Z (.inl Z) Z en63 (aC (L 0 Z Z) aN) (wk_word_mask V5 _ (gl.up le6) p2 ow8 _ hx16) (fun v18 V19 le20 hp21 => by obtain ⟨rfl, ow22⟩ := hp21; exact (fun _ => (okH.nil (fun r h => nomatch h)))) (fun v18 V19 le20 hp21 => ?_)
  obtain ⟨rfl, ow22⟩ := hp21
  refine U.p Z Z (.inl Z) (S.move Z (L 3 Z Z)) ?_
  obtain ⟨x23, hx24, h25⟩ := bindS h17
  refine U.p Z Z (.inl Z) (S.shl hx24 Z (L 1 Z Z) (L 0 Z Z)) ?_
  refine U.p Z Z (.inl Z) (S.andNotI Z (L 4 Z Z) (L 0 Z Z)) ?_
  refine U.p Z Z (.inl Z) (S.move Z (L 19 Z Z)) ?_
  refine U.p Z Z (.inl Z) (S.move Z (L 19 Z Z)) ?_
  obtain ⟨x26, hx27, h28⟩ := bindS h25
  refine O.call (V := V19) Z Z (.inl Z) Z en63 (aC (L 0 Z Z) aN) (wk_word_mask V19 _ (gl.up (le6.trans le20)) p2 ow22 _ hx27) (fun v29 V30 le31 hp32 => by obtain ⟨rfl, ow33⟩ := hp32; exact (fun _ => (okH.cons Z (okH.nil (fun r h => nomatch h))))) (fun v29 V30 le31 hp32 => ?_)
  obtain ⟨rfl, ow33⟩ := hp32
  refine U.p Z Z (.inl Z) (S.andI Z (L 2 Z Z) (L 0 Z Z)) ?_
  refine U.p Z Z (.inl Z) (S.move Z (L 10 Z Z)) ?_
  obtain ⟨x34, hx35, h36⟩ := bindS h28
  refine U.p Z Z (.inl Z) (S.shl hx35 Z (L 1 Z Z) (L 0 Z Z)) ?_
  refine U.p Z Z (.inl Z) (S.orI Z (L 6 Z Z) (L 0 Z Z)) ?_
  refine U.p Z Z (.inl Z) (S.assign Z (L 0 Z Z)) ?_
  refine U.done (nr Z) ?_
  refine WP.ret ?_
  refine fin.slot (.inr Z) Z (L 0 Z Z) ⟨V30, Z, ((le6.trans le20).trans le31), ?_⟩
  have e37 := Option.some.inj h36
  subst e37
  exact ⟨rfl, ow33⟩
theorem wk_isa_Encode (V : Vw) (Rs : List At) (gl : Glb V) (p0 : TInst) (ow : Ow V (Rs)) (r : Int × Int) (h : isa_Encode p0 = some r) : ∃ v V', Cl Tryd.prog NG 38 #[.agg #[.int .i64 p0.op, .int .i64 p0.d, .int .i64 p0.a, .int .i64 p0.b, .int .i64 p0.imm]] V.H v V'.H ∧ V.le V' ∧ (v = .tuple #[.int .u32 r.1, .int .i64 r.2] ∧ Ow V' (Rs)) := by
 refine Ct.of gl.lo Tryd.func38 Z (nr Z) ?_
 unfold isa_Encode at h
 refine WP.usreg Z ?_
 refine O.box ow Z Z (.inl Z) Z (L 0 Z Z) (by simp [topV]) Z nd (fun b1 V2 le3 ow4 => ?_)
 refine U.p Z Z (.inl Z) (S.assign Z K) ?_
 refine U.p Z Z (.inl Z) (S.assign Z K) ?_
 refine U.done (nr Z) ?_
 refine WP.seq ?_
 refine WP.usreg Z ?_
 refine U.k Z Z (.inl Z) (S.loadB Z (L 2 Z Z) Tryd.underlying50 Z ti50 (ow4.own (k := 0) Z).get Z) nd ?_
 obtain ⟨x6, hx7, h8⟩ := bindS h
 refine O.call (V := V2) Z Z (.inl Z) Z en41 (aC (L 0 Z Z) aN) (wk_isa_Good V2 _ (gl.up le3) p0 ow4 _ hx7) (fun _ _ _ _ => nd) (fun v9 V10 le11 hp12 => ?_)
 obtain ⟨rfl, ow13⟩ := hp12
 refine U.p Z Z (.inl Z) (S.not Z (L 0 Z Z)) ?_
 refine U.done (nr Z) ?_
 refine WP.cond _ (L 0 Z Z) Z (fun c14 => ?_) (fun c14 => ?_)
 ·have h15 := ifT c14 h8
  have k16 : x6 = false := nT c14
  refine WP.usreg Z ?_
  refine U.p Z Z (.inl Z) (S.assign Z K) ?_
  refine U.p Z Z (.inl Z) (S.assign Z K) ?_
  refine U.done (nr Z) ?_
  refine WP.ret ?_
  refine sqR ?_
  refine fin.slots' (.inr Z) (fsC (L 1 Z Z) (fsC (L 0 Z Z) fsN)) Z ⟨V10, Z, (le3.trans le11), ?_⟩
  have ow17 := ow13.drop 0 Z
  have e18 := Option.some.inj h15
  subst e18
  exact ⟨rfl, ow17⟩
 ·have h19 := ifF c14 h8
  have k20 : x6 = true := nF c14
  refine WP.skip ?_
  refine sqN ?_
  refine WP.usreg Z ?_
  refine U.p (v := .pointer (some ⟨b1, 0, none⟩)) Z Z (.inl Z) (S.fieldAddr Z (L 5 Z Z) Tryd.underlying50 Z ti3 Z Z) ?_
  refine U.k Z Z (.inl Z) (S.load Z (L 0 Z Z) Tryd.underlying3 Z ((ow13.own (k := 0) Z).cell Z)) nd ?_
  obtain ⟨x21, hx22, h23⟩ := bindS h19
  obtain ⟨_, _, _, cs24, hv25, hf26, hr27, hc28⟩ := (gl.up (le3.trans le11)).g1.at hx22
  cases hv25
  obtain rfl : cs24 = [.string x21.name, .string x21.fields, .int .u32 x21.word] := hr27
  refine U.p Z Z (.inl Z) (S.indexA Z Gl (L 0 Z Z) Tryd.underlying82 ti81 (ix_ge hx22) (by have q1 := ix_lt hx22; have q2 := gl1_len; omega)) ?_
  refine U.p (v := .pointer (some ⟨1, 0 + Int.toNat p0.op * 3 + 2, none⟩)) Z Z (.inl Z) (S.fieldAddr Z (L 0 Z Z) Tryd.underlying81 Z ti39 Z Z) ?_
  refine U.k Z Z (.inl Z) (S.load Z (L 0 Z Z) Tryd.underlying39 Z (hc28 2 _ Z)) nd ?_
  refine U.p Z Z (.inl Z) (S.assign Z (L 0 Z Z)) ?_
  refine U.done (nr Z) ?_
  refine WP.seq ?_
  refine WP.usreg Z ?_
  refine U.p (v := .pointer (some ⟨b1, 0, none⟩)) Z Z (.inl Z) (S.fieldAddr Z (L 11 Z Z) Tryd.underlying50 Z ti3 Z Z) ?_
  refine U.k Z Z (.inl Z) (S.load Z (L 0 Z Z) Tryd.underlying3 Z ((ow13.own (k := 0) Z).cell Z)) nd ?_
  obtain ⟨x29, hx30, h31⟩ := bindS h23
  obtain ⟨_, _, _, cs32, hv33, hf34, hr35, hc36⟩ := (gl.up (le3.trans le11)).g1.at hx30
  cases hv33
  obtain rfl : cs32 = [.string x29.name, .string x29.fields, .int .u32 x29.word] := hr35
  refine U.p Z Z (.inl Z) (S.indexA Z Gl (L 0 Z Z) Tryd.underlying82 ti81 (ix_ge hx30) (by have q1 := ix_lt hx30; have q2 := gl1_len; omega)) ?_
  refine U.p (v := .pointer (some ⟨1, 0 + Int.toNat p0.op * 3 + 1, none⟩)) Z Z (.inl Z) (S.fieldAddr Z (L 0 Z Z) Tryd.underlying81 Z ti9 Z Z) ?_
  refine U.k Z Z (.inl Z) (S.load Z (L 0 Z Z) Tryd.underlying9 Z (hc36 1 _ Z)) nd ?_
  obtain ⟨xs37, hx38, h39⟩ := bindS h31
  refine O.bytes ow13 Z Z (.inl Z) Z (L 0 Z Z) Tryd.underlying9 Tryd.underlying46 Tryd.underlying5 hx38 (fun _ => nd) (fun v40 V41 le42 ow43 => ?_)
  refine U.p Z Z (.inl Z) (ow43.oslen (k := 0) Z Z (L 0 Z Z) Tryd.underlying46) ?_
  refine U.p Z Z (.inl Z) (S.move Z K) ?_
  refine U.done (nr Z) ?_
  refine WP.blk ?_
  have ow47 := ow43.pick 0 Z
  have ow48 := ow47.pick 1 Z
  unfold isa_Encode_l1 at h39
  obtain ⟨n50, hn49⟩ := loopO_some.1 h39
  refine WP.loopI2 (fun n l V' => ∃ (x45 : Int) (x46 : Int), l = [(1, .pointer (some ⟨b1, 0, none⟩)), (4, .int .u32 x45), (24, v40), (25, .int .i64 (xs37.length : Int)), (26, .int .i64 x46)] ∧ V41.le V' ∧ Ow V' (.pt b1 (.cells 0 [.int .i64 p0.op, .int .i64 p0.d, .int .i64 p0.a, .int .i64 p0.b, .int .i64 p0.imm]) :: .os (RT.int .u8) v40 xs37 :: Rs) ∧ itO (fun s => isa_Encode_l1b p0 xs37 s.1 s.2) n (x45, x46) = some r) n50 _ ⟨x21.word, 0, Z, .refl _, ow48, hn49⟩ (allCons (L 19 Z Z) (allCons (L 8 Z Z) (allCons (L 2 Z Z) (allCons (L 1 Z Z) (allCons (L 0 Z Z) allNil))))) ?_
  rintro _ _ V51 ⟨x45, x46, rfl, le52, ow53, h57⟩
  obtain ⟨m54, q55, rfl, h58, e56⟩ := itS h57
  replace h58 : isa_Encode_l1b p0 xs37 x45 x46 = some q55 := h58
  unfold isa_Encode_l1b at h58
  refine WP.usreg Z ?_
  refine U.p Z Z (.inl Z) (S.lss Z (L 4 Z Z) (L 3 Z Z)) ?_
  refine U.done (nr Z) ?_
  refine WP.seq ?_
  refine WP.cond _ (L 0 Z Z) Z (fun c59 => ?_) (fun c59 => ?_)
  ·have h60 := ifT c59 h58
   refine WP.skip ?_
   refine sqN ?_
   refine WP.seq ?_
   refine WP.blk ?_
   refine WP.usreg Z ?_
   obtain ⟨x61, hx62, h63⟩ := bindS h60
   obtain ⟨b64, o65, n66, c67, hv68⟩ := ow53.ospt (k := 1) Z hx62
   obtain ⟨_, hv69, _⟩ := ow53.osel (k := 1) Z hv68 hx62
   refine U.p Z Z (.inl Z) (S.index Z ((L 3 Z Z).trans hv69) (L 5 Z Z) Tryd.underlying46 ti5 (ix_ge hx62) (ix_lt hx62)) ?_
   obtain ⟨cs70, hv71, hlt72, hr73, hc74⟩ := ow53.osel (k := 1) Z hv68 hx62
   obtain rfl : cs70 = [.int .u8 x61] := hr73
   refine U.k Z Z (.inl Z) (S.load Z (L 0 Z Z) Tryd.underlying5 Z (hc74 0 _ Z)) nd ?_
   refine U.p Z Z (.inl Z) (S.assign Z (L 0 Z Z)) ?_
   refine U.done (nr Z) ?_
   refine WP.usreg Z ?_
   refine U.p Z Z (.inl Z) (S.move Z (L 0 Z Z)) ?_
   obtain ⟨x75, hx76, h77⟩ := bindS h63
   refine O.call (V := V51) Z Z (.inl Z) Z en52 (aC (L 0 Z Z) (aC (L 5 Z Z) aN)) (wk_isa_part V51 _ (gl.up (((le3.trans le11).trans le42).trans le52)) x61 p0 b1 0 ow53 _ hx76) (fun _ _ _ _ => nd) (fun v78 V79 le80 hp81 => ?_)
   obtain ⟨rfl, ow82⟩ := hp81
   refine U.p Z Z (.inl Z) (S.move Z (L 0 Z Z)) ?_
   refine U.p Z Z (.inl Z) (S.extract Z (L 0 Z Z) Z (nr Z)) ?_
   refine U.p Z Z (.inl Z) (S.extract Z (L 1 Z Z) Z (nr Z)) ?_
   refine U.p Z Z (.inl Z) (S.extract Z (L 2 Z Z) Z (nr Z)) ?_
   refine U.p Z Z (.inl Z) (S.extract Z (L 3 Z Z) Z (nr Z)) ?_
   refine U.p Z Z (.inl Z) (S.assign Z (L 3 Z Z)) ?_
   refine U.p Z Z (.inl Z) (S.assign Z (L 3 Z Z)) ?_
   refine U.p Z Z (.inl Z) (S.assign Z (L 3 Z Z)) ?_
   refine U.p Z Z (.inl Z) (S.assign Z (L 3 Z Z)) ?_
   refine U.done (nr Z) ?_
   refine WP.ureg Z ?_
   refine U.p Z Z (.inl Z) (S.move Z (L 16 Z Z)) ?_
   refine U.p Z Z (.inl Z) (S.move Z (L 4 Z Z)) ?_
   refine U.p Z Z (.inl Z) (S.move Z (L 4 Z Z)) ?_
   refine U.p Z Z (.inl Z) (S.move Z (L 4 Z Z)) ?_
   refine U.p Z Z (.inl Z) (S.move Z (L 6 Z Z)) ?_
   obtain ⟨x83, hx84, h85⟩ := bindS h77
   refine O.call (V := V79) Z Z (.inl Z) Z en54 (aC (L 1 Z Z) (aC (L 0 Z Z) aN)) (wk_word_Bits V79 _ (gl.up ((((le3.trans le11).trans le42).trans le52).trans le80)) x75.2.2.1 x75.2.1 ow82 _ hx84) (fun _ _ _ _ => nd) (fun v86 V87 le88 hp89 => ?_)
   obtain ⟨rfl, ow90⟩ := hp89
   obtain ⟨x91, hx92, h93⟩ := bindS h85
   refine O.call (V := V87) Z Z (.inl Z) Z en53 (aC (L 5 Z Z) (aC (L 4 Z Z) (aC (L 3 Z Z) (aC (L 0 Z Z) aN)))) (wk_word_Put V87 _ (gl.up (((((le3.trans le11).trans le42).trans le52).trans le80).trans le88)) x45 x75.1 x75.2.1 x83 ow90 _ hx92) (fun _ _ _ _ => nd) (fun v94 V95 le96 hp97 => ?_)
   obtain ⟨rfl, ow98⟩ := hp97
   refine U.p Z Z (.inl Z) (S.assign Z (L 0 Z Z)) ?_
   refine U.done (nr Z) ?_
   refine blkN (sqN ?_)
   refine WP.ureg Z ?_
   refine U.p Z Z (.inl Z) (S.add Z (L 27 Z Z) K) ?_
   refine U.p Z Z (.inl Z) (S.move Z (L 0 Z Z)) ?_
   refine U.done (nr Z) ?_
   refine sqN ?_
   exact ⟨_, V95, Z, ⟨m54, Nat.lt_succ_self _, x91, w64 (x46 + 1), Z, (((le52.trans le80).trans le88).trans le96), ow98, backS h93 e56⟩, (allCons (L 25 Z Z) (allCons (L 2 Z Z) (allCons (L 27 Z Z) (allCons (L 28 Z Z) (allCons (L 0 Z Z) allNil)))))⟩
  ·have h99 := ifF c59 h58
   refine WP.exit ?_
   refine sqE (sqE (blkE (sqN ?_)))
   have h100 := exitS h99 e56
   refine WP.usreg Z ?_
   refine U.p Z Z (.inl Z) (S.move Z (L 2 Z Z)) ?_
   refine U.p Z Z (.inl Z) (S.assign Z (L 0 Z Z)) ?_
   refine U.p Z Z (.inl Z) (S.assign Z K) ?_
   refine U.done (nr Z) ?_
   refine WP.ret ?_
   refine fin.slots' (.inr Z) (fsC (L 1 Z Z) (fsC (L 0 Z Z) fsN)) Z ⟨V51, Z, (((le3.trans le11).trans le42).trans le52), ?_⟩
   have ow101 := ow53.drop 0 Z
   have ow102 := ow101.drop 0 Z
   have e103 := Option.some.inj h100
   subst e103
   exact ⟨rfl, ow102⟩
theorem wk_isa_Decode (V : Vw) (Rs : List At) (gl : Glb V) (p0 : Int) (ow : Ow V (Rs)) (r : TInst × Int) (h : isa_Decode p0 = some r) : ∃ v V', Cl Tryd.prog NG 23 #[.int .u32 p0] V.H v V'.H ∧ V.le V' ∧ (v = .tuple #[.agg #[.int .i64 r.1.op, .int .i64 r.1.d, .int .i64 r.1.a, .int .i64 r.1.b, .int .i64 r.1.imm], .int .i64 r.2] ∧ Ow V' (Rs)) := by
 refine Ct.of gl.lo Tryd.func23 Z (nr Z) ?_
 unfold isa_Decode at h
 refine WP.usreg Z ?_
 refine O.alloc ow Z Z (.inl Z) Z ti50 Z Z nd (fun b1 V2 le3 ow4 => ?_)
 refine U.p Z Z (.inl Z) (S.assign Z K) ?_
 refine U.done (nr Z) ?_
 refine WP.seq ?_
 refine WP.usreg Z ?_
 refine U.p Z Z (.inl Z) (S.assign Z K) ?_
 refine U.done (nr Z) ?_
 refine WP.blk ?_
 unfold isa_Decode_l1 at h
 obtain ⟨n8, hn7⟩ := loopO_some.1 h
 refine WP.loopI2 (fun n l V' => ∃ (x6 : Int), l = [(0, .int .u32 p0), (2, .pointer (some ⟨b1, 0, none⟩)), (4, .int .i64 x6)] ∧ V2.le V' ∧ Ow V' (.pt b1 (.cells 5 [.int .i64 0, .int .i64 0, .int .i64 0, .int .i64 0, .int .i64 0]) :: Rs) ∧ itO (fun s => isa_Decode_l1b p0 s) n x6 = some r) n8 _ ⟨1, Z, .refl _, ow4, hn7⟩ (allCons (L 3 Z Z) (allCons (L 2 Z Z) (allCons (L 0 Z Z) allNil))) ?_
 rintro _ _ V9 ⟨x6, rfl, le10, ow11, h15⟩
 obtain ⟨m12, q13, rfl, h16, e14⟩ := itS h15
 replace h16 : isa_Decode_l1b p0 x6 = some q13 := h16
 unfold isa_Decode_l1b at h16
 refine WP.seq ?_
 refine WP.usreg Z ?_
 refine U.p Z Z (.inl Z) (S.move Z (L 2 Z Z)) ?_
 refine U.p Z Z (.inl Z) (S.leq Z (L 0 Z Z) K) ?_
 refine U.done (nr Z) ?_
 refine WP.cond _ (L 0 Z Z) Z (fun c17 => ?_) (fun c17 => ?_)
 ·have h18 := ifT c17 h16
  refine WP.skip ?_
  refine sqN ?_
  refine WP.seq ?_
  refine WP.blk ?_
  refine WP.usreg Z ?_
  refine U.p Z Z (.inl Z) (S.move Z (L 4 Z Z)) ?_
  refine U.p Z Z (.inl Z) (S.move Z (L 3 Z Z)) ?_
  obtain ⟨x19, hx20, h21⟩ := bindS h18
  refine O.call (V := V9) Z Z (.inl Z) Z en37 (aC (L 1 Z Z) (aC (L 0 Z Z) aN)) (wk_isa_read V9 _ (gl.up (le3.trans le10)) x6 p0 ow11 _ hx20) (fun _ _ _ _ => nd) (fun v22 V23 le24 hp25 => ?_)
  obtain ⟨rfl, ow26⟩ := hp25
  refine O.alloc ow26 Z Z (.inl Z) Z ti50 Z Z nd (fun b27 V28 le29 ow30 => ?_)
  refine O.store (k := 0) (cs := [.int .i64 x19.op, .int .i64 x19.d, .int .i64 x19.a, .int .i64 x19.b, .int .i64 x19.imm]) (c' := [.int .i64 x19.op, .int .i64 x19.d, .int .i64 x19.a, .int .i64 x19.b, .int .i64 x19.imm]) ow30 Z Z Z (.inl Z) Z (L 0 Z Z) (L 1 Z Z) ti50 (by simp [topV]) Z Z (nr Z) Z Z nd (fun V32 le33 ow34 => ?_)
  refine U.done (nr Z) ?_
  refine WP.usreg Z ?_
  refine U.k Z Z (.inl Z) (S.loadB Z (L 0 Z Z) Tryd.underlying50 Z ti50 (ow34.own (k := 0) Z).get Z) nd ?_
  obtain ⟨x35, hx36, h37⟩ := bindS h21
  refine O.call (V := V32) Z Z (.inl Z) Z en38 (aC (L 0 Z Z) aN) (wk_isa_Encode V32 _ (gl.up ((((le3.trans le10).trans le24).trans le29).trans le33)) x19 ow34 _ hx36) (fun _ _ _ _ => nd) (fun v38 V39 le40 hp41 => ?_)
  obtain ⟨rfl, ow42⟩ := hp41
  refine U.p Z Z (.inl Z) (S.move Z (L 0 Z Z)) ?_
  refine U.p Z Z (.inl Z) (S.extract Z (L 0 Z Z) Z (nr Z)) ?_
  refine U.p Z Z (.inl Z) (S.extract Z (L 1 Z Z) Z (nr Z)) ?_
  refine U.p Z Z (.inl Z) (S.assign Z (L 1 Z Z)) ?_
  refine U.p Z Z (.inl Z) (S.assign Z (L 1 Z Z)) ?_
  refine U.done (nr Z) ?_
  refine WP.usreg Z ?_
  refine U.p Z Z (.inl Z) (S.move Z (L 0 Z Z)) ?_
  refine U.p Z Z (.inl Z) (S.eqlI Z (L 0 Z Z) K) ?_
  refine U.p Z Z (.inl Z) (S.move Z (L 0 Z Z)) ?_
  refine U.joinX 7 (fun e H => ∃ (u43 u44 u45 : Value), H = V39.H ∧ e = [(26, .bool ((decide (x35.2 = 0)) && (decide (x35.1 = p0)))), (25, u43), (24, u44), (23, u45)]) ?_ ?_
  ·rintro _ _ ⟨u43, u44, u45, rfl, rfl⟩
   refine U.done (nr Z) ?_
   refine WP.cond _ (L 0 Z Z) Z (fun c49 => ?_) (fun c49 => ?_)
   ·have h50 := ifT c49 h37
    refine WP.usreg Z ?_
    refine U.k Z Z (.inl Z) (S.loadB Z (L 14 Z Z) Tryd.underlying50 Z ti50 (ow42.own (k := 0) Z).get Z) nd ?_
    refine O.store (k := 1) (cs := [.int .i64 x19.op, .int .i64 x19.d, .int .i64 x19.a, .int .i64 x19.b, .int .i64 x19.imm]) (c' := [.int .i64 x19.op, .int .i64 x19.d, .int .i64 x19.a, .int .i64 x19.b, .int .i64 x19.imm]) ow42 Z Z Z (.inl Z) Z (L 22 Z Z) (L 0 Z Z) ti50 (by simp [topV]) Z Z (nr Z) Z Z nd (fun V51 le52 ow53 => ?_)
    refine U.p Z Z (.inl Z) (S.assign Z K) ?_
    refine U.done (nr Z) ?_
    refine WP.ret ?_
    refine blkR (sqR (sqR (blkR (sqR ?_))))
    have h54 := exitS h50 e14
    refine fin.mix (.inr Z) (resA (L 23 Z Z) Tryd.underlying50 Z ti50 (ow53.own (k := 1) Z).get Z (resT (L 0 Z Z) res0)) Z ⟨V51, Z, ((((((le3.trans le10).trans le24).trans le29).trans le33).trans le40).trans le52), ?_⟩
    have ow55 := ow53.drop 0 Z
    have ow56 := ow55.drop 0 Z
    have e57 := Option.some.inj h54
    subst e57
    exact ⟨rfl, ow56⟩
   ·have h58 := ifF c49 h37
    refine WP.skip ?_
    refine blkN (sqN ?_)
    refine WP.ureg Z ?_
    refine U.p Z Z (.inl Z) (S.move Z (L 22 Z Z)) ?_
    refine U.p Z Z (.inl Z) (S.add Z (L 0 Z Z) K) ?_
    refine U.p Z Z (.inl Z) (S.assign Z (L 0 Z Z)) ?_
    refine U.done (nr Z) ?_
    refine sqN ?_
    have ow59 := ow42.drop 0 Z
    exact ⟨_, V39, Z, ⟨m12, Nat.lt_succ_self _, w64 (x6 + 1), Z, ((((le10.trans le24).trans le29).trans le33).trans le40), ow59, backS h58 e14⟩, (allCons (L 23 Z Z) (allCons (L 24 Z Z) (allCons (L 0 Z Z) allNil)))⟩
  ·intro kk
   refine bcase (b := decide (x35.2 = 0)) (fun g60 => ?_) (fun g60 => ?_)
   ·skip
    refine U.p Z Z (.inr ⟨_, _, _, Z, Z, ((L 0 Z Z).trans (cB g60))⟩) (S.move Z (L 4 Z Z)) ?_
    refine U.p Z Z (.inr ⟨_, _, _, Z, Z, ((L 1 Z Z).trans (cB g60))⟩) (S.move Z (L 17 Z Z)) ?_
    refine U.p Z Z (.inr ⟨_, _, _, Z, Z, ((L 2 Z Z).trans (cB g60))⟩) (S.eqlI Z (L 1 Z Z) (L 0 Z Z)) ?_
    refine U.p Z Z (.inl Z) (S.pickT Z ((L 3 Z Z).trans (cB g60)) (L 0 Z Z)) ?_
    exact kk [(26, .bool (decide (x35.1 = p0))), (25, .bool (decide (x35.1 = p0))), (24, .int .u32 p0), (23, .int .u32 x35.1)] _ ⟨.bool (decide (x35.1 = p0)), .int .u32 p0, .int .u32 x35.1, Z, (by rw [g60, Bool.true_and])⟩
   ·skip
    refine U.x Z Z Z Z ((L 0 Z Z).trans (cB g60)) (by decide) ?_
    refine U.x Z Z Z Z ((L 1 Z Z).trans (cB g60)) (by decide) ?_
    refine U.x Z Z Z Z ((L 2 Z Z).trans (cB g60)) (by decide) ?_
    refine U.p Z Z (.inl Z) (S.pickF Z ((L 3 Z Z).trans (cB g60)) K) ?_
    exact kk [(26, .bool false), (25, .tuple #[]), (24, .tuple #[]), (23, .tuple #[])] _ ⟨.tuple #[], .tuple #[], .tuple #[], Z, (by rw [g60, Bool.false_and])⟩
 ·have h61 := ifF c17 h16
  refine WP.exit ?_
  refine sqE (sqE (blkE (sqN ?_)))
  have h62 := exitS h61 e14
  refine WP.usreg Z ?_
  refine U.p (v := .agg #[.int .i64 0, .int .i64 0, .int .i64 0, .int .i64 0, .int .i64 0]) Z Z (.inl Z) (S.build (vs := []) Z ti50 Z pl50 aN allN Z) ?_
  refine O.store (k := 0) (cs := [.int .i64 0, .int .i64 0, .int .i64 0, .int .i64 0, .int .i64 0]) (c' := [.int .i64 0, .int .i64 0, .int .i64 0, .int .i64 0, .int .i64 0]) ow11 Z Z Z (.inl Z) Z (L 4 Z Z) (L 0 Z Z) ti50 (by simp [topV]) Z Z (nr Z) Z Z nd (fun V63 le64 ow65 => ?_)
  refine U.p Z Z (.inl Z) (S.assign Z K) ?_
  refine U.done (nr Z) ?_
  refine WP.ret ?_
  refine fin.mix (.inr Z) (resA (L 5 Z Z) Tryd.underlying50 Z ti50 (ow65.own (k := 0) Z).get Z (resT (L 0 Z Z) res0)) Z ⟨V63, Z, ((le3.trans le10).trans le64), ?_⟩
  have ow66 := ow65.drop 0 Z
  have e67 := Option.some.inj h62
  subst e67
  exact ⟨rfl, ow66⟩
theorem wk_image_fits (V : Vw) (Rs : List At) (gl : Glb V) (p0 : TInst) (p1 : TNote) (ow : Ow V (Rs)) (r : Bool) (h : image_fits p0 p1 = some r) : ∃ v V', Cl Tryd.prog NG 25 #[.agg #[.int .i64 p0.op, .int .i64 p0.d, .int .i64 p0.a, .int .i64 p0.b, .int .i64 p0.imm], .agg #[.int .i64 p1.role, .int .i64 p1.what, .bool p1.volatile, .bool p1.final]] V.H v V'.H ∧ V.le V' ∧ (v = .bool r ∧ Ow V' (Rs)) := by
 refine Ct.of gl.lo Tryd.func25 Z (nr Z) ?_
 unfold image_fits at h
 refine WP.usreg Z ?_
 refine O.box ow Z Z (.inl Z) Z (L 0 Z Z) (by simp [topV]) Z nd (fun b1 V2 le3 ow4 => ?_)
 refine O.box ow4 Z Z (.inl Z) Z (L 2 Z Z) (by simp [topV]) Z nd (fun b6 V7 le8 ow9 => ?_)
 refine U.p Z Z (.inl Z) (S.assign Z K) ?_
 refine U.done (nr Z) ?_
 refine WP.seq ?_
 refine WP.usreg Z ?_
 refine U.p (v := .pointer (some ⟨b1, 0, none⟩)) Z Z (.inl Z) (S.fieldAddr Z (L 2 Z Z) Tryd.underlying50 Z ti3 Z Z) ?_
 refine U.k Z Z (.inl Z) (S.load Z (L 0 Z Z) Tryd.underlying3 Z ((ow9.own (k := 1) Z).cell Z)) nd ?_
 refine U.done (nr Z) ?_
 refine WP.blk ?_
 refine WP.usreg Z ?_
 refine U.p Z Z (.inl Z) (S.eqlI Z (L 0 Z Z) K) ?_
 refine U.p Z Z (.inl Z) (S.assign Z (L 0 Z Z)) ?_
 refine U.done (nr Z) ?_
 refine WP.cond _ (L 0 Z Z) Z (fun c11 => ?_) (fun c11 => ?_)
 ·have h12 := ifT c11 h
  refine WP.usreg Z ?_
  refine U.p (v := .pointer (some ⟨b6, 0, none⟩)) Z Z (.inl Z) (S.fieldAddr Z (L 5 Z Z) Tryd.underlying42 Z ti3 Z Z) ?_
  refine U.k Z Z (.inl Z) (S.load Z (L 0 Z Z) Tryd.underlying3 Z ((ow9.own (k := 0) Z).cell Z)) nd ?_
  refine U.p Z Z (.inl Z) (S.eqlI Z (L 0 Z Z) K) ?_
  refine U.p Z Z (.inl Z) (S.move Z (L 0 Z Z)) ?_
  refine U.joinX 8 (fun e H => ∃ (u13 u14 u15 : Value), H = V7.H ∧ e = [(16, .bool ((decide (p1.role = 1)) || (decide (p1.role = 2)))), (15, u13), (14, u14), (13, u15)]) ?_ ?_
  ·rintro _ _ ⟨u13, u14, u15, rfl, rfl⟩
   refine U.p Z Z (.inl Z) (S.move Z (L 0 Z Z)) ?_
   refine U.joinX 13 (fun e H => ∃ (u19 u20 u21 : Value), H = V7.H ∧ e = [(21, .bool (((decide (p1.role = 1)) || (decide (p1.role = 2))) || (decide (p1.role = 5)))), (20, u19), (19, u20), (18, u21)]) ?_ ?_
   ·rintro _ _ ⟨u19, u20, u21, rfl, rfl⟩
    refine U.p Z Z (.inl Z) (S.assign Z (L 0 Z Z)) ?_
    refine U.done (nr Z) ?_
    refine WP.ret ?_
    refine blkR (sqR ?_)
    refine fin.slot (.inr Z) Z (L 0 Z Z) ⟨V7, Z, (le3.trans le8), ?_⟩
    have ow25 := ow9.drop 0 Z
    have ow26 := ow25.drop 0 Z
    have e27 := Option.some.inj h12
    subst e27
    exact ⟨rfl, ow26⟩
   ·intro kk
    refine bcase (b := (decide (p1.role = 1)) || (decide (p1.role = 2))) (fun g28 => ?_) (fun g28 => ?_)
    ·skip
     refine U.x Z Z Z Z ((L 0 Z Z).trans (cB g28)) (by decide) ?_
     refine U.x Z Z Z Z ((L 1 Z Z).trans (cB g28)) (by decide) ?_
     refine U.x Z Z Z Z ((L 2 Z Z).trans (cB g28)) (by decide) ?_
     refine U.p Z Z (.inl Z) (S.pickT Z ((L 3 Z Z).trans (cB g28)) K) ?_
     exact kk [(21, .bool true), (20, .tuple #[]), (19, .tuple #[]), (18, .tuple #[])] _ ⟨.tuple #[], .tuple #[], .tuple #[], Z, (by rw [g28, Bool.true_or])⟩
    ·skip
     refine U.p (v := .pointer (some ⟨b6, 0, none⟩)) Z Z (.inr ⟨_, _, _, Z, Z, ((L 0 Z Z).trans (cB g28))⟩) (S.fieldAddr Z (L 14 Z Z) Tryd.underlying42 Z ti3 Z Z) ?_
     refine U.k Z Z (.inr ⟨_, _, _, Z, Z, ((L 1 Z Z).trans (cB g28))⟩) (S.load Z (L 0 Z Z) Tryd.underlying3 Z ((ow9.own (k := 0) Z).cell Z)) nd ?_
     refine U.p Z Z (.inr ⟨_, _, _, Z, Z, ((L 2 Z Z).trans (cB g28))⟩) (S.eqlI Z (L 0 Z Z) K) ?_
     refine U.p Z Z (.inl Z) (S.pickF Z ((L 3 Z Z).trans (cB g28)) (L 0 Z Z)) ?_
     exact kk [(21, .bool (decide (p1.role = 5))), (20, .bool (decide (p1.role = 5))), (19, .int .i64 p1.role), (18, .pointer (some ⟨b6, 0, none⟩))] _ ⟨.bool (decide (p1.role = 5)), .int .i64 p1.role, .pointer (some ⟨b6, 0, none⟩), Z, (by rw [g28, Bool.false_or])⟩
  ·intro kk
   refine bcase (b := decide (p1.role = 1)) (fun g29 => ?_) (fun g29 => ?_)
   ·skip
    refine U.x Z Z Z Z ((L 0 Z Z).trans (cB g29)) (by decide) ?_
    refine U.x Z Z Z Z ((L 1 Z Z).trans (cB g29)) (by decide) ?_
    refine U.x Z Z Z Z ((L 2 Z Z).trans (cB g29)) (by decide) ?_
    refine U.p Z Z (.inl Z) (S.pickT Z ((L 3 Z Z).trans (cB g29)) K) ?_
    exact kk [(16, .bool true), (15, .tuple #[]), (14, .tuple #[]), (13, .tuple #[])] _ ⟨.tuple #[], .tuple #[], .tuple #[], Z, (by rw [g29, Bool.true_or])⟩
   ·skip
    refine U.p (v := .pointer (some ⟨b6, 0, none⟩)) Z Z (.inr ⟨_, _, _, Z, Z, ((L 0 Z Z).trans (cB g29))⟩) (S.fieldAddr Z (L 9 Z Z) Tryd.underlying42 Z ti3 Z Z) ?_
    refine U.k Z Z (.inr ⟨_, _, _, Z, Z, ((L 1 Z Z).trans (cB g29))⟩) (S.load Z (L 0 Z Z) Tryd.underlying3 Z ((ow9.own (k := 0) Z).cell Z)) nd ?_
    refine U.p Z Z (.inr ⟨_, _, _, Z, Z, ((L 2 Z Z).trans (cB g29))⟩) (S.eqlI Z (L 0 Z Z) K) ?_
    refine U.p Z Z (.inl Z) (S.pickF Z ((L 3 Z Z).trans (cB g29)) (L 0 Z Z)) ?_
    exact kk [(16, .bool (decide (p1.role = 2))), (15, .bool (decide (p1.role = 2))), (14, .int .i64 p1.role), (13, .pointer (some ⟨b6, 0, none⟩))] _ ⟨.bool (decide (p1.role = 2)), .int .i64 p1.role, .pointer (some ⟨b6, 0, none⟩), Z, (by rw [g29, Bool.false_or])⟩
 ·have h30 := ifF c11 h
  refine WP.usreg Z ?_
  refine U.p Z Z (.inl Z) (S.eqlI Z (L 2 Z Z) K) ?_
  refine U.p Z Z (.inl Z) (S.assign Z (L 0 Z Z)) ?_
  refine U.done (nr Z) ?_
  refine WP.cond _ (L 0 Z Z) Z (fun c31 => ?_) (fun c31 => ?_)
  ·have h32 := ifT c31 h30
   refine WP.usreg Z ?_
   refine U.p (v := .pointer (some ⟨b6, 0, none⟩)) Z Z (.inl Z) (S.fieldAddr Z (L 7 Z Z) Tryd.underlying42 Z ti3 Z Z) ?_
   refine U.k Z Z (.inl Z) (S.load Z (L 0 Z Z) Tryd.underlying3 Z ((ow9.own (k := 0) Z).cell Z)) nd ?_
   refine U.p Z Z (.inl Z) (S.eqlI Z (L 0 Z Z) K) ?_
   refine U.p Z Z (.inl Z) (S.move Z (L 0 Z Z)) ?_
   refine U.joinX 8 (fun e H => ∃ (u33 u34 u35 : Value), H = V7.H ∧ e = [(31, .bool ((decide (p1.role = 1)) || (decide (p1.role = 2)))), (30, u33), (29, u34), (28, u35)]) ?_ ?_
   ·rintro _ _ ⟨u33, u34, u35, rfl, rfl⟩
    refine U.p Z Z (.inl Z) (S.move Z (L 0 Z Z)) ?_
    refine U.joinX 13 (fun e H => ∃ (u39 u40 u41 : Value), H = V7.H ∧ e = [(36, .bool (((decide (p1.role = 1)) || (decide (p1.role = 2))) || (decide (p1.role = 6)))), (35, u39), (34, u40), (33, u41)]) ?_ ?_
    ·rintro _ _ ⟨u39, u40, u41, rfl, rfl⟩
     refine U.p Z Z (.inl Z) (S.assign Z (L 0 Z Z)) ?_
     refine U.done (nr Z) ?_
     refine WP.ret ?_
     refine blkR (sqR ?_)
     refine fin.slot (.inr Z) Z (L 0 Z Z) ⟨V7, Z, (le3.trans le8), ?_⟩
     have ow45 := ow9.drop 0 Z
     have ow46 := ow45.drop 0 Z
     have e47 := Option.some.inj h32
     subst e47
     exact ⟨rfl, ow46⟩
    ·intro kk
     refine bcase (b := (decide (p1.role = 1)) || (decide (p1.role = 2))) (fun g48 => ?_) (fun g48 => ?_)
     ·skip
      refine U.x Z Z Z Z ((L 0 Z Z).trans (cB g48)) (by decide) ?_
      refine U.x Z Z Z Z ((L 1 Z Z).trans (cB g48)) (by decide) ?_
      refine U.x Z Z Z Z ((L 2 Z Z).trans (cB g48)) (by decide) ?_
      refine U.p Z Z (.inl Z) (S.pickT Z ((L 3 Z Z).trans (cB g48)) K) ?_
      exact kk [(36, .bool true), (35, .tuple #[]), (34, .tuple #[]), (33, .tuple #[])] _ ⟨.tuple #[], .tuple #[], .tuple #[], Z, (by rw [g48, Bool.true_or])⟩
     ·skip
      refine U.p (v := .pointer (some ⟨b6, 0, none⟩)) Z Z (.inr ⟨_, _, _, Z, Z, ((L 0 Z Z).trans (cB g48))⟩) (S.fieldAddr Z (L 16 Z Z) Tryd.underlying42 Z ti3 Z Z) ?_
      refine U.k Z Z (.inr ⟨_, _, _, Z, Z, ((L 1 Z Z).trans (cB g48))⟩) (S.load Z (L 0 Z Z) Tryd.underlying3 Z ((ow9.own (k := 0) Z).cell Z)) nd ?_
      refine U.p Z Z (.inr ⟨_, _, _, Z, Z, ((L 2 Z Z).trans (cB g48))⟩) (S.eqlI Z (L 0 Z Z) K) ?_
      refine U.p Z Z (.inl Z) (S.pickF Z ((L 3 Z Z).trans (cB g48)) (L 0 Z Z)) ?_
      exact kk [(36, .bool (decide (p1.role = 6))), (35, .bool (decide (p1.role = 6))), (34, .int .i64 p1.role), (33, .pointer (some ⟨b6, 0, none⟩))] _ ⟨.bool (decide (p1.role = 6)), .int .i64 p1.role, .pointer (some ⟨b6, 0, none⟩), Z, (by rw [g48, Bool.false_or])⟩
   ·intro kk
    refine bcase (b := decide (p1.role = 1)) (fun g49 => ?_) (fun g49 => ?_)
    ·skip
     refine U.x Z Z Z Z ((L 0 Z Z).trans (cB g49)) (by decide) ?_
     refine U.x Z Z Z Z ((L 1 Z Z).trans (cB g49)) (by decide) ?_
     refine U.x Z Z Z Z ((L 2 Z Z).trans (cB g49)) (by decide) ?_
     refine U.p Z Z (.inl Z) (S.pickT Z ((L 3 Z Z).trans (cB g49)) K) ?_
     exact kk [(31, .bool true), (30, .tuple #[]), (29, .tuple #[]), (28, .tuple #[])] _ ⟨.tuple #[], .tuple #[], .tuple #[], Z, (by rw [g49, Bool.true_or])⟩
    ·skip
     refine U.p (v := .pointer (some ⟨b6, 0, none⟩)) Z Z (.inr ⟨_, _, _, Z, Z, ((L 0 Z Z).trans (cB g49))⟩) (S.fieldAddr Z (L 11 Z Z) Tryd.underlying42 Z ti3 Z Z) ?_
     refine U.k Z Z (.inr ⟨_, _, _, Z, Z, ((L 1 Z Z).trans (cB g49))⟩) (S.load Z (L 0 Z Z) Tryd.underlying3 Z ((ow9.own (k := 0) Z).cell Z)) nd ?_
     refine U.p Z Z (.inr ⟨_, _, _, Z, Z, ((L 2 Z Z).trans (cB g49))⟩) (S.eqlI Z (L 0 Z Z) K) ?_
     refine U.p Z Z (.inl Z) (S.pickF Z ((L 3 Z Z).trans (cB g49)) (L 0 Z Z)) ?_
     exact kk [(31, .bool (decide (p1.role = 2))), (30, .bool (decide (p1.role = 2))), (29, .int .i64 p1.role), (28, .pointer (some ⟨b6, 0, none⟩))] _ ⟨.bool (decide (p1.role = 2)), .int .i64 p1.role, .pointer (some ⟨b6, 0, none⟩), Z, (by rw [g49, Bool.false_or])⟩
  ·have h50 := ifF c31 h30
   refine WP.usreg Z ?_
   refine U.p Z Z (.inl Z) (S.eqlI Z (L 4 Z Z) K) ?_
   refine U.p Z Z (.inl Z) (S.assign Z (L 0 Z Z)) ?_
   refine U.done (nr Z) ?_
   refine WP.cond _ (L 0 Z Z) Z (fun c51 => ?_) (fun c51 => ?_)
   ·have h52 := ifT c51 h50
    refine WP.usreg Z ?_
    refine U.p (v := .pointer (some ⟨b6, 0, none⟩)) Z Z (.inl Z) (S.fieldAddr Z (L 9 Z Z) Tryd.underlying42 Z ti3 Z Z) ?_
    refine U.k Z Z (.inl Z) (S.load Z (L 0 Z Z) Tryd.underlying3 Z ((ow9.own (k := 0) Z).cell Z)) nd ?_
    refine U.p Z Z (.inl Z) (S.eqlI Z (L 0 Z Z) K) ?_
    refine U.p Z Z (.inl Z) (S.assign Z (L 0 Z Z)) ?_
    refine U.done (nr Z) ?_
    refine WP.ret ?_
    refine blkR (sqR ?_)
    refine fin.slot (.inr Z) Z (L 0 Z Z) ⟨V7, Z, (le3.trans le8), ?_⟩
    have ow53 := ow9.drop 0 Z
    have ow54 := ow53.drop 0 Z
    have e55 := Option.some.inj h52
    subst e55
    exact ⟨rfl, ow54⟩
   ·have h56 := ifF c51 h50
    refine WP.usreg Z ?_
    refine U.p Z Z (.inl Z) (S.eqlI Z (L 6 Z Z) K) ?_
    refine U.p Z Z (.inl Z) (S.assign Z (L 0 Z Z)) ?_
    refine U.done (nr Z) ?_
    refine WP.cond _ (L 0 Z Z) Z (fun c57 => ?_) (fun c57 => ?_)
    ·have h58 := ifT c57 h56
     refine WP.usreg Z ?_
     refine U.p (v := .pointer (some ⟨b6, 0, none⟩)) Z Z (.inl Z) (S.fieldAddr Z (L 11 Z Z) Tryd.underlying42 Z ti3 Z Z) ?_
     refine U.k Z Z (.inl Z) (S.load Z (L 0 Z Z) Tryd.underlying3 Z ((ow9.own (k := 0) Z).cell Z)) nd ?_
     refine U.p Z Z (.inl Z) (S.eqlI Z (L 0 Z Z) K) ?_
     refine U.p Z Z (.inl Z) (S.assign Z (L 0 Z Z)) ?_
     refine U.done (nr Z) ?_
     refine WP.ret ?_
     refine blkR (sqR ?_)
     refine fin.slot (.inr Z) Z (L 0 Z Z) ⟨V7, Z, (le3.trans le8), ?_⟩
     have ow59 := ow9.drop 0 Z
     have ow60 := ow59.drop 0 Z
     have e61 := Option.some.inj h58
     subst e61
     exact ⟨rfl, ow60⟩
    ·have h62 := ifF c57 h56
     refine WP.skip ?_
     refine blkN (sqN ?_)
     refine WP.usreg Z ?_
     refine U.p (v := .pointer (some ⟨b6, 0, none⟩)) Z Z (.inl Z) (S.fieldAddr Z (L 11 Z Z) Tryd.underlying42 Z ti3 Z Z) ?_
     refine U.k Z Z (.inl Z) (S.load Z (L 0 Z Z) Tryd.underlying3 Z ((ow9.own (k := 0) Z).cell Z)) nd ?_
     refine U.p Z Z (.inl Z) (S.eqlI Z (L 0 Z Z) K) ?_
     refine U.p Z Z (.inl Z) (S.assign Z (L 0 Z Z)) ?_
     refine U.done (nr Z) ?_
     refine WP.ret ?_
     refine fin.slot (.inr Z) Z (L 0 Z Z) ⟨V7, Z, (le3.trans le8), ?_⟩
     have ow63 := ow9.drop 0 Z
     have ow64 := ow63.drop 0 Z
     have e65 := Option.some.inj h62
     subst e65
     exact ⟨rfl, ow64⟩
theorem wk_image_Good (V : Vw) (Rs : List At) (gl : Glb V) (p0 : TImage) (v1 : Value) (v3 : Value) (v5 : Value) (f2 : Fz (RT.int .u32) V v1 p0.code) (f4 : Fz RT_TNote V v3 p0.notes) (f6 : Fz (RT.int .i64) V v5 p0.threads) (ow : Ow V (Rs)) (r : Bool) (h : image_Good p0 = some r) : ∃ v V', Cl Tryd.prog NG 13 #[.agg #[v1, v3, v5]] V.H v V'.H ∧ V.le V' ∧ (v = .bool r ∧ Ow V' (Rs)) := by
 refine Ct.of gl.lo Tryd.func13 Z (nr Z) ?_
 unfold image_Good at h
 refine WP.usreg Z ?_
 refine O.box ow Z Z (.inl Z) Z (L 0 Z Z) (by simp [topV]) Z nd (fun b7 V8 le9 ow10 => ?_)
 refine U.p Z Z (.inl Z) (S.assign Z K) ?_
 refine U.done (nr Z) ?_
 refine WP.seq ?_
 refine WP.usreg Z ?_
 refine U.p (v := .pointer (some ⟨b7, 0, none⟩)) Z Z (.inl Z) (S.fieldAddr Z (L 1 Z Z) Tryd.underlying27 Z ti23 Z Z) ?_
 refine U.k Z Z (.inl Z) (S.load Z (L 0 Z Z) Tryd.underlying23 Z ((ow10.own (k := 0) Z).cell Z)) nd ?_
 refine U.p Z Z (.inl Z) (f2.1.len Z (L 0 Z Z) Tryd.underlying23) ?_
 refine U.p Z Z (.inl Z) (S.eqlI Z (L 0 Z Z) K) ?_
 refine U.p Z Z (.inl Z) (S.move Z (L 0 Z Z)) ?_
 refine U.joinX 10 (fun e H => ∃ (u12 u13 u14 u15 : Value), H = V8.H ∧ e = [(19, .bool ((decide ((p0.code.length : Int) = 0)) || (decide (8000 < (p0.code.length : Int))))), (18, u12), (17, u13), (16, u14), (15, u15)]) ?_ ?_
 ·rintro _ _ ⟨u12, u13, u14, u15, rfl, rfl⟩
  refine U.p Z Z (.inl Z) (S.move Z (L 0 Z Z)) ?_
  refine U.joinX 19 (fun e H => ∃ (u19 u20 u21 u22 u23 u24 u25 : Value), H = V8.H ∧ e = [(28, .bool (((decide ((p0.code.length : Int) = 0)) || (decide (8000 < (p0.code.length : Int)))) || (decide ((p0.notes.length : Int) ≠ (p0.code.length : Int))))), (27, u19), (26, u20), (25, u21), (24, u22), (23, u23), (22, u24), (21, u25)]) ?_ ?_
  ·rintro _ _ ⟨u19, u20, u21, u22, u23, u24, u25, rfl, rfl⟩
   refine U.p Z Z (.inl Z) (S.move Z (L 0 Z Z)) ?_
   refine U.joinX 25 (fun e H => ∃ (u29 u30 u31 u32 : Value), H = V8.H ∧ e = [(34, .bool ((((decide ((p0.code.length : Int) = 0)) || (decide (8000 < (p0.code.length : Int)))) || (decide ((p0.notes.length : Int) ≠ (p0.code.length : Int)))) || (decide (8 < (p0.threads.length : Int))))), (33, u29), (32, u30), (31, u31), (30, u32)]) ?_ ?_
   ·rintro _ _ ⟨u29, u30, u31, u32, rfl, rfl⟩
    refine U.done (nr Z) ?_
    refine WP.cond _ (L 0 Z Z) Z (fun c36 => ?_) (fun c36 => ?_)
    ·have h37 := ifT c36 h
     refine WP.usreg Z ?_
     refine U.p Z Z (.inl Z) (S.assign Z K) ?_
     refine U.done (nr Z) ?_
     refine WP.ret ?_
     refine sqR ?_
     refine fin.slot (.inr Z) Z (L 0 Z Z) ⟨V8, Z, le9, ?_⟩
     have ow38 := ow10.drop 0 Z
     have e39 := Option.some.inj h37
     subst e39
     exact ⟨rfl, ow38⟩
    ·have h40 := ifF c36 h
     refine WP.skip ?_
     refine sqN ?_
     refine WP.seq ?_
     refine WP.usreg Z ?_
     refine U.p (v := .pointer (some ⟨b7, 0, none⟩)) Z Z (.inl Z) (S.fieldAddr Z (L 26 Z Z) Tryd.underlying27 Z ti23 Z Z) ?_
     refine U.k Z Z (.inl Z) (S.load Z (L 0 Z Z) Tryd.underlying23 Z ((ow10.own (k := 0) Z).cell Z)) nd ?_
     refine U.p Z Z (.inl Z) (f2.1.len Z (L 0 Z Z) Tryd.underlying23) ?_
     refine U.p Z Z (.inl Z) (S.move Z K) ?_
     refine U.done (nr Z) ?_
     refine WP.blk ?_
     unfold image_Good_l1 at h40
     obtain ⟨n43, hn42⟩ := loopO_some.1 h40
     refine WP.loopI2 (fun n l V' => ∃ (x41 : Int), l = [(1, .pointer (some ⟨b7, 0, none⟩)), (36, v1), (37, .int .i64 (p0.code.length : Int)), (38, .int .i64 x41)] ∧ V8.le V' ∧ Ow V' (.pt b7 (.cells 0 [v1, v3, v5]) :: Rs) ∧ itO (fun s => image_Good_l1b p0 s) n x41 = some r) n43 _ ⟨0, Z, .refl _, ow10, hn42⟩ (allCons (L 30 Z Z) (allCons (L 2 Z Z) (allCons (L 1 Z Z) (allCons (L 0 Z Z) allNil)))) ?_
     rintro _ _ V44 ⟨x41, rfl, le45, ow46, h50⟩
     obtain ⟨m47, q48, rfl, h51, e49⟩ := itS h50
     replace h51 : image_Good_l1b p0 x41 = some q48 := h51
     unfold image_Good_l1b at h51
     refine WP.usreg Z ?_
     refine U.p Z Z (.inl Z) (S.lss Z (L 3 Z Z) (L 2 Z Z)) ?_
     refine U.done (nr Z) ?_
     refine WP.seq ?_
     refine WP.cond _ (L 0 Z Z) Z (fun c52 => ?_) (fun c52 => ?_)
     ·have h53 := ifT c52 h51
      refine WP.skip ?_
      refine sqN ?_
      refine WP.seq ?_
      refine WP.blk ?_
      refine WP.usreg Z ?_
      refine U.p Z Z (.inl Z) (S.move Z (L 4 Z Z)) ?_
      obtain ⟨x54, hx55, h56⟩ := bindS h53
      obtain ⟨b57, o58, c59, cs60, hv61, hf62, hr63, hc64⟩ := f2.at hx55
      obtain rfl : cs60 = [.int .u32 x54] := hr63
      refine U.p Z Z (.inl Z) (S.index Z ((L 3 Z Z).trans hv61) (L 5 Z Z) Tryd.underlying23 ti39 (ix_ge hx55) (ix_lt hx55)) ?_
      refine U.k Z Z (.inl Z) (S.load Z (L 0 Z Z) Tryd.underlying39 Z ((le9.trans le45).cell hf62 (hc64 0 _ Z))) nd ?_
      refine U.p Z Z (.inl Z) (S.assign Z (L 2 Z Z)) ?_
      refine U.p Z Z (.inl Z) (S.assign Z (L 1 Z Z)) ?_
      refine U.done (nr Z) ?_
      refine WP.usreg Z ?_
      refine U.p Z Z (.inl Z) (S.move Z (L 0 Z Z)) ?_
      obtain ⟨x65, hx66, h67⟩ := bindS h56
      refine O.call (V := V44) Z Z (.inl Z) Z en23 (aC (L 0 Z Z) aN) (wk_isa_Decode V44 _ (gl.up (le9.trans le45)) x54 ow46 _ hx66) (fun _ _ _ _ => nd) (fun v68 V69 le70 hp71 => ?_)
      obtain ⟨rfl, ow72⟩ := hp71
      refine U.p Z Z (.inl Z) (S.move Z (L 0 Z Z)) ?_
      refine U.p Z Z (.inl Z) (S.extract Z (L 0 Z Z) Z (nr Z)) ?_
      refine U.p Z Z (.inl Z) (S.extract Z (L 1 Z Z) Z (nr Z)) ?_
      refine O.alloc ow72 Z Z (.inl Z) Z ti50 Z Z nd (fun b73 V74 le75 ow76 => ?_)
      refine O.store (k := 0) (cs := [.int .i64 x65.1.op, .int .i64 x65.1.d, .int .i64 x65.1.a, .int .i64 x65.1.b, .int .i64 x65.1.imm]) (c' := [.int .i64 x65.1.op, .int .i64 x65.1.d, .int .i64 x65.1.a, .int .i64 x65.1.b, .int .i64 x65.1.imm]) ow76 Z Z Z (.inl Z) Z (L 0 Z Z) (L 2 Z Z) ti50 (by simp [topV]) Z Z (nr Z) Z Z nd (fun V78 le79 ow80 => ?_)
      refine U.p Z Z (.inl Z) (S.assign Z (L 1 Z Z)) ?_
      refine U.done (nr Z) ?_
      refine WP.seq ?_
      refine WP.seqI (fun l V' => ∃ (x81 : Bool), l = [(1, .pointer (some ⟨b7, 0, none⟩)), (3, .int .i64 x41), (5, .pointer (some ⟨b73, 0, none⟩)), (36, v1), (37, .int .i64 (p0.code.length : Int)), (38, .int .i64 x41), (68, .bool x81)] ∧ V78.le V' ∧ Ow V' (.pt b7 (.cells 0 [v1, v3, v5]) :: .pt b73 (.cells 5 [.int .i64 x65.1.op, .int .i64 x65.1.d, .int .i64 x65.1.a, .int .i64 x65.1.b, .int .i64 x65.1.imm]) :: Rs) ∧ image_Good_k1 p0 x41 x65 x81 = some q48) ?_ ?_
      ·rintro _ V82 ⟨x81, rfl, le83, ow84, h85⟩
       unfold image_Good_k1 at h85
       refine WP.cond _ (L 6 Z Z) Z (fun c86 => ?_) (fun c86 => ?_)
       ·have h87 := ifT c86 h85
        refine WP.usreg Z ?_
        refine U.p Z Z (.inl Z) (S.assign Z K) ?_
        refine U.done (nr Z) ?_
        refine WP.ret ?_
        refine sqR (blkR (sqR (sqR (blkR (sqR ?_)))))
        have h88 := exitS h87 e49
        refine fin.slot (.inr Z) Z (L 0 Z Z) ⟨V82, Z, (((((le9.trans le45).trans le70).trans le75).trans le79).trans le83), ?_⟩
        have ow89 := ow84.drop 0 Z
        have ow90 := ow89.drop 0 Z
        have e91 := Option.some.inj h88
        subst e91
        exact ⟨rfl, ow90⟩
       ·have h92 := ifF c86 h85
        refine WP.skip ?_
        refine sqN ?_
        refine WP.usreg Z ?_
        refine U.p Z Z (.inl Z) (S.move Z (L 1 Z Z)) ?_
        refine U.p (v := .pointer (some ⟨b73, 4, none⟩)) Z Z (.inl Z) (S.fieldAddr Z (L 3 Z Z) Tryd.underlying50 Z ti3 Z Z) ?_
        refine U.k Z Z (.inl Z) (S.load Z (L 0 Z Z) Tryd.underlying3 Z ((ow84.own (k := 1) Z).cell Z)) nd ?_
        refine U.p Z Z (.inl Z) (S.add Z (L 2 Z Z) (L 0 Z Z)) ?_
        refine U.p Z Z (.inl Z) (S.assign Z (L 0 Z Z)) ?_
        refine U.done (nr Z) ?_
        refine WP.usreg Z ?_
        refine U.p (v := .pointer (some ⟨b73, 0, none⟩)) Z Z (.inl Z) (S.fieldAddr Z (L 7 Z Z) Tryd.underlying50 Z ti3 Z Z) ?_
        refine U.k Z Z (.inl Z) (S.load Z (L 0 Z Z) Tryd.underlying3 Z ((ow84.own (k := 1) Z).cell Z)) nd ?_
        refine U.p Z Z (.inl Z) (S.eqlI Z (L 0 Z Z) K) ?_
        refine U.p Z Z (.inl Z) (S.move Z (L 0 Z Z)) ?_
        refine U.joinX 8 (fun e H => ∃ (u93 u94 u95 : Value), H = V82.H ∧ e = [(80, .bool ((decide (x65.1.op = 11)) || (decide (x65.1.op = 12)))), (79, u93), (78, u94), (77, u95)]) ?_ ?_
        ·rintro _ _ ⟨u93, u94, u95, rfl, rfl⟩
         refine U.p Z Z (.inl Z) (S.move Z (L 0 Z Z)) ?_
         refine U.joinX 13 (fun e H => ∃ (u99 u100 u101 : Value), H = V82.H ∧ e = [(85, .bool (((decide (x65.1.op = 11)) || (decide (x65.1.op = 12))) || (decide (x65.1.op = 10)))), (84, u99), (83, u100), (82, u101)]) ?_ ?_
         ·rintro _ _ ⟨u99, u100, u101, rfl, rfl⟩
          refine U.p Z Z (.inl Z) (S.move Z (L 0 Z Z)) ?_
          refine U.joinX 24 (fun e H => ∃ (u105 u106 u107 u108 u109 u110 u111 u112 u113 : Value), H = V82.H ∧ e = [(96, .bool ((((decide (x65.1.op = 11)) || (decide (x65.1.op = 12))) || (decide (x65.1.op = 10))) && ((decide ((w64 (x41 + x65.1.imm)) < 0)) || (decide ((p0.code.length : Int) ≤ (w64 (x41 + x65.1.imm))))))), (95, u105), (94, u106), (93, u107), (92, u108), (91, u109), (90, u110), (89, u111), (88, u112), (87, u113)]) ?_ ?_
          ·rintro _ _ ⟨u105, u106, u107, u108, u109, u110, u111, u112, u113, rfl, rfl⟩
           refine U.done (nr Z) ?_
           refine WP.cond _ (L 0 Z Z) Z (fun c117 => ?_) (fun c117 => ?_)
           ·have h118 := ifT c117 h92
            refine WP.usreg Z ?_
            refine U.p Z Z (.inl Z) (S.assign Z K) ?_
            refine U.done (nr Z) ?_
            refine WP.ret ?_
            refine blkR (sqR (sqR (blkR (sqR ?_))))
            have h119 := exitS h118 e49
            refine fin.slot (.inr Z) Z (L 0 Z Z) ⟨V82, Z, (((((le9.trans le45).trans le70).trans le75).trans le79).trans le83), ?_⟩
            have ow120 := ow84.drop 0 Z
            have ow121 := ow120.drop 0 Z
            have e122 := Option.some.inj h119
            subst e122
            exact ⟨rfl, ow121⟩
           ·have h123 := ifF c117 h92
            refine WP.skip ?_
            refine blkN (sqN ?_)
            refine WP.ureg Z ?_
            refine U.p Z Z (.inl Z) (S.add Z (L 34 Z Z) K) ?_
            refine U.p Z Z (.inl Z) (S.move Z (L 0 Z Z)) ?_
            refine U.done (nr Z) ?_
            refine sqN ?_
            have ow124 := ow84.drop 1 Z
            exact ⟨_, V82, Z, ⟨m47, Nat.lt_succ_self _, w64 (x41 + 1), Z, ((((le45.trans le70).trans le75).trans le79).trans le83), ow124, backS h123 e49⟩, (allCons (L 31 Z Z) (allCons (L 34 Z Z) (allCons (L 35 Z Z) (allCons (L 0 Z Z) allNil))))⟩
          ·intro kk
           refine bcase (b := ((decide (x65.1.op = 11)) || (decide (x65.1.op = 12))) || (decide (x65.1.op = 10))) (fun g125 => ?_) (fun g125 => ?_)
           ·skip
            refine U.p Z Z (.inr ⟨_, _, _, Z, Z, ((L 0 Z Z).trans (cB g125))⟩) (S.move Z (L 14 Z Z)) ?_
            refine U.p Z Z (.inr ⟨_, _, _, Z, Z, ((L 1 Z Z).trans (cB g125))⟩) (S.lss Z (L 0 Z Z) K) ?_
            refine U.p Z Z (.inr ⟨_, _, _, Z, Z, ((L 2 Z Z).trans (cB g125))⟩) (S.move Z (L 0 Z Z)) ?_
            refine U.joinX 23 (fun e H => ∃ (u126 u127 u128 u129 u130 : Value), H = V82.H ∧ e = [(95, .bool ((decide ((w64 (x41 + x65.1.imm)) < 0)) || (decide ((p0.code.length : Int) ≤ (w64 (x41 + x65.1.imm)))))), (94, u126), (93, u127), (92, u128), (91, u129), (90, u130)]) ?_ ?_
            ·rintro _ _ ⟨u126, u127, u128, u129, u130, rfl, rfl⟩
             refine U.p Z Z (.inl Z) (S.pickT Z ((L 9 Z Z).trans (cB g125)) (L 0 Z Z)) ?_
             exact kk [(96, .bool ((decide ((w64 (x41 + x65.1.imm)) < 0)) || (decide ((p0.code.length : Int) ≤ (w64 (x41 + x65.1.imm)))))), (95, .bool ((decide ((w64 (x41 + x65.1.imm)) < 0)) || (decide ((p0.code.length : Int) ≤ (w64 (x41 + x65.1.imm)))))), (94, u126), (93, u127), (92, u128), (91, u129), (90, u130), (89, .bool (decide ((w64 (x41 + x65.1.imm)) < 0))), (88, .bool (decide ((w64 (x41 + x65.1.imm)) < 0))), (87, .int .i64 (w64 (x41 + x65.1.imm)))] _ ⟨.bool ((decide ((w64 (x41 + x65.1.imm)) < 0)) || (decide ((p0.code.length : Int) ≤ (w64 (x41 + x65.1.imm))))), u126, u127, u128, u129, u130, .bool (decide ((w64 (x41 + x65.1.imm)) < 0)), .bool (decide ((w64 (x41 + x65.1.imm)) < 0)), .int .i64 (w64 (x41 + x65.1.imm)), Z, (by rw [g125, Bool.true_and])⟩
            ·intro kk
             refine bcase (b := decide ((w64 (x41 + x65.1.imm)) < 0)) (fun g134 => ?_) (fun g134 => ?_)
             ·skip
              refine U.x Z Z Z Z ((L 0 Z Z).trans (cB g134)) (by decide) ?_
              refine U.x Z Z Z Z ((L 1 Z Z).trans (cB g134)) (by decide) ?_
              refine U.x Z Z Z Z ((L 2 Z Z).trans (cB g134)) (by decide) ?_
              refine U.x Z Z Z Z ((L 3 Z Z).trans (cB g134)) (by decide) ?_
              refine U.x Z Z Z Z ((L 4 Z Z).trans (cB g134)) (by decide) ?_
              refine U.p Z Z (.inr ⟨_, _, _, Z, Z, ((L 8 Z Z).trans (cB g125))⟩) (S.pickT Z ((L 5 Z Z).trans (cB g134)) K) ?_
              exact kk [(95, .bool true), (94, .tuple #[]), (93, .tuple #[]), (92, .tuple #[]), (91, .tuple #[]), (90, .tuple #[])] _ ⟨.tuple #[], .tuple #[], .tuple #[], .tuple #[], .tuple #[], Z, (by rw [g134, Bool.true_or])⟩
             ·skip
              refine U.p Z Z (.inr ⟨_, _, _, Z, Z, ((L 0 Z Z).trans (cB g134))⟩) (S.move Z (L 17 Z Z)) ?_
              refine U.p (v := .pointer (some ⟨b7, 0, none⟩)) Z Z (.inr ⟨_, _, _, Z, Z, ((L 1 Z Z).trans (cB g134))⟩) (S.fieldAddr Z (L 23 Z Z) Tryd.underlying27 Z ti23 Z Z) ?_
              refine U.k Z Z (.inr ⟨_, _, _, Z, Z, ((L 2 Z Z).trans (cB g134))⟩) (S.load Z (L 0 Z Z) Tryd.underlying23 Z ((ow84.own (k := 0) Z).cell Z)) nd ?_
              refine U.p Z Z (.inr ⟨_, _, _, Z, Z, ((L 3 Z Z).trans (cB g134))⟩) (f2.1.len Z (L 0 Z Z) Tryd.underlying23) ?_
              refine U.p Z Z (.inr ⟨_, _, _, Z, Z, ((L 4 Z Z).trans (cB g134))⟩) (S.geq Z (L 3 Z Z) (L 0 Z Z)) ?_
              refine U.p Z Z (.inr ⟨_, _, _, Z, Z, ((L 8 Z Z).trans (cB g125))⟩) (S.pickF Z ((L 5 Z Z).trans (cB g134)) (L 0 Z Z)) ?_
              exact kk [(95, .bool (decide ((p0.code.length : Int) ≤ (w64 (x41 + x65.1.imm))))), (94, .bool (decide ((p0.code.length : Int) ≤ (w64 (x41 + x65.1.imm))))), (93, .int .i64 (p0.code.length : Int)), (92, v1), (91, .pointer (some ⟨b7, 0, none⟩)), (90, .int .i64 (w64 (x41 + x65.1.imm)))] _ ⟨.bool (decide ((p0.code.length : Int) ≤ (w64 (x41 + x65.1.imm)))), .int .i64 (p0.code.length : Int), v1, .pointer (some ⟨b7, 0, none⟩), .int .i64 (w64 (x41 + x65.1.imm)), Z, (by rw [g134, Bool.false_or])⟩
           ·skip
            refine U.x Z Z Z Z ((L 0 Z Z).trans (cB g125)) (by decide) ?_
            refine U.x Z Z Z Z ((L 1 Z Z).trans (cB g125)) (by decide) ?_
            refine U.x Z Z Z Z ((L 2 Z Z).trans (cB g125)) (by decide) ?_
            refine U.z Z Z Z Z (L 0 Z Z) ?_
            refine U.z Z Z Z Z (L 1 Z Z) ?_
            refine U.z Z Z Z Z (L 2 Z Z) ?_
            refine U.z Z Z Z Z (L 3 Z Z) ?_
            refine U.z Z Z Z Z (L 4 Z Z) ?_
            refine U.x Z Z Z Z ((L 8 Z Z).trans (cB g125)) (by decide) ?_
            refine U.p Z Z (.inl Z) (S.pickF Z ((L 9 Z Z).trans (cB g125)) K) ?_
            exact kk [(96, .bool false), (95, .tuple #[]), (94, .tuple #[]), (93, .tuple #[]), (92, .tuple #[]), (91, .tuple #[]), (90, .tuple #[]), (89, .tuple #[]), (88, .tuple #[]), (87, .tuple #[])] _ ⟨.tuple #[], .tuple #[], .tuple #[], .tuple #[], .tuple #[], .tuple #[], .tuple #[], .tuple #[], .tuple #[], Z, (by rw [g125, Bool.false_and])⟩
         ·intro kk
          refine bcase (b := (decide (x65.1.op = 11)) || (decide (x65.1.op = 12))) (fun g135 => ?_) (fun g135 => ?_)
          ·skip
           refine U.x Z Z Z Z ((L 0 Z Z).trans (cB g135)) (by decide) ?_
           refine U.x Z Z Z Z ((L 1 Z Z).trans (cB g135)) (by decide) ?_
           refine U.x Z Z Z Z ((L 2 Z Z).trans (cB g135)) (by decide) ?_
           refine U.p Z Z (.inl Z) (S.pickT Z ((L 3 Z Z).trans (cB g135)) K) ?_
           exact kk [(85, .bool true), (84, .tuple #[]), (83, .tuple #[]), (82, .tuple #[])] _ ⟨.tuple #[], .tuple #[], .tuple #[], Z, (by rw [g135, Bool.true_or])⟩
          ·skip
           refine U.p (v := .pointer (some ⟨b73, 0, none⟩)) Z Z (.inr ⟨_, _, _, Z, Z, ((L 0 Z Z).trans (cB g135))⟩) (S.fieldAddr Z (L 16 Z Z) Tryd.underlying50 Z ti3 Z Z) ?_
           refine U.k Z Z (.inr ⟨_, _, _, Z, Z, ((L 1 Z Z).trans (cB g135))⟩) (S.load Z (L 0 Z Z) Tryd.underlying3 Z ((ow84.own (k := 1) Z).cell Z)) nd ?_
           refine U.p Z Z (.inr ⟨_, _, _, Z, Z, ((L 2 Z Z).trans (cB g135))⟩) (S.eqlI Z (L 0 Z Z) K) ?_
           refine U.p Z Z (.inl Z) (S.pickF Z ((L 3 Z Z).trans (cB g135)) (L 0 Z Z)) ?_
           exact kk [(85, .bool (decide (x65.1.op = 10))), (84, .bool (decide (x65.1.op = 10))), (83, .int .i64 x65.1.op), (82, .pointer (some ⟨b73, 0, none⟩))] _ ⟨.bool (decide (x65.1.op = 10)), .int .i64 x65.1.op, .pointer (some ⟨b73, 0, none⟩), Z, (by rw [g135, Bool.false_or])⟩
        ·intro kk
         refine bcase (b := decide (x65.1.op = 11)) (fun g136 => ?_) (fun g136 => ?_)
         ·skip
          refine U.x Z Z Z Z ((L 0 Z Z).trans (cB g136)) (by decide) ?_
          refine U.x Z Z Z Z ((L 1 Z Z).trans (cB g136)) (by decide) ?_
          refine U.x Z Z Z Z ((L 2 Z Z).trans (cB g136)) (by decide) ?_
          refine U.p Z Z (.inl Z) (S.pickT Z ((L 3 Z Z).trans (cB g136)) K) ?_
          exact kk [(80, .bool true), (79, .tuple #[]), (78, .tuple #[]), (77, .tuple #[])] _ ⟨.tuple #[], .tuple #[], .tuple #[], Z, (by rw [g136, Bool.true_or])⟩
         ·skip
          refine U.p (v := .pointer (some ⟨b73, 0, none⟩)) Z Z (.inr ⟨_, _, _, Z, Z, ((L 0 Z Z).trans (cB g136))⟩) (S.fieldAddr Z (L 11 Z Z) Tryd.underlying50 Z ti3 Z Z) ?_
          refine U.k Z Z (.inr ⟨_, _, _, Z, Z, ((L 1 Z Z).trans (cB g136))⟩) (S.load Z (L 0 Z Z) Tryd.underlying3 Z ((ow84.own (k := 1) Z).cell Z)) nd ?_
          refine U.p Z Z (.inr ⟨_, _, _, Z, Z, ((L 2 Z Z).trans (cB g136))⟩) (S.eqlI Z (L 0 Z Z) K) ?_
          refine U.p Z Z (.inl Z) (S.pickF Z ((L 3 Z Z).trans (cB g136)) (L 0 Z Z)) ?_
          exact kk [(80, .bool (decide (x65.1.op = 12))), (79, .bool (decide (x65.1.op = 12))), (78, .int .i64 x65.1.op), (77, .pointer (some ⟨b73, 0, none⟩))] _ ⟨.bool (decide (x65.1.op = 12)), .int .i64 x65.1.op, .pointer (some ⟨b73, 0, none⟩), Z, (by rw [g136, Bool.false_or])⟩
      ·skip
       refine WP.udreg Z Z Z ?_
       refine U.p Z Z (.inl Z) (S.move Z (L 0 Z Z)) ?_
       refine U.p Z Z (.inl Z) (S.neqI Z (L 0 Z Z) K) ?_
       refine U.p Z Z (.inl Z) (S.move Z (L 0 Z Z)) ?_
       refine bcase (b := decide (x65.2 ≠ 0)) (fun g137 => ?_) (fun g137 => ?_)
       ·have h138 := ifT g137 h67
        refine U.x Z Z Z Z ((L 0 Z Z).trans (cB g137)) (by decide) ?_
        refine U.x Z Z Z Z ((L 1 Z Z).trans (cB g137)) (by decide) ?_
        refine U.x Z Z Z Z ((L 2 Z Z).trans (cB g137)) (by decide) ?_
        refine U.x Z Z Z Z ((L 3 Z Z).trans (cB g137)) (by decide) ?_
        refine U.x Z Z Z Z ((L 4 Z Z).trans (cB g137)) (by decide) ?_
        refine U.x Z Z Z Z ((L 5 Z Z).trans (cB g137)) (by decide) ?_
        refine U.x Z Z Z Z ((L 6 Z Z).trans (cB g137)) (by decide) ?_
        refine U.p Z Z (.inl Z) (S.pickT Z ((L 7 Z Z).trans (cB g137)) K) ?_
        refine U.p Z Z (.inl Z) (S.move Z (L 0 Z Z)) ?_
        refine U.x Z Z Z Z (L 0 Z Z) (by decide) ?_
        refine U.x Z Z Z Z (L 1 Z Z) (by decide) ?_
        refine U.x Z Z Z Z (L 2 Z Z) (by decide) ?_
        refine U.x Z Z Z Z (L 3 Z Z) (by decide) ?_
        refine U.x Z Z Z Z (L 4 Z Z) (by decide) ?_
        refine U.x Z Z Z Z (L 5 Z Z) (by decide) ?_
        refine U.x Z Z Z Z (L 6 Z Z) (by decide) ?_
        refine U.x Z Z Z Z (L 7 Z Z) (by decide) ?_
        refine U.p Z Z (.inl Z) (S.pickT Z (L 8 Z Z) K) ?_
        refine U.done (nr Z) ?_
        refine sqN ?_
        have ow139 := ow80.pick 0 Z
        have ow140 := ow139.pick 1 Z
        exact ⟨_, V78, Z, ⟨true, Z, (.refl _), ow140, h138⟩, (allCons (L 34 Z Z) (allCons (L 29 Z Z) (allCons (L 22 Z Z) (allCons (L 35 Z Z) (allCons (L 36 Z Z) (allCons (L 37 Z Z) (allCons (L 0 Z Z) allNil)))))))⟩
       ·have h141 := ifF g137 h67
        refine U.p (v := .pointer (some ⟨b7, 1, none⟩)) Z Z (.inr ⟨_, _, _, Z, Z, ((L 0 Z Z).trans (cB g137))⟩) (S.fieldAddr Z (L 16 Z Z) Tryd.underlying27 Z ti24 Z Z) ?_
        refine U.k Z Z (.inr ⟨_, _, _, Z, Z, ((L 1 Z Z).trans (cB g137))⟩) (S.load Z (L 0 Z Z) Tryd.underlying24 Z ((ow80.own (k := 1) Z).cell Z)) (fun _ => (okH.nil (fun r h => by cases h; exact (ow80.own (k := 1) Z).lt))) ?_
        refine U.p Z Z (.inr ⟨_, _, _, Z, Z, ((L 2 Z Z).trans (cB g137))⟩) (S.move Z (L 13 Z Z)) ?_
        obtain ⟨x142, hx143, h144⟩ := bindS h141
        obtain ⟨b145, o146, c147, cs148, hv149, hf150, hr151, hc152⟩ := f4.at hx143
        obtain rfl : cs148 = [.int .i64 x142.role, .int .i64 x142.what, .bool x142.volatile, .bool x142.final] := hr151
        refine U.p Z Z (.inr ⟨_, _, _, Z, Z, ((L 3 Z Z).trans (cB g137))⟩) (S.index Z ((L 1 Z Z).trans hv149) (L 0 Z Z) Tryd.underlying24 ti42 (ix_ge hx143) (ix_lt hx143)) ?_
        refine U.k Z Z (.inr ⟨_, _, _, Z, Z, ((L 4 Z Z).trans (cB g137))⟩) (S.loadN (cs := [.int .i64 x142.role, .int .i64 x142.what, .bool x142.volatile, .bool x142.final]) Z (L 0 Z Z) Tryd.underlying42 Z ti42 Z (fun j v hj => ((((le9.trans le45).trans le70).trans le75).trans le79).cell hf150 (hc152 j v hj))) (fun _ => (okH.cons trivial (okH.nil (fun r h => by cases h; exact (V78.wf _ (((((le9.trans le45).trans le70).trans le75).trans le79).sub _ hf150)))))) ?_
        obtain ⟨x153, hx154, h155⟩ := bindS h144
        refine O.call (V := V78) Z Z (.inr ⟨_, _, _, Z, Z, ((L 5 Z Z).trans (cB g137))⟩) Z en24 (aC (L 0 Z Z) aN) (wk_image_good V78 _ (gl.up ((((le9.trans le45).trans le70).trans le75).trans le79)) x142 ow80 _ hx154) (fun v156 V157 le158 hp159 => by obtain ⟨rfl, ow160⟩ := hp159; exact (fun _ => (okH.cons (Or.inl Z) (okH.cons (Or.inl Z) (okH.nil (fun r h => nomatch h)))))) (fun v156 V157 le158 hp159 => ?_)
        obtain ⟨rfl, ow160⟩ := hp159
        refine U.p Z Z (.inr ⟨_, _, _, Z, Z, ((L 6 Z Z).trans (cB g137))⟩) (S.not Z (L 0 Z Z)) ?_
        refine U.p Z Z (.inl Z) (S.pickF Z ((L 7 Z Z).trans (cB g137)) (L 0 Z Z)) ?_
        refine U.p Z Z (.inl Z) (S.move Z (L 0 Z Z)) ?_
        refine bcase (b := !x153) (fun g161 => ?_) (fun g161 => ?_)
        ·have h162 := ifT g161 h155
         have k163 : x153 = false := nT g161
         refine U.x Z Z Z Z ((L 0 Z Z).trans (cB g161)) (by decide) ?_
         refine U.x Z Z Z Z ((L 1 Z Z).trans (cB g161)) (by decide) ?_
         refine U.x Z Z Z Z ((L 2 Z Z).trans (cB g161)) (by decide) ?_
         refine U.x Z Z Z Z ((L 3 Z Z).trans (cB g161)) (by decide) ?_
         refine U.x Z Z Z Z ((L 4 Z Z).trans (cB g161)) (by decide) ?_
         refine U.x Z Z Z Z ((L 5 Z Z).trans (cB g161)) (by decide) ?_
         refine U.x Z Z Z Z ((L 6 Z Z).trans (cB g161)) (by decide) ?_
         refine U.x Z Z Z Z ((L 7 Z Z).trans (cB g161)) (by decide) ?_
         refine U.p Z Z (.inl Z) (S.pickT Z ((L 8 Z Z).trans (cB g161)) K) ?_
         refine U.done (nr Z) ?_
         refine sqN ?_
         have ow164 := ow160.pick 0 Z
         have ow165 := ow164.pick 1 Z
         exact ⟨_, V157, Z, ⟨true, Z, le158, ow165, h162⟩, (allCons (L 34 Z Z) (allCons (L 29 Z Z) (allCons (L 22 Z Z) (allCons (L 35 Z Z) (allCons (L 36 Z Z) (allCons (L 37 Z Z) (allCons (L 0 Z Z) allNil)))))))⟩
        ·have h166 := ifF g161 h155
         have k167 : x153 = true := nF g161
         refine U.k Z Z (.inr ⟨_, _, _, Z, Z, ((L 0 Z Z).trans (cB g161))⟩) (S.loadB Z (L 13 Z Z) Tryd.underlying50 Z ti50 (ow160.own (k := 0) Z).get Z) (fun _ => (okH.cons (Or.inl Z) (okH.cons trivial (okH.cons trivial (okH.nil (fun r h => by cases h; exact (ow160.own (k := 0) Z).lt)))))) ?_
         refine U.p (v := .pointer (some ⟨b7, 1, none⟩)) Z Z (.inr ⟨_, _, _, Z, Z, ((L 1 Z Z).trans (cB g161))⟩) (S.fieldAddr Z (L 26 Z Z) Tryd.underlying27 Z ti24 Z Z) ?_
         refine U.k Z Z (.inr ⟨_, _, _, Z, Z, ((L 2 Z Z).trans (cB g161))⟩) (S.load Z (L 0 Z Z) Tryd.underlying24 Z ((ow160.own (k := 1) Z).cell Z)) (fun _ => (okH.cons trivial (okH.cons (Or.inl Z) (okH.cons trivial (okH.cons trivial (okH.nil (fun r h => by cases h; exact (ow160.own (k := 1) Z).lt))))))) ?_
         refine U.p Z Z (.inr ⟨_, _, _, Z, Z, ((L 3 Z Z).trans (cB g161))⟩) (S.move Z (L 23 Z Z)) ?_
         obtain ⟨x168, hx169, h170⟩ := bindS h166
         obtain ⟨b171, o172, c173, cs174, hv175, hf176, hr177, hc178⟩ := f4.at hx169
         obtain rfl : cs174 = [.int .i64 x168.role, .int .i64 x168.what, .bool x168.volatile, .bool x168.final] := hr177
         refine U.p Z Z (.inr ⟨_, _, _, Z, Z, ((L 4 Z Z).trans (cB g161))⟩) (S.index Z ((L 1 Z Z).trans hv175) (L 0 Z Z) Tryd.underlying24 ti42 (ix_ge hx169) (ix_lt hx169)) ?_
         refine U.k Z Z (.inr ⟨_, _, _, Z, Z, ((L 5 Z Z).trans (cB g161))⟩) (S.loadN (cs := [.int .i64 x168.role, .int .i64 x168.what, .bool x168.volatile, .bool x168.final]) Z (L 0 Z Z) Tryd.underlying42 Z ti42 Z (fun j v hj => (((((le9.trans le45).trans le70).trans le75).trans le79).trans le158).cell hf176 (hc178 j v hj))) (fun _ => (okH.cons trivial (okH.cons trivial (okH.cons (Or.inl Z) (okH.cons trivial (okH.cons trivial (okH.nil (fun r h => by cases h; exact (V157.wf _ ((((((le9.trans le45).trans le70).trans le75).trans le79).trans le158).sub _ hf176)))))))))) ?_
         obtain ⟨x179, hx180, h181⟩ := bindS h170
         refine O.call (V := V157) Z Z (.inr ⟨_, _, _, Z, Z, ((L 6 Z Z).trans (cB g161))⟩) Z en25 (aC (L 5 Z Z) (aC (L 0 Z Z) aN)) (wk_image_fits V157 _ (gl.up (((((le9.trans le45).trans le70).trans le75).trans le79).trans le158)) x65.1 x168 ow160 _ hx180) (fun v182 V183 le184 hp185 => by obtain ⟨rfl, ow186⟩ := hp185; exact (fun _ => (okH.cons (Or.inl Z) (okH.cons (Or.inl Z) (okH.cons (Or.inl Z) (okH.cons Z (okH.cons (Or.inl Z) (okH.cons (Or.inl Z) (okH.nil (fun r h => nomatch h)))))))))) (fun v182 V183 le184 hp185 => ?_)
         obtain ⟨rfl, ow186⟩ := hp185
         refine U.p Z Z (.inr ⟨_, _, _, Z, Z, ((L 7 Z Z).trans (cB g161))⟩) (S.not Z (L 0 Z Z)) ?_
         refine U.p Z Z (.inl Z) (S.pickF Z ((L 8 Z Z).trans (cB g161)) (L 0 Z Z)) ?_
         refine U.done (nr Z) ?_
         refine sqN ?_
         have ow187 := ow186.pick 0 Z
         have ow188 := ow187.pick 1 Z
         exact ⟨_, V183, Z, ⟨!x179, Z, (le158.trans le184), ow188, h181⟩, (allCons (L 34 Z Z) (allCons (L 29 Z Z) (allCons (L 22 Z Z) (allCons (L 35 Z Z) (allCons (L 36 Z Z) (allCons (L 37 Z Z) (allCons (L 0 Z Z) allNil)))))))⟩
     ·have h189 := ifF c52 h51
      refine WP.exit ?_
      refine sqE (sqE (blkE (sqN ?_)))
      have h190 := exitS h189 e49
      refine WP.seq ?_
      refine WP.usreg Z ?_
      refine U.p (v := .pointer (some ⟨b7, 2, none⟩)) Z Z (.inl Z) (S.fieldAddr Z (L 1 Z Z) Tryd.underlying27 Z ti25 Z Z) ?_
      refine U.k Z Z (.inl Z) (S.load Z (L 0 Z Z) Tryd.underlying25 Z ((ow46.own (k := 0) Z).cell Z)) nd ?_
      refine U.p Z Z (.inl Z) (f6.1.len Z (L 0 Z Z) Tryd.underlying25) ?_
      refine U.p Z Z (.inl Z) (S.move Z K) ?_
      refine U.done (nr Z) ?_
      refine WP.blk ?_
      unfold image_Good_l2 at h190
      obtain ⟨n193, hn192⟩ := loopO_some.1 h190
      refine WP.loopI2 (fun n l V' => ∃ (x191 : Int), l = [(1, .pointer (some ⟨b7, 0, none⟩)), (99, v5), (100, .int .i64 (p0.threads.length : Int)), (101, .int .i64 x191)] ∧ V44.le V' ∧ Ow V' (.pt b7 (.cells 0 [v1, v3, v5]) :: Rs) ∧ itO (fun s => image_Good_l2b p0 s) n x191 = some r) n193 _ ⟨0, Z, .refl _, ow46, hn192⟩ (allCons (L 5 Z Z) (allCons (L 2 Z Z) (allCons (L 1 Z Z) (allCons (L 0 Z Z) allNil)))) ?_
      rintro _ _ V194 ⟨x191, rfl, le195, ow196, h200⟩
      obtain ⟨m197, q198, rfl, h201, e199⟩ := itS h200
      replace h201 : image_Good_l2b p0 x191 = some q198 := h201
      unfold image_Good_l2b at h201
      refine WP.usreg Z ?_
      refine U.p Z Z (.inl Z) (S.lss Z (L 3 Z Z) (L 2 Z Z)) ?_
      refine U.done (nr Z) ?_
      refine WP.seq ?_
      refine WP.cond _ (L 0 Z Z) Z (fun c202 => ?_) (fun c202 => ?_)
      ·have h203 := ifT c202 h201
       refine WP.skip ?_
       refine sqN ?_
       refine WP.seq ?_
       refine WP.blk ?_
       refine WP.usreg Z ?_
       obtain ⟨x204, hx205, h206⟩ := bindS h203
       obtain ⟨b207, o208, c209, cs210, hv211, hf212, hr213, hc214⟩ := f6.at hx205
       obtain rfl : cs210 = [.int .i64 x204] := hr213
       refine U.p Z Z (.inl Z) (S.index Z ((L 2 Z Z).trans hv211) (L 4 Z Z) Tryd.underlying25 ti3 (ix_ge hx205) (ix_lt hx205)) ?_
       refine U.k Z Z (.inl Z) (S.load Z (L 0 Z Z) Tryd.underlying3 Z (((le9.trans le45).trans le195).cell hf212 (hc214 0 _ Z))) nd ?_
       refine U.p Z Z (.inl Z) (S.assign Z (L 0 Z Z)) ?_
       refine U.done (nr Z) ?_
       refine WP.usreg Z ?_
       refine U.p Z Z (.inl Z) (S.move Z (L 0 Z Z)) ?_
       refine U.p Z Z (.inl Z) (S.lss Z (L 0 Z Z) K) ?_
       refine U.p Z Z (.inl Z) (S.move Z (L 0 Z Z)) ?_
       refine U.joinX 9 (fun e H => ∃ (u215 u216 u217 u218 u219 : Value), H = V194.H ∧ e = [(113, .bool ((decide (x204 < 0)) || (decide ((p0.code.length : Int) ≤ x204)))), (112, u215), (111, u216), (110, u217), (109, u218), (108, u219)]) ?_ ?_
       ·rintro _ _ ⟨u215, u216, u217, u218, u219, rfl, rfl⟩
        refine U.done (nr Z) ?_
        refine WP.cond _ (L 0 Z Z) Z (fun c223 => ?_) (fun c223 => ?_)
        ·have h224 := ifT c223 h206
         refine WP.usreg Z ?_
         refine U.p Z Z (.inl Z) (S.assign Z K) ?_
         refine U.done (nr Z) ?_
         refine WP.ret ?_
         refine blkR (sqR (sqR (blkR (sqR ?_))))
         have h225 := exitS h224 e199
         refine fin.slot (.inr Z) Z (L 0 Z Z) ⟨V194, Z, ((le9.trans le45).trans le195), ?_⟩
         have ow226 := ow196.drop 0 Z
         have e227 := Option.some.inj h225
         subst e227
         exact ⟨rfl, ow226⟩
        ·have h228 := ifF c223 h206
         refine WP.skip ?_
         refine blkN (sqN ?_)
         refine WP.ureg Z ?_
         refine U.p Z Z (.inl Z) (S.add Z (L 16 Z Z) K) ?_
         refine U.p Z Z (.inl Z) (S.move Z (L 0 Z Z)) ?_
         refine U.done (nr Z) ?_
         refine sqN ?_
         exact ⟨_, V194, Z, ⟨m197, Nat.lt_succ_self _, w64 (x191 + 1), Z, le195, ow196, backS h228 e199⟩, (allCons (L 15 Z Z) (allCons (L 16 Z Z) (allCons (L 17 Z Z) (allCons (L 0 Z Z) allNil))))⟩
       ·intro kk
        refine bcase (b := decide (x204 < 0)) (fun g229 => ?_) (fun g229 => ?_)
        ·skip
         refine U.x Z Z Z Z ((L 0 Z Z).trans (cB g229)) (by decide) ?_
         refine U.x Z Z Z Z ((L 1 Z Z).trans (cB g229)) (by decide) ?_
         refine U.x Z Z Z Z ((L 2 Z Z).trans (cB g229)) (by decide) ?_
         refine U.x Z Z Z Z ((L 3 Z Z).trans (cB g229)) (by decide) ?_
         refine U.x Z Z Z Z ((L 4 Z Z).trans (cB g229)) (by decide) ?_
         refine U.p Z Z (.inl Z) (S.pickT Z ((L 5 Z Z).trans (cB g229)) K) ?_
         exact kk [(113, .bool true), (112, .tuple #[]), (111, .tuple #[]), (110, .tuple #[]), (109, .tuple #[]), (108, .tuple #[])] _ ⟨.tuple #[], .tuple #[], .tuple #[], .tuple #[], .tuple #[], Z, (by rw [g229, Bool.true_or])⟩
        ·skip
         refine U.p Z Z (.inr ⟨_, _, _, Z, Z, ((L 0 Z Z).trans (cB g229))⟩) (S.move Z (L 3 Z Z)) ?_
         refine U.p (v := .pointer (some ⟨b7, 0, none⟩)) Z Z (.inr ⟨_, _, _, Z, Z, ((L 1 Z Z).trans (cB g229))⟩) (S.fieldAddr Z (L 8 Z Z) Tryd.underlying27 Z ti23 Z Z) ?_
         refine U.k Z Z (.inr ⟨_, _, _, Z, Z, ((L 2 Z Z).trans (cB g229))⟩) (S.load Z (L 0 Z Z) Tryd.underlying23 Z ((ow196.own (k := 0) Z).cell Z)) nd ?_
         refine U.p Z Z (.inr ⟨_, _, _, Z, Z, ((L 3 Z Z).trans (cB g229))⟩) (f2.1.len Z (L 0 Z Z) Tryd.underlying23) ?_
         refine U.p Z Z (.inr ⟨_, _, _, Z, Z, ((L 4 Z Z).trans (cB g229))⟩) (S.geq Z (L 3 Z Z) (L 0 Z Z)) ?_
         refine U.p Z Z (.inl Z) (S.pickF Z ((L 5 Z Z).trans (cB g229)) (L 0 Z Z)) ?_
         exact kk [(113, .bool (decide ((p0.code.length : Int) ≤ x204))), (112, .bool (decide ((p0.code.length : Int) ≤ x204))), (111, .int .i64 (p0.code.length : Int)), (110, v1), (109, .pointer (some ⟨b7, 0, none⟩)), (108, .int .i64 x204)] _ ⟨.bool (decide ((p0.code.length : Int) ≤ x204)), .int .i64 (p0.code.length : Int), v1, .pointer (some ⟨b7, 0, none⟩), .int .i64 x204, Z, (by rw [g229, Bool.false_or])⟩
      ·have h230 := ifF c202 h201
       refine WP.exit ?_
       refine sqE (sqE (blkE (sqN ?_)))
       have h231 := exitS h230 e199
       refine WP.usreg Z ?_
       refine U.p Z Z (.inl Z) (S.assign Z K) ?_
       refine U.done (nr Z) ?_
       refine WP.ret ?_
       refine fin.slot (.inr Z) Z (L 0 Z Z) ⟨V194, Z, ((le9.trans le45).trans le195), ?_⟩
       have ow232 := ow196.drop 0 Z
       have e233 := Option.some.inj h231
       subst e233
       exact ⟨rfl, ow232⟩
   ·intro kk
    refine bcase (b := ((decide ((p0.code.length : Int) = 0)) || (decide (8000 < (p0.code.length : Int)))) || (decide ((p0.notes.length : Int) ≠ (p0.code.length : Int)))) (fun g234 => ?_) (fun g234 => ?_)
    ·skip
     refine U.x Z Z Z Z ((L 0 Z Z).trans (cB g234)) (by decide) ?_
     refine U.x Z Z Z Z ((L 1 Z Z).trans (cB g234)) (by decide) ?_
     refine U.x Z Z Z Z ((L 2 Z Z).trans (cB g234)) (by decide) ?_
     refine U.x Z Z Z Z ((L 3 Z Z).trans (cB g234)) (by decide) ?_
     refine U.p Z Z (.inl Z) (S.pickT Z ((L 4 Z Z).trans (cB g234)) K) ?_
     exact kk [(34, .bool true), (33, .tuple #[]), (32, .tuple #[]), (31, .tuple #[]), (30, .tuple #[])] _ ⟨.tuple #[], .tuple #[], .tuple #[], .tuple #[], Z, (by rw [g234, Bool.true_or])⟩
    ·skip
     refine U.p (v := .pointer (some ⟨b7, 2, none⟩)) Z Z (.inr ⟨_, _, _, Z, Z, ((L 0 Z Z).trans (cB g234))⟩) (S.fieldAddr Z (L 21 Z Z) Tryd.underlying27 Z ti25 Z Z) ?_
     refine U.k Z Z (.inr ⟨_, _, _, Z, Z, ((L 1 Z Z).trans (cB g234))⟩) (S.load Z (L 0 Z Z) Tryd.underlying25 Z ((ow10.own (k := 0) Z).cell Z)) nd ?_
     refine U.p Z Z (.inr ⟨_, _, _, Z, Z, ((L 2 Z Z).trans (cB g234))⟩) (f6.1.len Z (L 0 Z Z) Tryd.underlying25) ?_
     refine U.p Z Z (.inr ⟨_, _, _, Z, Z, ((L 3 Z Z).trans (cB g234))⟩) (S.gtr Z (L 0 Z Z) K) ?_
     refine U.p Z Z (.inl Z) (S.pickF Z ((L 4 Z Z).trans (cB g234)) (L 0 Z Z)) ?_
     exact kk [(34, .bool (decide (8 < (p0.threads.length : Int)))), (33, .bool (decide (8 < (p0.threads.length : Int)))), (32, .int .i64 (p0.threads.length : Int)), (31, v5), (30, .pointer (some ⟨b7, 2, none⟩))] _ ⟨.bool (decide (8 < (p0.threads.length : Int))), .int .i64 (p0.threads.length : Int), v5, .pointer (some ⟨b7, 2, none⟩), Z, (by rw [g234, Bool.false_or])⟩
  ·intro kk
   refine bcase (b := (decide ((p0.code.length : Int) = 0)) || (decide (8000 < (p0.code.length : Int)))) (fun g235 => ?_) (fun g235 => ?_)
   ·skip
    refine U.x Z Z Z Z ((L 0 Z Z).trans (cB g235)) (by decide) ?_
    refine U.x Z Z Z Z ((L 1 Z Z).trans (cB g235)) (by decide) ?_
    refine U.x Z Z Z Z ((L 2 Z Z).trans (cB g235)) (by decide) ?_
    refine U.x Z Z Z Z ((L 3 Z Z).trans (cB g235)) (by decide) ?_
    refine U.x Z Z Z Z ((L 4 Z Z).trans (cB g235)) (by decide) ?_
    refine U.x Z Z Z Z ((L 5 Z Z).trans (cB g235)) (by decide) ?_
    refine U.x Z Z Z Z ((L 6 Z Z).trans (cB g235)) (by decide) ?_
    refine U.p Z Z (.inl Z) (S.pickT Z ((L 7 Z Z).trans (cB g235)) K) ?_
    exact kk [(28, .bool true), (27, .tuple #[]), (26, .tuple #[]), (25, .tuple #[]), (24, .tuple #[]), (23, .tuple #[]), (22, .tuple #[]), (21, .tuple #[])] _ ⟨.tuple #[], .tuple #[], .tuple #[], .tuple #[], .tuple #[], .tuple #[], .tuple #[], Z, (by rw [g235, Bool.true_or])⟩
   ·skip
    refine U.p (v := .pointer (some ⟨b7, 1, none⟩)) Z Z (.inr ⟨_, _, _, Z, Z, ((L 0 Z Z).trans (cB g235))⟩) (S.fieldAddr Z (L 12 Z Z) Tryd.underlying27 Z ti24 Z Z) ?_
    refine U.k Z Z (.inr ⟨_, _, _, Z, Z, ((L 1 Z Z).trans (cB g235))⟩) (S.load Z (L 0 Z Z) Tryd.underlying24 Z ((ow10.own (k := 0) Z).cell Z)) nd ?_
    refine U.p Z Z (.inr ⟨_, _, _, Z, Z, ((L 2 Z Z).trans (cB g235))⟩) (f4.1.len Z (L 0 Z Z) Tryd.underlying24) ?_
    refine U.p (v := .pointer (some ⟨b7, 0, none⟩)) Z Z (.inr ⟨_, _, _, Z, Z, ((L 3 Z Z).trans (cB g235))⟩) (S.fieldAddr Z (L 15 Z Z) Tryd.underlying27 Z ti23 Z Z) ?_
    refine U.k Z Z (.inr ⟨_, _, _, Z, Z, ((L 4 Z Z).trans (cB g235))⟩) (S.load Z (L 0 Z Z) Tryd.underlying23 Z ((ow10.own (k := 0) Z).cell Z)) nd ?_
    refine U.p Z Z (.inr ⟨_, _, _, Z, Z, ((L 5 Z Z).trans (cB g235))⟩) (f2.1.len Z (L 0 Z Z) Tryd.underlying23) ?_
    refine U.p Z Z (.inr ⟨_, _, _, Z, Z, ((L 6 Z Z).trans (cB g235))⟩) (S.neqI Z (L 3 Z Z) (L 0 Z Z)) ?_
    refine U.p Z Z (.inl Z) (S.pickF Z ((L 7 Z Z).trans (cB g235)) (L 0 Z Z)) ?_
    exact kk [(28, .bool (decide ((p0.notes.length : Int) ≠ (p0.code.length : Int)))), (27, .bool (decide ((p0.notes.length : Int) ≠ (p0.code.length : Int)))), (26, .int .i64 (p0.code.length : Int)), (25, v1), (24, .pointer (some ⟨b7, 0, none⟩)), (23, .int .i64 (p0.notes.length : Int)), (22, v3), (21, .pointer (some ⟨b7, 1, none⟩))] _ ⟨.bool (decide ((p0.notes.length : Int) ≠ (p0.code.length : Int))), .int .i64 (p0.code.length : Int), v1, .pointer (some ⟨b7, 0, none⟩), .int .i64 (p0.notes.length : Int), v3, .pointer (some ⟨b7, 1, none⟩), Z, (by rw [g235, Bool.false_or])⟩
 ·intro kk
  refine bcase (b := decide ((p0.code.length : Int) = 0)) (fun g236 => ?_) (fun g236 => ?_)
  ·skip
   refine U.x Z Z Z Z ((L 0 Z Z).trans (cB g236)) (by decide) ?_
   refine U.x Z Z Z Z ((L 1 Z Z).trans (cB g236)) (by decide) ?_
   refine U.x Z Z Z Z ((L 2 Z Z).trans (cB g236)) (by decide) ?_
   refine U.x Z Z Z Z ((L 3 Z Z).trans (cB g236)) (by decide) ?_
   refine U.p Z Z (.inl Z) (S.pickT Z ((L 4 Z Z).trans (cB g236)) K) ?_
   exact kk [(19, .bool true), (18, .tuple #[]), (17, .tuple #[]), (16, .tuple #[]), (15, .tuple #[])] _ ⟨.tuple #[], .tuple #[], .tuple #[], .tuple #[], Z, (by rw [g236, Bool.true_or])⟩
  ·skip
   refine U.p (v := .pointer (some ⟨b7, 0, none⟩)) Z Z (.inr ⟨_, _, _, Z, Z, ((L 0 Z Z).trans (cB g236))⟩) (S.fieldAddr Z (L 6 Z Z) Tryd.underlying27 Z ti23 Z Z) ?_
   refine U.k Z Z (.inr ⟨_, _, _, Z, Z, ((L 1 Z Z).trans (cB g236))⟩) (S.load Z (L 0 Z Z) Tryd.underlying23 Z ((ow10.own (k := 0) Z).cell Z)) nd ?_
   refine U.p Z Z (.inr ⟨_, _, _, Z, Z, ((L 2 Z Z).trans (cB g236))⟩) (f2.1.len Z (L 0 Z Z) Tryd.underlying23) ?_
   refine U.p Z Z (.inr ⟨_, _, _, Z, Z, ((L 3 Z Z).trans (cB g236))⟩) (S.gtr Z (L 0 Z Z) K) ?_
   refine U.p Z Z (.inl Z) (S.pickF Z ((L 4 Z Z).trans (cB g236)) (L 0 Z Z)) ?_
   exact kk [(19, .bool (decide (8000 < (p0.code.length : Int)))), (18, .bool (decide (8000 < (p0.code.length : Int)))), (17, .int .i64 (p0.code.length : Int)), (16, v1), (15, .pointer (some ⟨b7, 0, none⟩))] _ ⟨.bool (decide (8000 < (p0.code.length : Int))), .int .i64 (p0.code.length : Int), v1, .pointer (some ⟨b7, 0, none⟩), Z, (by rw [g236, Bool.false_or])⟩
theorem wk_image_Decode (V : Vw) (Rs : List At) (gl : Glb V) (p0 : ByteArray) (ow : Ow V (Rs)) (r : TImage × Int) (h : image_Decode p0 = some r) : ∃ v V', Cl Tryd.prog NG 7 #[.string p0] V.H v V'.H ∧ V.le V' ∧ (∃ (v1 : Value) (v3 : Value) (v5 : Value), v = .tuple #[.agg #[v1, v3, v5], .int .i64 r.2] ∧ Fz (RT.int .u32) V' v1 r.1.code ∧ Fz RT_TNote V' v3 r.1.notes ∧ Fz (RT.int .i64) V' v5 r.1.threads ∧ Ow V' (Rs)) := by
 refine Ct.of gl.lo Tryd.func7 Z (nr Z) ?_
 unfold image_Decode at h
 refine WP.usreg Z ?_
 refine O.alloc ow Z Z (.inl Z) Z ti27 Z Z nd (fun b7 V8 le9 ow10 => ?_)
 refine U.p Z Z (.inl Z) (S.assign Z K) ?_
 refine U.done (nr Z) ?_
 refine WP.seq ?_
 refine WP.usreg Z ?_
 refine U.p Z Z (.inl Z) (S.move Z (L 2 Z Z)) ?_
 refine U.p Z Z (.inl Z) (S.lenStr Z (L 0 Z Z) Tryd.underlying9) ?_
 refine U.p Z Z (.inl Z) (S.lss Z (L 0 Z Z) K) ?_
 refine U.p Z Z (.inl Z) (S.move Z (L 0 Z Z)) ?_
 obtain ⟨y12, hy13, h14⟩ := bindS h
 refine U.joinX 8 (fun e H => ∃ (u15 u16 u17 : Value), H = V8.H ∧ e = [(16, .bool y12), (15, u15), (14, u16), (13, u17)]) ?_ ?_
 ·rintro _ _ ⟨u15, u16, u17, rfl, rfl⟩
  refine U.done (nr Z) ?_
  refine WP.cond _ (L 0 Z Z) Z (fun c21 => ?_) (fun c21 => ?_)
  ·have h22 := ifT c21 h14
   refine WP.usreg Z ?_
   refine U.p (v := .agg #[.slice none 0 0, .slice none 0 0, .slice none 0 0]) Z Z (.inl Z) (S.build (vs := []) Z ti27 Z pl27 aN allN Z) ?_
   refine O.store (k := 0) (cs := [.slice none 0 0, .slice none 0 0, .slice none 0 0]) (c' := [.slice none 0 0, .slice none 0 0, .slice none 0 0]) ow10 Z Z Z (.inl Z) Z (L 10 Z Z) (L 0 Z Z) ti27 (by simp [topV]) Z Z (nr Z) Z Z nd (fun V23 le24 ow25 => ?_)
   refine U.p Z Z (.inl Z) (S.assign Z K) ?_
   refine U.done (nr Z) ?_
   refine WP.ret ?_
   refine sqR ?_
   refine fin.mix (.inr Z) (resA (L 11 Z Z) Tryd.underlying27 Z ti27 (ow25.own (k := 0) Z).get Z (resT (L 0 Z Z) res0)) Z ⟨V23, Z, (le9.trans le24), ?_⟩
   have ow26 := ow25.drop 0 Z
   have e27 := Option.some.inj h22
   subst e27
   exact ⟨(.slice none 0 0), (.slice none 0 0), (.slice none 0 0), Z, Fz.nil, Fz.nil, Fz.nil, ow26⟩
  ·have h28 := ifF c21 h14
   refine WP.skip ?_
   refine sqN ?_
   refine WP.usdreg Z Z Z ?_
   refine U.p Z Z (.inl Z) (S.move Z (L 10 Z Z)) ?_
   obtain ⟨x29, hx30, h31⟩ := bindS h28
   refine U.p Z Z (.inl Z) (S.indexS hx30 Z (L 0 Z Z) K Tryd.underlying9) ?_
   refine U.p Z Z (.inl Z) (S.conv Z (L 0 Z Z) Tryd.underlying5 Tryd.underlying3) ?_
   refine U.p Z Z (.inl Z) (S.move Z (L 13 Z Z)) ?_
   obtain ⟨sx32, hx33, h34⟩ := bindS h31
   refine U.p Z Z (.inl Z) (S.sliceStr hx33 Z (L 0 Z Z) Tryd.underlying9 ⟨.inr ⟨_, _, Z, K⟩, .inl ⟨rfl, Z⟩, .inl Z⟩ Z) ?_
   obtain ⟨x35, hx36, h37⟩ := bindS h34
   refine O.call (V := V8) Z Z (.inl Z) Z en17 (aC (L 0 Z Z) aN) (wk_image_number V8 _ (gl.up le9) sx32 ow10 _ hx36) (fun v38 V39 le40 hp41 => by obtain ⟨rfl, ow42⟩ := hp41; exact (fun _ => (okH.nil (fun r h => nomatch h)))) (fun v38 V39 le40 hp41 => ?_)
   obtain ⟨rfl, ow42⟩ := hp41
   refine U.p Z Z (.inl Z) (S.assign Z (L 3 Z Z)) ?_
   refine U.p Z Z (.inl Z) (S.assign Z (L 1 Z Z)) ?_
   refine U.done (nr Z) ?_
   refine WP.seq ?_
   refine WP.usreg Z ?_
   refine U.p Z Z (.inl Z) (S.move Z (L 0 Z Z)) ?_
   refine U.p Z Z (.inl Z) (S.gtr Z (L 0 Z Z) K) ?_
   refine U.p Z Z (.inl Z) (S.move Z (L 0 Z Z)) ?_
   refine U.joinX 13 (fun e H => ∃ (u43 u44 u45 u46 u47 u48 u49 u50 u51 : Value), H = V39.H ∧ e = [(36, .bool ((decide (8000 < x35)) || (decide ((p0.size : Int) ≠ (w64 ((w64 (9 + (w64 (4 * (w64 x29))))) + (w64 (5 * x35)))))))), (35, u43), (34, u44), (33, u45), (32, u46), (31, u47), (30, u48), (29, u49), (28, u50), (27, u51)]) ?_ ?_
   ·rintro _ _ ⟨u43, u44, u45, u46, u47, u48, u49, u50, u51, rfl, rfl⟩
    refine U.done (nr Z) ?_
    refine WP.cond _ (L 0 Z Z) Z (fun c55 => ?_) (fun c55 => ?_)
    ·have h56 := ifT c55 h37
     refine WP.usreg Z ?_
     refine U.p (v := .agg #[.slice none 0 0, .slice none 0 0, .slice none 0 0]) Z Z (.inl Z) (S.build (vs := []) Z ti27 Z pl27 aN allN Z) ?_
     refine O.store (k := 0) (cs := [.slice none 0 0, .slice none 0 0, .slice none 0 0]) (c' := [.slice none 0 0, .slice none 0 0, .slice none 0 0]) ow42 Z Z Z (.inl Z) Z (L 31 Z Z) (L 0 Z Z) ti27 (by simp [topV]) Z Z (nr Z) Z Z nd (fun V57 le58 ow59 => ?_)
     refine U.p Z Z (.inl Z) (S.assign Z K) ?_
     refine U.done (nr Z) ?_
     refine WP.ret ?_
     refine sqR ?_
     refine fin.mix (.inr Z) (resA (L 32 Z Z) Tryd.underlying27 Z ti27 (ow59.own (k := 0) Z).get Z (resT (L 0 Z Z) res0)) Z ⟨V57, Z, ((le9.trans le40).trans le58), ?_⟩
     have ow60 := ow59.drop 0 Z
     have e61 := Option.some.inj h56
     subst e61
     exact ⟨(.slice none 0 0), (.slice none 0 0), (.slice none 0 0), Z, Fz.nil, Fz.nil, Fz.nil, ow60⟩
    ·have h62 := ifF c55 h37
     refine WP.skip ?_
     refine sqN ?_
     refine WP.usreg Z ?_
     refine O.alloc ow42 Z Z (.inl Z) Z ti27 Z Z nd (fun b63 V64 le65 ow66 => ?_)
     refine U.done (nr Z) ?_
     refine WP.seq ?_
     refine WP.usreg Z ?_
     refine U.p Z Z (.inl Z) (S.move Z (L 32 Z Z)) ?_
     obtain ⟨sx68, hx69, h70⟩ := bindS h62
     refine U.p Z Z (.inl Z) (S.sliceStr hx69 Z (L 0 Z Z) Tryd.underlying9 ⟨.inr ⟨_, _, Z, K⟩, .inl ⟨rfl, Z⟩, .inl Z⟩ Z) ?_
     refine U.p Z Z (.inl Z) (S.assign Z (L 0 Z Z)) ?_
     refine U.done (nr Z) ?_
     refine WP.blk ?_
     have ow76 := ow66.nil (RT.int .i64)
     have ow78 := ow76.pick 0 Z
     have ow79 := ow78.pick 1 Z
     have ow80 := ow79.pick 2 Z
     unfold image_Decode_l1 at h70
     obtain ⟨n82, hn81⟩ := loopO_some.1 h70
     refine WP.loopI2 (fun n l V' => ∃ (x71 : ByteArray) (x72 : Int) (v74 : Value) (xs75 : List Int), l = [(0, .string x71), (2, .pointer (some ⟨b7, 0, none⟩)), (4, .int .i64 x72), (6, .pointer (some ⟨b63, 0, none⟩))] ∧ V64.le V' ∧ Ow V' (.pt b7 (.cells 3 [.slice none 0 0, .slice none 0 0, .slice none 0 0]) :: .pt b63 (.cells 3 [.slice none 0 0, .slice none 0 0, v74]) :: .os (RT.int .i64) v74 xs75 :: Rs) ∧ itO (fun s => image_Decode_l1b s.1 s.2.1 s.2.2) n (x71, x72, xs75) = some r) n82 _ ⟨sx68, w64 x29, (.slice none 0 0), [], Z, .refl _, ow80, hn81⟩ (allCons (L 0 Z Z) (allCons (L 34 Z Z) (allCons (L 18 Z Z) (allCons (L 3 Z Z) allNil)))) ?_
     rintro _ _ V83 ⟨x71, x72, v74, xs75, rfl, le84, ow85, h89⟩
     obtain ⟨m86, q87, rfl, h90, e88⟩ := itS h89
     replace h90 : image_Decode_l1b x71 x72 xs75 = some q87 := h90
     unfold image_Decode_l1b at h90
     refine WP.seq ?_
     refine WP.usreg Z ?_
     refine U.p Z Z (.inl Z) (S.move Z (L 2 Z Z)) ?_
     refine U.p Z Z (.inl Z) (S.gtr Z (L 0 Z Z) K) ?_
     refine U.done (nr Z) ?_
     refine WP.cond _ (L 0 Z Z) Z (fun c91 => ?_) (fun c91 => ?_)
     ·have h92 := ifT c91 h90
      refine WP.skip ?_
      refine sqN ?_
      refine WP.seq ?_
      refine WP.blk ?_
      refine WP.udreg Z Z Z ?_
      refine U.p (v := .pointer (some ⟨b63, 2, none⟩)) Z Z (.inl Z) (S.fieldAddr Z (L 5 Z Z) Tryd.underlying27 Z ti25 Z Z) ?_
      refine U.k Z Z (.inl Z) (S.load Z (L 0 Z Z) Tryd.underlying25 Z ((ow85.own (k := 1) Z).cell Z)) (fun _ => (okH.nil (fun r h => by cases h; exact (ow85.own (k := 1) Z).lt))) ?_
      refine U.p Z Z (.inl Z) (S.move Z (L 4 Z Z)) ?_
      obtain ⟨x93, hx94, h95⟩ := bindS h92
      refine O.call (V := V83) Z Z (.inl Z) Z en17 (aC (L 0 Z Z) aN) (wk_image_number V83 _ (gl.up (((le9.trans le40).trans le65).trans le84)) x71 ow85 _ hx94) (fun v96 V97 le98 hp99 => by obtain ⟨rfl, ow100⟩ := hp99; exact (fun _ => (okH.cons (Or.inr (((ow100.own (k := 1) Z).get.trans (ow85.own (k := 1) Z).get.symm))) (okH.nil (fun r h => nomatch h))))) (fun v96 V97 le98 hp99 => ?_)
      obtain ⟨rfl, ow100⟩ := hp99
      refine O.lit (R := (RT.int .i64)) ow100 Z Z (.inl Z) Z Tryd.underlying25 ti3 Z Z Z (nr Z) Z (aC (L 0 Z Z) aN) (.cons _ _ x93 _ (by simp [topV]) Z .nil) (fun _ => (fun _ => (okH.cons trivial (okH.cons trivial (okH.nil (fun r h => nomatch h)))))) (fun v101 V102 le103 ow104 => ?_)
      obtain ⟨xs106, hx107, h108⟩ := bindS h95
      refine O.append (k := 3) ow104 Z Z Z (.inl Z) Z (L 3 Z Z) (L 0 Z Z) Tryd.underlying25 ti3 Z Z (nr Z) (ow104.src (k := 0) Z Tryd.underlying25) hx107 (fun V1 hs => (fun _ => (okH.cons (Or.inl Z) (okH.cons Z (okH.cons (Or.inl Z) (okH.nil (fun r h => nomatch h))))))) (fun v109 V110 le111 ow112 => ?_)
      refine U.p (v := .pointer (some ⟨b63, 2, none⟩)) Z Z (.inl Z) (S.fieldAddr Z (L 11 Z Z) Tryd.underlying27 Z ti25 Z Z) ?_
      refine O.store (k := 2) (cs := [v109]) (c' := [.slice none 0 0, .slice none 0 0, v109]) ow112 Z Z Z (.inl Z) Z (L 0 Z Z) (L 1 Z Z) ti25 (ow112.osne (k := 3) Z) (by rw [ow112.oscells (k := 3) rfl]) Z (nr Z) (by have q0 := (ow112.osone (k := 3) Z); simp only [List.all_cons, List.all_nil, q0]; rfl) Z (fun _ => (okH.cons Z (okH.cons (Or.inl Z) (okH.cons Z (okH.cons (Or.inl Z) (okH.nil (fun r h => nomatch h))))))) (fun V114 le115 ow116 => ?_)
      refine U.done (nr Z) ?_
      refine blkN (sqN ?_)
      refine WP.udreg Z Z Z ?_
      refine U.p Z Z (.inl Z) (S.move Z (L 11 Z Z)) ?_
      refine U.p Z Z (.inl Z) (S.sub Z (L 0 Z Z) K) ?_
      refine U.p Z Z (.inl Z) (S.move Z (L 11 Z Z)) ?_
      obtain ⟨sx117, hx118, h119⟩ := bindS h108
      refine U.p Z Z (.inl Z) (S.sliceStr hx118 Z (L 0 Z Z) Tryd.underlying9 ⟨.inr ⟨_, _, Z, K⟩, .inl ⟨rfl, Z⟩, .inl Z⟩ Z) ?_
      refine U.p Z Z (.inl Z) (S.assign Z (L 2 Z Z)) ?_
      refine U.p Z Z (.inl Z) (S.assign Z (L 1 Z Z)) ?_
      refine U.done (nr Z) ?_
      refine sqN ?_
      have ow120 := ow116.drop 0 Z
      exact ⟨_, V114, Z, ⟨m86, Nat.lt_succ_self _, sx117, w64 (x72 - 1), v109, xs106, Z, ((((le84.trans le98).trans le103).trans le111).trans le115), ow120, backS h119 e88⟩, (allCons (L 0 Z Z) (allCons (L 16 Z Z) (allCons (L 1 Z Z) (allCons (L 18 Z Z) allNil))))⟩
     ·have h121 := ifF c91 h90
      refine WP.exit ?_
      refine sqE (sqE (blkE (sqN ?_)))
      have h122 := exitS h121 e88
      refine WP.seq ?_
      refine WP.blk ?_
      have ow130 := ow85.nil (RT.int .u32)
      have ow132 := ow130.nil RT_TNote
      have ow134 := ow132.pick 4 Z
      have ow135 := ow134.pick 1 Z
      have ow136 := ow135.pick 2 Z
      have ow137 := ow136.pick 4 Z
      have ow138 := ow137.pick 4 Z
      unfold image_Decode_l2 at h122
      obtain ⟨n140, hn139⟩ := loopO_some.1 h122
      refine WP.loopI2 (fun n l V' => ∃ (x123 : ByteArray) (v125 : Value) (xs126 : List Int) (v128 : Value) (xs129 : List TNote), l = [(0, .string x123), (2, .pointer (some ⟨b7, 0, none⟩)), (6, .pointer (some ⟨b63, 0, none⟩))] ∧ V83.le V' ∧ Ow V' (.pt b7 (.cells 3 [.slice none 0 0, .slice none 0 0, .slice none 0 0]) :: .pt b63 (.cells 3 [v125, v128, v74]) :: .os (RT.int .u32) v125 xs126 :: .os RT_TNote v128 xs129 :: .os (RT.int .i64) v74 xs75 :: Rs) ∧ itO (fun s => image_Decode_l2b xs75 s.1 s.2.1 s.2.2) n (x123, xs126, xs129) = some r) n140 _ ⟨x71, (.slice none 0 0), [], (.slice none 0 0), [], Z, .refl _, ow138, hn139⟩ (allCons (L 2 Z Z) (allCons (L 3 Z Z) (allCons (L 5 Z Z) allNil))) ?_
      rintro _ _ V141 ⟨x123, v125, xs126, v128, xs129, rfl, le142, ow143, h147⟩
      obtain ⟨m144, q145, rfl, h148, e146⟩ := itS h147
      replace h148 : image_Decode_l2b xs75 x123 xs126 xs129 = some q145 := h148
      unfold image_Decode_l2b at h148
      refine WP.seq ?_
      refine WP.usreg Z ?_
      refine U.p Z Z (.inl Z) (S.move Z (L 0 Z Z)) ?_
      refine U.p Z Z (.inl Z) (S.neqS Z (L 0 Z Z) K) ?_
      refine U.done (nr Z) ?_
      refine WP.cond _ (L 0 Z Z) Z (fun c149 => ?_) (fun c149 => ?_)
      ·have h150 := ifT c149 h148
       refine WP.skip ?_
       refine sqN ?_
       refine WP.seq ?_
       refine WP.blk ?_
       refine WP.usreg Z ?_
       refine U.p Z Z (.inl Z) (S.move Z (L 2 Z Z)) ?_
       obtain ⟨x151, hx152, h153⟩ := bindS h150
       refine U.p Z Z (.inl Z) (S.indexS hx152 Z (L 0 Z Z) K Tryd.underlying9) ?_
       obtain ⟨x154, hx155, h156⟩ := bindS h153
       refine O.call (V := V141) Z Z (.inl Z) Z en18 (aC (L 0 Z Z) aN) (wk_image_readNote V141 _ (gl.up ((((le9.trans le40).trans le65).trans le84).trans le142)) x151 ow143 _ hx155) (fun _ _ _ _ => nd) (fun v157 V158 le159 hp160 => ?_)
       obtain ⟨rfl, ow161⟩ := hp160
       refine U.p Z Z (.inl Z) (S.move Z (L 0 Z Z)) ?_
       refine U.p Z Z (.inl Z) (S.extract Z (L 0 Z Z) Z (nr Z)) ?_
       refine U.p Z Z (.inl Z) (S.extract Z (L 1 Z Z) Z (nr Z)) ?_
       refine O.alloc ow161 Z Z (.inl Z) Z ti42 Z Z nd (fun b162 V163 le164 ow165 => ?_)
       refine O.store (k := 0) (cs := [.int .i64 x154.1.role, .int .i64 x154.1.what, .bool x154.1.volatile, .bool x154.1.final]) (c' := [.int .i64 x154.1.role, .int .i64 x154.1.what, .bool x154.1.volatile, .bool x154.1.final]) ow165 Z Z Z (.inl Z) Z (L 0 Z Z) (L 2 Z Z) ti42 (by simp [topV]) Z Z (nr Z) Z Z nd (fun V167 le168 ow169 => ?_)
       refine U.p Z Z (.inl Z) (S.assign Z (L 1 Z Z)) ?_
       refine U.done (nr Z) ?_
       refine WP.seq ?_
       refine WP.usreg Z ?_
       refine U.p Z Z (.inl Z) (S.move Z (L 0 Z Z)) ?_
       refine U.p Z Z (.inl Z) (S.not Z (L 0 Z Z)) ?_
       refine U.done (nr Z) ?_
       refine WP.cond _ (L 0 Z Z) Z (fun c170 => ?_) (fun c170 => ?_)
       ·have h171 := ifT c170 h156
        have k172 : x154.2 = false := nT c170
        refine WP.usreg Z ?_
        refine U.p (v := .agg #[.slice none 0 0, .slice none 0 0, .slice none 0 0]) Z Z (.inl Z) (S.build (vs := []) Z ti27 Z pl27 aN allN Z) ?_
        refine O.store (k := 1) (cs := [.slice none 0 0, .slice none 0 0, .slice none 0 0]) (c' := [.slice none 0 0, .slice none 0 0, .slice none 0 0]) ow169 Z Z Z (.inl Z) Z (L 14 Z Z) (L 0 Z Z) ti27 (by simp [topV]) Z Z (nr Z) Z Z nd (fun V173 le174 ow175 => ?_)
        refine U.p Z Z (.inl Z) (S.assign Z K) ?_
        refine U.done (nr Z) ?_
        refine WP.ret ?_
        refine sqR (blkR (sqR (sqR (blkR (sqR ?_)))))
        have h176 := exitS h171 e146
        refine fin.mix (.inr Z) (resA (L 15 Z Z) Tryd.underlying27 Z ti27 (ow175.own (k := 1) Z).get Z (resT (L 0 Z Z) res0)) Z ⟨V173, Z, ((((((((le9.trans le40).trans le65).trans le84).trans le142).trans le159).trans le164).trans le168).trans le174), ?_⟩
        have ow177 := ow175.drop 0 Z
        have ow178 := ow177.drop 0 Z
        have ow179 := ow178.drop 0 Z
        have ow180 := ow179.drop 0 Z
        have ow181 := ow180.drop 0 Z
        have ow182 := ow181.drop 0 Z
        have e183 := Option.some.inj h176
        subst e183
        exact ⟨(.slice none 0 0), (.slice none 0 0), (.slice none 0 0), Z, Fz.nil, Fz.nil, Fz.nil, ow182⟩
       ·have h184 := ifF c170 h156
        have k185 : x154.2 = true := nF c170
        refine WP.skip ?_
        refine sqN ?_
        refine WP.udreg Z Z Z ?_
        refine U.p (v := .pointer (some ⟨b63, 0, none⟩)) Z Z (.inl Z) (S.fieldAddr Z (L 14 Z Z) Tryd.underlying27 Z ti23 Z Z) ?_
        refine U.k Z Z (.inl Z) (S.load Z (L 0 Z Z) Tryd.underlying23 Z ((ow169.own (k := 2) Z).cell Z)) (fun _ => (okH.nil (fun r h => by cases h; exact (ow169.own (k := 2) Z).lt))) ?_
        refine U.p Z Z (.inl Z) (S.move Z (L 14 Z Z)) ?_
        obtain ⟨x186, hx187, h188⟩ := bindS h184
        refine O.call (V := V167) Z Z (.inl Z) Z en17 (aC (L 0 Z Z) aN) (wk_image_number V167 _ (gl.up (((((((le9.trans le40).trans le65).trans le84).trans le142).trans le159).trans le164).trans le168)) x123 ow169 _ hx187) (fun v189 V190 le191 hp192 => by obtain ⟨rfl, ow193⟩ := hp192; exact (fun _ => (okH.cons (Or.inr (((ow193.own (k := 2) Z).get.trans (ow169.own (k := 2) Z).get.symm))) (okH.nil (fun r h => nomatch h))))) (fun v189 V190 le191 hp192 => ?_)
        obtain ⟨rfl, ow193⟩ := hp192
        refine U.p Z Z (.inl Z) (S.conv Z (L 0 Z Z) Tryd.underlying3 Tryd.underlying39) ?_
        refine O.lit (R := (RT.int .u32)) ow193 Z Z (.inl Z) Z Tryd.underlying23 ti39 Z Z Z (nr Z) Z (aC (L 0 Z Z) aN) (.cons _ _ (IntKind.wrap .u32 x186) _ (by simp [topV]) Z .nil) (fun _ => (fun _ => (okH.cons trivial (okH.cons trivial (okH.nil (fun r h => nomatch h)))))) (fun v194 V195 le196 ow197 => ?_)
        obtain ⟨xs199, hx200, h201⟩ := bindS h188
        refine O.append (k := 4) ow197 Z Z Z (.inl Z) Z (L 4 Z Z) (L 0 Z Z) Tryd.underlying23 ti39 Z Z (nr Z) (ow197.src (k := 0) Z Tryd.underlying23) hx200 (fun V1 hs => (fun _ => (okH.cons (Or.inl Z) (okH.cons Z (okH.cons (Or.inl Z) (okH.nil (fun r h => nomatch h))))))) (fun v202 V203 le204 ow205 => ?_)
        refine U.p (v := .pointer (some ⟨b63, 1, none⟩)) Z Z (.inl Z) (S.fieldAddr Z (L 21 Z Z) Tryd.underlying27 Z ti24 Z Z) ?_
        refine U.k Z Z (.inl Z) (S.load Z (L 0 Z Z) Tryd.underlying24 Z ((ow205.own (k := 3) Z).cell Z)) (fun _ => (okH.cons (Or.inr (Or.inl ((ow205.own (k := 3) Z).get.trans (ow197.own (k := 3) Z).get.symm))) (okH.cons trivial (okH.cons (Or.inr (Or.inl ((ow193.own (k := 2) Z).get.trans (ow169.own (k := 2) Z).get.symm))) (okH.cons trivial (okH.nil (fun r h => by cases h; exact (ow205.own (k := 3) Z).lt))))))) ?_
        refine U.k Z Z (.inl Z) (S.loadB Z (L 12 Z Z) Tryd.underlying42 Z ti42 (ow205.own (k := 1) Z).get Z) (fun _ => (okH.cons trivial (okH.cons (Or.inr (Or.inl ((ow205.own (k := 1) Z).get.trans (ow197.own (k := 1) Z).get.symm))) (okH.cons trivial (okH.cons (Or.inr (Or.inl ((ow193.own (k := 0) Z).get.trans (ow169.own (k := 0) Z).get.symm))) (okH.cons trivial (okH.nil (fun r h => by cases h; exact (ow205.own (k := 1) Z).lt)))))))) ?_
        refine O.lit (R := RT_TNote) ow205 Z Z (.inl Z) Z Tryd.underlying24 ti42 Z Z Z (nr Z) Z (aC (L 0 Z Z) aN) (.cons _ _ x154.1 _ (by simp [topV]) Z .nil) (fun _ => (fun _ => (okH.cons trivial (okH.cons trivial (okH.cons trivial (okH.cons trivial (okH.cons trivial (okH.cons trivial (okH.nil (fun r h => nomatch h)))))))))) (fun v207 V208 le209 ow210 => ?_)
        obtain ⟨xs212, hx213, h214⟩ := bindS h201
        refine O.append (k := 6) ow210 Z Z Z (.inl Z) Z (L 2 Z Z) (L 0 Z Z) Tryd.underlying24 ti42 Z Z (nr Z) (ow210.src (k := 0) Z Tryd.underlying24) hx213 (fun V1 hs => (fun _ => (okH.cons (Or.inl Z) (okH.cons (Or.inl Z) (okH.cons (Or.inl Z) (okH.cons Z (okH.cons (Or.inl Z) (okH.cons Z (okH.cons (Or.inl Z) (okH.nil (fun r h => nomatch h))))))))))) (fun v215 V216 le217 ow218 => ?_)
        refine U.p (v := .pointer (some ⟨b63, 0, none⟩)) Z Z (.inl Z) (S.fieldAddr Z (L 26 Z Z) Tryd.underlying27 Z ti23 Z Z) ?_
        refine O.store (k := 4) (cs := [v202]) (c' := [v202, v128, v74]) ow218 Z Z Z (.inl Z) Z (L 0 Z Z) (L 6 Z Z) ti23 (ow218.osne (k := 5) Z) (by rw [ow218.oscells (k := 5) rfl]) Z (nr Z) (by have q0 := (ow218.osone (k := 5) Z); simp only [List.all_cons, List.all_nil, q0]; rfl) Z (fun _ => (okH.cons Z (okH.cons (Or.inl Z) (okH.cons (Or.inl Z) (okH.cons (Or.inl Z) (okH.cons Z (okH.cons (Or.inl Z) (okH.cons Z (okH.cons (Or.inl Z) (okH.nil (fun r h => nomatch h))))))))))) (fun V220 le221 ow222 => ?_)
        refine U.p (v := .pointer (some ⟨b63, 1, none⟩)) Z Z (.inl Z) (S.fieldAddr Z (L 27 Z Z) Tryd.underlying27 Z ti24 Z Z) ?_
        refine O.store (k := 4) (cs := [v215]) (c' := [v202, v215, v74]) ow222 Z Z Z (.inl Z) Z (L 0 Z Z) (L 2 Z Z) ti24 (ow222.osne (k := 6) Z) (by rw [ow222.oscells (k := 6) rfl]) Z (nr Z) (by have q0 := (ow222.osone (k := 6) Z); simp only [List.all_cons, List.all_nil, q0]; rfl) Z (fun _ => (okH.cons Z (okH.cons Z (okH.cons (Or.inl Z) (okH.cons (Or.inl Z) (okH.cons (Or.inl Z) (okH.cons Z (okH.cons (Or.inl Z) (okH.cons Z (okH.cons (Or.inl Z) (okH.nil (fun r h => nomatch h)))))))))))) (fun V223 le224 ow225 => ?_)
        refine U.done (nr Z) ?_
        refine blkN (sqN ?_)
        refine WP.ureg Z ?_
        refine U.p Z Z (.inl Z) (S.move Z (L 26 Z Z)) ?_
        obtain ⟨sx226, hx227, h228⟩ := bindS h214
        refine U.p Z Z (.inl Z) (S.sliceStr hx227 Z (L 0 Z Z) Tryd.underlying9 ⟨.inr ⟨_, _, Z, K⟩, .inl ⟨rfl, Z⟩, .inl Z⟩ Z) ?_
        refine U.p Z Z (.inl Z) (S.assign Z (L 0 Z Z)) ?_
        refine U.done (nr Z) ?_
        refine sqN ?_
        have ow229 := ow225.drop 0 Z
        have ow230 := ow229.drop 0 Z
        have ow231 := ow230.drop 0 Z
        exact ⟨_, V223, Z, ⟨m144, Nat.lt_succ_self _, sx226, v202, xs199, v215, xs212, Z, ((((((((((le142.trans le159).trans le164).trans le168).trans le191).trans le196).trans le204).trans le209).trans le217).trans le221).trans le224), ow231, backS h228 e146⟩, (allCons (L 0 Z Z) (allCons (L 30 Z Z) (allCons (L 31 Z Z) allNil)))⟩
      ·have h232 := ifF c149 h148
       refine WP.exit ?_
       refine sqE (sqE (blkE (sqN ?_)))
       have h233 := exitS h232 e146
       refine WP.seq ?_
       refine WP.usreg Z ?_
       refine U.k Z Z (.inl Z) (S.loadB Z (L 4 Z Z) Tryd.underlying27 Z ti27 (ow143.own (k := 1) Z).get Z) nd ?_
       obtain ⟨V234, eV238, le235, f236, ow237⟩ := ow143.osfz (k := 2) Z
       rw [← eV238]
       obtain ⟨V240, eV244, le241, f242, ow243⟩ := ow237.osfz (k := 2) Z
       rw [← eV244]
       have f246 := f236.up le241
       obtain ⟨V247, eV251, le248, f249, ow250⟩ := ow243.osfz (k := 2) Z
       rw [← eV251]
       have f253 := f246.up le248
       have f254 := f242.up le248
       obtain ⟨x255, hx256, h257⟩ := bindS h233
       refine O.call (V := V247) Z Z (.inl Z) Z en13 (aC (L 0 Z Z) aN) (wk_image_Good V247 _ (gl.up (((((((le9.trans le40).trans le65).trans le84).trans le142).trans le235).trans le241).trans le248)) (⟨xs126, xs129, xs75⟩ : TImage) v125 v128 v74 f253 f254 f249 ow250 _ hx256) (fun _ _ _ _ => nd) (fun v258 V259 le260 hp261 => ?_)
       obtain ⟨rfl, ow262⟩ := hp261
       refine U.p Z Z (.inl Z) (S.not Z (L 0 Z Z)) ?_
       refine U.done (nr Z) ?_
       refine WP.cond _ (L 0 Z Z) Z (fun c263 => ?_) (fun c263 => ?_)
       ·have h264 := ifT c263 h257
        have k265 : x255 = false := nT c263
        refine WP.usreg Z ?_
        refine U.p (v := .agg #[.slice none 0 0, .slice none 0 0, .slice none 0 0]) Z Z (.inl Z) (S.build (vs := []) Z ti27 Z pl27 aN allN Z) ?_
        refine O.store (k := 0) (cs := [.slice none 0 0, .slice none 0 0, .slice none 0 0]) (c' := [.slice none 0 0, .slice none 0 0, .slice none 0 0]) ow262 Z Z Z (.inl Z) Z (L 7 Z Z) (L 0 Z Z) ti27 (by simp [topV]) Z Z (nr Z) Z Z nd (fun V266 le267 ow268 => ?_)
        refine U.p Z Z (.inl Z) (S.assign Z K) ?_
        refine U.done (nr Z) ?_
        refine WP.ret ?_
        refine sqR ?_
        refine fin.mix (.inr Z) (resA (L 8 Z Z) Tryd.underlying27 Z ti27 (ow268.own (k := 0) Z).get Z (resT (L 0 Z Z) res0)) Z ⟨V266, Z, (((((((((le9.trans le40).trans le65).trans le84).trans le142).trans le235).trans le241).trans le248).trans le260).trans le267), ?_⟩
        have ow269 := ow268.drop 0 Z
        have ow270 := ow269.drop 0 Z
        have e271 := Option.some.inj h264
        subst e271
        exact ⟨(.slice none 0 0), (.slice none 0 0), (.slice none 0 0), Z, Fz.nil, Fz.nil, Fz.nil, ow270⟩
       ·have h272 := ifF c263 h257
        have k273 : x255 = true := nF c263
        refine WP.skip ?_
        refine sqN ?_
        refine WP.usreg Z ?_
        refine U.k Z Z (.inl Z) (S.loadB Z (L 7 Z Z) Tryd.underlying27 Z ti27 (ow262.own (k := 1) Z).get Z) nd ?_
        refine O.store (k := 0) (cs := [v125, v128, v74]) (c' := [v125, v128, v74]) ow262 Z Z Z (.inl Z) Z (L 7 Z Z) (L 0 Z Z) ti27 (by simp [topV]) Z Z (nr Z) (by have q0 := f253.one; have q1 := f254.one; have q2 := f249.one; simp only [List.all_cons, List.all_nil, q0, q1, q2]; rfl) Z nd (fun V274 le275 ow276 => ?_)
        refine U.p Z Z (.inl Z) (S.assign Z K) ?_
        refine U.done (nr Z) ?_
        refine WP.ret ?_
        have f277 := f253.up (le260.trans le275)
        have f278 := f254.up (le260.trans le275)
        have f279 := f249.up (le260.trans le275)
        refine fin.mix (.inr Z) (resA (L 8 Z Z) Tryd.underlying27 Z ti27 (ow276.own (k := 0) Z).get Z (resT (L 0 Z Z) res0)) Z ⟨V274, Z, (((((((((le9.trans le40).trans le65).trans le84).trans le142).trans le235).trans le241).trans le248).trans le260).trans le275), ?_⟩
        have ow280 := ow276.drop 0 Z
        have ow281 := ow280.drop 0 Z
        have e282 := Option.some.inj h272
        subst e282
        exact ⟨v125, v128, v74, Z, f277, f278, f279, ow281⟩
   ·intro kk
    refine bcase (b := decide (8000 < x35)) (fun g283 => ?_) (fun g283 => ?_)
    ·skip
     refine U.x Z Z Z Z ((L 0 Z Z).trans (cB g283)) (by decide) ?_
     refine U.x Z Z Z Z ((L 1 Z Z).trans (cB g283)) (by decide) ?_
     refine U.x Z Z Z Z ((L 2 Z Z).trans (cB g283)) (by decide) ?_
     refine U.x Z Z Z Z ((L 3 Z Z).trans (cB g283)) (by decide) ?_
     refine U.x Z Z Z Z ((L 4 Z Z).trans (cB g283)) (by decide) ?_
     refine U.x Z Z Z Z ((L 5 Z Z).trans (cB g283)) (by decide) ?_
     refine U.x Z Z Z Z ((L 6 Z Z).trans (cB g283)) (by decide) ?_
     refine U.x Z Z Z Z ((L 7 Z Z).trans (cB g283)) (by decide) ?_
     refine U.x Z Z Z Z ((L 8 Z Z).trans (cB g283)) (by decide) ?_
     refine U.p Z Z (.inl Z) (S.pickT Z ((L 9 Z Z).trans (cB g283)) K) ?_
     exact kk [(36, .bool true), (35, .tuple #[]), (34, .tuple #[]), (33, .tuple #[]), (32, .tuple #[]), (31, .tuple #[]), (30, .tuple #[]), (29, .tuple #[]), (28, .tuple #[]), (27, .tuple #[])] _ ⟨.tuple #[], .tuple #[], .tuple #[], .tuple #[], .tuple #[], .tuple #[], .tuple #[], .tuple #[], .tuple #[], Z, (by rw [g283, Bool.true_or])⟩
    ·skip
     refine U.p Z Z (.inr ⟨_, _, _, Z, Z, ((L 0 Z Z).trans (cB g283))⟩) (S.move Z (L 21 Z Z)) ?_
     refine U.p Z Z (.inr ⟨_, _, _, Z, Z, ((L 1 Z Z).trans (cB g283))⟩) (S.lenStr Z (L 0 Z Z) Tryd.underlying9) ?_
     refine U.p Z Z (.inr ⟨_, _, _, Z, Z, ((L 2 Z Z).trans (cB g283))⟩) (S.move Z (L 6 Z Z)) ?_
     refine U.p Z Z (.inr ⟨_, _, _, Z, Z, ((L 3 Z Z).trans (cB g283))⟩) (S.mul Z K (L 0 Z Z)) ?_
     refine U.p Z Z (.inr ⟨_, _, _, Z, Z, ((L 4 Z Z).trans (cB g283))⟩) (S.add Z K (L 0 Z Z)) ?_
     refine U.p Z Z (.inr ⟨_, _, _, Z, Z, ((L 5 Z Z).trans (cB g283))⟩) (S.move Z (L 8 Z Z)) ?_
     refine U.p Z Z (.inr ⟨_, _, _, Z, Z, ((L 6 Z Z).trans (cB g283))⟩) (S.mul Z K (L 0 Z Z)) ?_
     refine U.p Z Z (.inr ⟨_, _, _, Z, Z, ((L 7 Z Z).trans (cB g283))⟩) (S.add Z (L 2 Z Z) (L 0 Z Z)) ?_
     refine U.p Z Z (.inr ⟨_, _, _, Z, Z, ((L 8 Z Z).trans (cB g283))⟩) (S.neqI Z (L 6 Z Z) (L 0 Z Z)) ?_
     refine U.p Z Z (.inl Z) (S.pickF Z ((L 9 Z Z).trans (cB g283)) (L 0 Z Z)) ?_
     exact kk [(36, .bool (decide ((p0.size : Int) ≠ (w64 ((w64 (9 + (w64 (4 * (w64 x29))))) + (w64 (5 * x35))))))), (35, .bool (decide ((p0.size : Int) ≠ (w64 ((w64 (9 + (w64 (4 * (w64 x29))))) + (w64 (5 * x35))))))), (34, .int .i64 (w64 ((w64 (9 + (w64 (4 * (w64 x29))))) + (w64 (5 * x35))))), (33, .int .i64 (w64 (5 * x35))), (32, .int .i64 x35), (31, .int .i64 (w64 (9 + (w64 (4 * (w64 x29)))))), (30, .int .i64 (w64 (4 * (w64 x29)))), (29, .int .i64 (w64 x29)), (28, .int .i64 (p0.size : Int)), (27, .string p0)] _ ⟨.bool (decide ((p0.size : Int) ≠ (w64 ((w64 (9 + (w64 (4 * (w64 x29))))) + (w64 (5 * x35)))))), .int .i64 (w64 ((w64 (9 + (w64 (4 * (w64 x29))))) + (w64 (5 * x35)))), .int .i64 (w64 (5 * x35)), .int .i64 x35, .int .i64 (w64 (9 + (w64 (4 * (w64 x29))))), .int .i64 (w64 (4 * (w64 x29))), .int .i64 (w64 x29), .int .i64 (p0.size : Int), .string p0, Z, (by rw [g283, Bool.false_or])⟩
 ·intro kk
  refine bcase (b := decide ((p0.size : Int) < 9)) (fun g284 => ?_) (fun g284 => ?_)
  ·have h285 := ifT g284 hy13
   refine U.x Z Z Z Z ((L 0 Z Z).trans (cB g284)) (by decide) ?_
   refine U.x Z Z Z Z ((L 1 Z Z).trans (cB g284)) (by decide) ?_
   refine U.x Z Z Z Z ((L 2 Z Z).trans (cB g284)) (by decide) ?_
   refine U.p Z Z (.inl Z) (S.pickT Z ((L 3 Z Z).trans (cB g284)) K) ?_
   have e286 := Option.some.inj h285
   subst e286
   exact kk [(16, .bool true), (15, .tuple #[]), (14, .tuple #[]), (13, .tuple #[])] _ ⟨.tuple #[], .tuple #[], .tuple #[], Z, Z⟩
  ·have h287 := ifF g284 hy13
   refine U.p Z Z (.inr ⟨_, _, _, Z, Z, ((L 0 Z Z).trans (cB g284))⟩) (S.move Z (L 6 Z Z)) ?_
   obtain ⟨sx288, hx289, h290⟩ := bindS h287
   refine U.p Z Z (.inr ⟨_, _, _, Z, Z, ((L 1 Z Z).trans (cB g284))⟩) (S.sliceStr hx289 Z (L 0 Z Z) Tryd.underlying9 ⟨.inl ⟨rfl, Z⟩, .inr ⟨_, _, Z, K⟩, .inl Z⟩ Z) ?_
   refine U.p Z Z (.inr ⟨_, _, _, Z, Z, ((L 2 Z Z).trans (cB g284))⟩) (S.neqS Z (L 0 Z Z) K) ?_
   refine U.p Z Z (.inl Z) (S.pickF Z ((L 3 Z Z).trans (cB g284)) (L 0 Z Z)) ?_
   have e291 := Option.some.inj h290
   subst e291
   exact kk [(16, .bool (decide (sx288 ≠ str1))), (15, .bool (decide (sx288 ≠ str1))), (14, .string sx288), (13, .string p0)] _ ⟨.bool (decide (sx288 ≠ str1)), .string sx288, .string p0, Z, Z⟩
theorem wk_image_four (V : Vw) (Rs : List At) (gl : Glb V) (p0 : Int) (ow : Ow V (Rs)) (r : List Int) (h : image_four p0 = some r) : ∃ v V', Cl Tryd.prog NG 20 #[.int .u32 p0] V.H v V'.H ∧ V.le V' ∧ (∃ (v1 : Value), v = v1 ∧ Ow V' (.os (RT.int .u8) v1 r :: Rs)) := by
 refine Ct.of gl.lo Tryd.func20 Z (nr Z) ?_
 unfold image_four at h
 refine WP.usreg Z ?_
 refine U.p Z Z (.inl Z) (S.assign Z K) ?_
 refine U.done (nr Z) ?_
 refine WP.usreg Z ?_
 refine U.p Z Z (.inl Z) (S.move Z (L 1 Z Z)) ?_
 obtain ⟨x3, hx4, h5⟩ := bindS h
 refine U.p Z Z (.inl Z) (S.shr hx4 Z (L 0 Z Z) K) ?_
 refine U.p Z Z (.inl Z) (S.conv Z (L 0 Z Z) Tryd.underlying39 Tryd.underlying5) ?_
 refine U.p Z Z (.inl Z) (S.move Z (L 4 Z Z)) ?_
 obtain ⟨x6, hx7, h8⟩ := bindS h5
 refine U.p Z Z (.inl Z) (S.shr hx7 Z (L 0 Z Z) K) ?_
 refine U.p Z Z (.inl Z) (S.conv Z (L 0 Z Z) Tryd.underlying39 Tryd.underlying5) ?_
 refine U.p Z Z (.inl Z) (S.move Z (L 7 Z Z)) ?_
 obtain ⟨x9, hx10, h11⟩ := bindS h8
 refine U.p Z Z (.inl Z) (S.shr hx10 Z (L 0 Z Z) K) ?_
 refine U.p Z Z (.inl Z) (S.conv Z (L 0 Z Z) Tryd.underlying39 Tryd.underlying5) ?_
 refine U.p Z Z (.inl Z) (S.move Z (L 10 Z Z)) ?_
 refine U.p Z Z (.inl Z) (S.conv Z (L 0 Z Z) Tryd.underlying39 Tryd.underlying5) ?_
 refine O.lit (R := (RT.int .u8)) ow Z Z (.inl Z) Z Tryd.underlying46 ti5 Z Z Z (nr Z) Z (aC (L 8 Z Z) (aC (L 5 Z Z) (aC (L 2 Z Z) (aC (L 0 Z Z) aN)))) (.cons _ _ (IntKind.wrap .u8 x3) _ (by simp [topV]) Z (.cons _ _ (IntKind.wrap .u8 x6) _ (by simp [topV]) Z (.cons _ _ (IntKind.wrap .u8 x9) _ (by simp [topV]) Z (.cons _ _ (IntKind.wrap .u8 p0) _ (by simp [topV]) Z .nil)))) (fun _ => nd) (fun v12 V13 le14 ow15 => ?_)
 refine U.p Z Z (.inl Z) (S.assign Z (L 0 Z Z)) ?_
 refine U.done (nr Z) ?_
 refine WP.ret ?_
 refine fin.slot (.inr Z) Z (L 0 Z Z) ⟨V13, Z, le14, ?_⟩
 have e17 := Option.some.inj h11
 subst e17
 exact ⟨v12, Z, ow15⟩
theorem wk_image_note (V : Vw) (Rs : List At) (gl : Glb V) (p0 : TNote) (ow : Ow V (Rs)) (r : Int) (h : image_note p0 = some r) : ∃ v V', Cl Tryd.prog NG 21 #[.agg #[.int .i64 p0.role, .int .i64 p0.what, .bool p0.volatile, .bool p0.final]] V.H v V'.H ∧ V.le V' ∧ (v = .int .u8 r ∧ Ow V' (Rs)) := by
 refine Ct.of gl.lo Tryd.func21 Z (nr Z) ?_
 unfold image_note at h
 refine WP.usreg Z ?_
 refine O.box ow Z Z (.inl Z) Z (L 0 Z Z) (by simp [topV]) Z nd (fun b1 V2 le3 ow4 => ?_)
 refine U.p Z Z (.inl Z) (S.assign Z K) ?_
 refine U.done (nr Z) ?_
 refine WP.usreg Z ?_
 refine U.p (v := .pointer (some ⟨b1, 0, none⟩)) Z Z (.inl Z) (S.fieldAddr Z (L 1 Z Z) Tryd.underlying42 Z ti3 Z Z) ?_
 refine U.k Z Z (.inl Z) (S.load Z (L 0 Z Z) Tryd.underlying3 Z ((ow4.own (k := 0) Z).cell Z)) nd ?_
 refine U.p Z Z (.inl Z) (S.conv Z (L 0 Z Z) Tryd.underlying3 Tryd.underlying5) ?_
 refine U.p (v := .pointer (some ⟨b1, 1, none⟩)) Z Z (.inl Z) (S.fieldAddr Z (L 4 Z Z) Tryd.underlying42 Z ti3 Z Z) ?_
 refine U.k Z Z (.inl Z) (S.load Z (L 0 Z Z) Tryd.underlying3 Z ((ow4.own (k := 0) Z).cell Z)) nd ?_
 refine U.p Z Z (.inl Z) (S.conv Z (L 0 Z Z) Tryd.underlying3 Tryd.underlying5) ?_
 obtain ⟨x6, hx7, h8⟩ := bindS h
 refine U.p Z Z (.inl Z) (S.shl hx7 Z (L 0 Z Z) K) ?_
 refine U.p Z Z (.inl Z) (S.orI Z (L 4 Z Z) (L 0 Z Z)) ?_
 refine U.p Z Z (.inl Z) (S.assign Z (L 0 Z Z)) ?_
 refine U.done (nr Z) ?_
 refine WP.seqI (fun l V' => ∃ (x9 : Int), l = [(1, .pointer (some ⟨b1, 0, none⟩)), (3, .int .u8 x9)] ∧ V2.le V' ∧ Ow V' (.pt b1 (.cells 0 [.int .i64 p0.role, .int .i64 p0.what, .bool p0.volatile, .bool p0.final]) :: Rs) ∧ image_note_k1 p0 x9 = some r) ?_ ?_
 ·rintro _ V10 ⟨x9, rfl, le11, ow12, h13⟩
  unfold image_note_k1 at h13
  refine WP.seqI (fun l V' => ∃ (x14 : Int), l = [(3, .int .u8 x14)] ∧ V10.le V' ∧ Ow V' (Rs) ∧ image_note_k2 x14 = some r) ?_ ?_
  ·rintro _ V15 ⟨x14, rfl, le16, ow17, h18⟩
   unfold image_note_k2 at h18
   refine WP.usreg Z ?_
   refine U.p Z Z (.inl Z) (S.move Z (L 0 Z Z)) ?_
   refine U.p Z Z (.inl Z) (S.assign Z (L 0 Z Z)) ?_
   refine U.done (nr Z) ?_
   refine WP.ret ?_
   refine fin.slot (.inr Z) Z (L 0 Z Z) ⟨V15, Z, ((le3.trans le11).trans le16), ?_⟩
   have e19 := Option.some.inj h18
   subst e19
   exact ⟨rfl, ow17⟩
  ·skip
   refine WP.usreg Z ?_
   refine U.p (v := .pointer (some ⟨b1, 3, none⟩)) Z Z (.inl Z) (S.fieldAddr Z (L 0 Z Z) Tryd.underlying42 Z ti4 Z Z) ?_
   refine U.k Z Z (.inl Z) (S.load Z (L 0 Z Z) Tryd.underlying4 Z ((ow12.own (k := 0) Z).cell Z)) nd ?_
   refine U.done (nr Z) ?_
   refine WP.cond _ (L 0 Z Z) Z (fun c20 => ?_) (fun c20 => ?_)
   ·have h21 := ifT c20 h13
    refine WP.ureg Z ?_
    refine U.p Z Z (.inl Z) (S.move Z (L 3 Z Z)) ?_
    refine U.p Z Z (.inl Z) (S.orI Z (L 0 Z Z) K) ?_
    refine U.p Z Z (.inl Z) (S.assign Z (L 0 Z Z)) ?_
    refine U.done (nr Z) ?_
    refine sqN ?_
    have ow22 := ow12.drop 0 Z
    exact ⟨_, V10, Z, ⟨orB .u8 x9 128, Z, (.refl _), ow22, h21⟩, (allCons (L 0 Z Z) allNil)⟩
   ·have h23 := ifF c20 h13
    refine WP.skip ?_
    refine sqN ?_
    have ow24 := ow12.drop 0 Z
    exact ⟨_, V10, Z, ⟨x9, Z, (.refl _), ow24, h23⟩, (allCons (L 3 Z Z) allNil)⟩
 ·skip
  refine WP.usreg Z ?_
  refine U.p (v := .pointer (some ⟨b1, 2, none⟩)) Z Z (.inl Z) (S.fieldAddr Z (L 10 Z Z) Tryd.underlying42 Z ti4 Z Z) ?_
  refine U.k Z Z (.inl Z) (S.load Z (L 0 Z Z) Tryd.underlying4 Z ((ow4.own (k := 0) Z).cell Z)) nd ?_
  refine U.done (nr Z) ?_
  refine WP.cond _ (L 0 Z Z) Z (fun c25 => ?_) (fun c25 => ?_)
  ·have h26 := ifT c25 h8
   refine WP.ureg Z ?_
   refine U.p Z Z (.inl Z) (S.move Z (L 2 Z Z)) ?_
   refine U.p Z Z (.inl Z) (S.orI Z (L 0 Z Z) K) ?_
   refine U.p Z Z (.inl Z) (S.assign Z (L 0 Z Z)) ?_
   refine U.done (nr Z) ?_
   refine sqN ?_
   exact ⟨_, V2, Z, ⟨orB .u8 (orB .u8 (IntKind.wrap .u8 p0.role) x6) 64, Z, (.refl _), ow4, h26⟩, (allCons (L 15 Z Z) (allCons (L 0 Z Z) allNil))⟩
  ·have h27 := ifF c25 h8
   refine WP.skip ?_
   refine sqN ?_
   exact ⟨_, V2, Z, ⟨orB .u8 (IntKind.wrap .u8 p0.role) x6, Z, (.refl _), ow4, h27⟩, (allCons (L 12 Z Z) (allCons (L 2 Z Z) allNil))⟩
end Go.Vm.G15w
