/-
  What the functions compute is what the plain ones say, for all inputs at which those answer.
-/
import Derived.Test.YtoefpigdafjcdaaDoorEDG08
import Derived.Test.YtoefpigdafjcdaaDoorProg
import Derived.Test.YtoefpigdafjcdaaDoorESG08
set_option linter.unusedSimpArgs false
set_option linter.unusedVariables false
namespace Go.Vm.G08
open Go Go.Proofs
set_option maxHeartbeats 4000000
set_option maxRecDepth 10000
theorem ti3 : tinfo Tryd.prog 3 (.int .i64 0) 1 8 := by unfold tinfo; kernel_rfl
theorem ti4 : tinfo Tryd.prog 4 (.bool false) 1 1 := by unfold tinfo; kernel_rfl
theorem ti9 : tinfo Tryd.prog 9 (.string ByteArray.empty) 1 16 := by unfold tinfo; kernel_rfl
theorem ti22 : tinfo Tryd.prog 22 (.slice none 0 0) 1 24 := by unfold tinfo; kernel_rfl
theorem ti24 : tinfo Tryd.prog 24 (.agg #[.string ByteArray.empty, .int .i64 0, .int .i64 0, .slice none 0 0]) 4 56 := by unfold tinfo; kernel_rfl
theorem ti28 : tinfo Tryd.prog 28 (.slice none 0 0) 1 24 := by unfold tinfo; kernel_rfl
theorem ti30 : tinfo Tryd.prog 30 (.agg #[.int .i64 0, .int .i64 0, .int .i64 0, .int .i64 0, .int .i64 0, .slice none 0 0, .int .i64 0, .bool false, .bool false]) 9 80 := by unfold tinfo; kernel_rfl
theorem ti32 : tinfo Tryd.prog 32 (.slice none 0 0) 1 24 := by unfold tinfo; kernel_rfl
theorem ti34 : tinfo Tryd.prog 34 (.agg #[.slice none 0 0, .slice none 0 0]) 2 48 := by unfold tinfo; kernel_rfl
theorem ti44 : tinfo Tryd.prog 44 (.agg #[.pointer none, .slice none 0 0]) 2 32 := by unfold tinfo; kernel_rfl
theorem pl30 : placesAre Tryd.prog 30 #[(0, 1), (1, 1), (2, 1), (3, 1), (4, 1), (5, 1), (6, 1), (7, 1), (8, 1)] := ⟨_, Tryd.underlying30, by kernel_rfl⟩
theorem en5 : enterable Tryd.prog 5 := ⟨Tryd.f5, Tryd.func5, by kernel_rfl, Z⟩
theorem en6 : enterable Tryd.prog 6 := ⟨Tryd.f6, Tryd.func6, by kernel_rfl, Z⟩
theorem en7 : enterable Tryd.prog 7 := ⟨Tryd.f7, Tryd.func7, by kernel_rfl, Z⟩
theorem en8 : enterable Tryd.prog 8 := ⟨Tryd.f8, Tryd.func8, by kernel_rfl, Z⟩
theorem en9 : enterable Tryd.prog 9 := ⟨Tryd.f9, Tryd.func9, by kernel_rfl, Z⟩
theorem en10 : enterable Tryd.prog 10 := ⟨Tryd.f10, Tryd.func10, by kernel_rfl, Z⟩
theorem en11 : enterable Tryd.prog 11 := ⟨Tryd.f11, Tryd.func11, by kernel_rfl, Z⟩
theorem en12 : enterable Tryd.prog 12 := ⟨Tryd.f12, Tryd.func12, by kernel_rfl, Z⟩
theorem en13 : enterable Tryd.prog 13 := ⟨Tryd.f13, Tryd.func13, by kernel_rfl, Z⟩
theorem en14 : enterable Tryd.prog 14 := ⟨Tryd.f14, Tryd.func14, by kernel_rfl, Z⟩
theorem en15 : enterable Tryd.prog 15 := ⟨Tryd.f15, Tryd.func15, by kernel_rfl, Z⟩
theorem en16 : enterable Tryd.prog 16 := ⟨Tryd.f16, Tryd.func16, by kernel_rfl, Z⟩
theorem en17 : enterable Tryd.prog 17 := ⟨Tryd.f17, Tryd.func17, by kernel_rfl, Z⟩
theorem en18 : enterable Tryd.prog 18 := ⟨Tryd.f18, Tryd.func18, by kernel_rfl, Z⟩
theorem en19 : enterable Tryd.prog 19 := ⟨Tryd.f19, Tryd.func19, by kernel_rfl, Z⟩
theorem en20 : enterable Tryd.prog 20 := ⟨Tryd.f20, Tryd.func20, by kernel_rfl, Z⟩
theorem en21 : enterable Tryd.prog 21 := ⟨Tryd.f21, Tryd.func21, by kernel_rfl, Z⟩
theorem en22 : enterable Tryd.prog 22 := ⟨Tryd.f22, Tryd.func22, by kernel_rfl, Z⟩
theorem en23 : enterable Tryd.prog 23 := ⟨Tryd.f23, Tryd.func23, by kernel_rfl, Z⟩
theorem en24 : enterable Tryd.prog 24 := ⟨Tryd.f24, Tryd.func24, by kernel_rfl, Z⟩
theorem en28 : enterable Tryd.prog 28 := ⟨Tryd.f28, Tryd.func28, by kernel_rfl, Z⟩
theorem en31 : enterable Tryd.prog 31 := ⟨Tryd.f31, Tryd.func31, by kernel_rfl, Z⟩
theorem en32 : enterable Tryd.prog 32 := ⟨Tryd.f32, Tryd.func32, by kernel_rfl, Z⟩
theorem en33 : enterable Tryd.prog 33 := ⟨Tryd.f33, Tryd.func33, by kernel_rfl, Z⟩
theorem en34 : enterable Tryd.prog 34 := ⟨Tryd.f34, Tryd.func34, by kernel_rfl, Z⟩
theorem en35 : enterable Tryd.prog 35 := ⟨Tryd.f35, Tryd.func35, by kernel_rfl, Z⟩
theorem en36 : enterable Tryd.prog 36 := ⟨Tryd.f36, Tryd.func36, by kernel_rfl, Z⟩
theorem en51 : enterable Tryd.prog 51 := ⟨Tryd.f51, Tryd.func51, by kernel_rfl, Z⟩
theorem wk_strconv_Itoa (V : Vw) (Rs : List At) (gl : Glb V) (p0 : Int) (ow : Ow V (Rs)) (r : ByteArray) (h : strconv_Itoa p0 = some r) : ∃ v V', Cl Tryd.prog NG 12 #[.int .i64 p0] V.H v V'.H ∧ V.le V' ∧ (v = .string r ∧ Ow V' (Rs)) := by
 unfold strconv_Itoa at h
 exact itoa_cl gl.t1 (Nat.lt_of_lt_of_le (by decide) gl.lo) (by kernel_rfl) (fun w h0 h1 ht => (Tryd.strconv_Itoa p0 h0 h1 w ht).mono (by rintro e w2 ⟨rfl, k, os, rfl⟩; exact ⟨rfl, below_grown w k os⟩)) ow h
theorem wk_strings_Join (V : Vw) (Rs : List At) (gl : Glb V) (p0 : List ByteArray) (p1 : ByteArray) (v1 : Value) (ow : Ow V (.os RT.str v1 p0 :: Rs)) (r : ByteArray) (h : strings_Join p0 p1 = some r) : ∃ v V', Cl Tryd.prog NG 13 #[v1, .string p1] V.H v V'.H ∧ V.le V' ∧ (v = .string r ∧ Ow V' (.os RT.str v1 p0 :: Rs)) := by
 unfold strings_Join at h
 exact join_cl (ow.strs (k := 0) Z) (fun a c w => Tryd.strings_Join_none a c p1 w) (fun bk o c w h1 h2 h3 h4 h5 => Tryd.strings_Join bk o c p0 p1 w h1 h2 h3 h4 h5) ow h
theorem wk_ir_Line (V : Vw) (Rs : List At) (gl : Glb V) (p0 : TIns) (v1 : Value) (f2 : Fz (RT.int .i64) V v1 p0.args) (ow : Ow V (Rs)) (r : ByteArray) (h : ir_Line p0 = some r) : ∃ v V', Cl Tryd.prog NG 8 #[.agg #[.int .i64 p0.op, .int .i64 p0.d, .int .i64 p0.a, .int .i64 p0.b, .int .i64 p0.imm, v1, .int .i64 p0.what, .bool p0.volatile, .bool p0.final]] V.H v V'.H ∧ V.le V' ∧ (v = .string r ∧ Ow V' (Rs)) := by
 refine Ct.of gl.lo Tryd.func8 Z (nr Z) ?_
 unfold ir_Line at h
 refine WP.usreg Z ?_
 refine O.box ow Z Z (.inl Z) Z (L 0 Z Z) (by simp [topV]) Z nd (fun b3 V4 le5 ow6 => ?_)
 refine U.p Z Z (.inl Z) (S.assign Z K) ?_
 refine U.done (nr Z) ?_
 refine WP.usreg Z ?_
 refine O.lit (R := RT.str) ow6 Z Z (.inl Z) Z Tryd.underlying37 ti9 Z Z Z (nr Z) Z (aC K aN) (.cons _ _ str1 _ (by simp [topV]) Z .nil) (fun _ => nd) (fun v8 V9 le10 ow11 => ?_)
 refine U.p Z Z (.inl Z) (S.assign Z (L 0 Z Z)) ?_
 refine U.done (nr Z) ?_
 refine WP.seqI (fun l V' => ∃ (xs13 : List ByteArray), l = [(1, .pointer (some ⟨b3, 0, none⟩)), (3, v8)] ∧ V9.le V' ∧ Ow V' (.pt b3 (.cells 0 [.int .i64 p0.op, .int .i64 p0.d, .int .i64 p0.a, .int .i64 p0.b, .int .i64 p0.imm, v1, .int .i64 p0.what, .bool p0.volatile, .bool p0.final]) :: .os RT.str v8 xs13 :: Rs) ∧ ir_Line_k1 p0 xs13 = some r) ?_ ?_
 ·rintro _ V14 ⟨xs13, rfl, le15, ow16, h17⟩
  unfold ir_Line_k1 at h17
  refine WP.seq ?_
  refine WP.usreg Z ?_
  refine U.p (v := .pointer (some ⟨b3, 1, none⟩)) Z Z (.inl Z) (S.fieldAddr Z (L 0 Z Z) Tryd.underlying30 Z ti3 Z Z) ?_
  refine U.k Z Z (.inl Z) (S.load Z (L 0 Z Z) Tryd.underlying3 Z ((ow16.own (k := 0) Z).cell Z)) nd ?_
  refine U.p (v := .pointer (some ⟨b3, 2, none⟩)) Z Z (.inl Z) (S.fieldAddr Z (L 2 Z Z) Tryd.underlying30 Z ti3 Z Z) ?_
  refine U.k Z Z (.inl Z) (S.load Z (L 0 Z Z) Tryd.underlying3 Z ((ow16.own (k := 0) Z).cell Z)) nd ?_
  refine U.p (v := .pointer (some ⟨b3, 3, none⟩)) Z Z (.inl Z) (S.fieldAddr Z (L 4 Z Z) Tryd.underlying30 Z ti3 Z Z) ?_
  refine U.k Z Z (.inl Z) (S.load Z (L 0 Z Z) Tryd.underlying3 Z ((ow16.own (k := 0) Z).cell Z)) nd ?_
  refine O.lit (R := (RT.int .i64)) ow16 Z Z (.inl Z) Z Tryd.underlying28 ti3 Z Z Z (nr Z) Z (aC (L 4 Z Z) (aC (L 2 Z Z) (aC (L 0 Z Z) aN))) (.cons _ _ p0.d _ (by simp [topV]) Z (.cons _ _ p0.a _ (by simp [topV]) Z (.cons _ _ p0.b _ (by simp [topV]) Z .nil))) (fun _ => nd) (fun v18 V19 le20 ow21 => ?_)
  refine U.p (v := .pointer (some ⟨b3, 5, none⟩)) Z Z (.inl Z) (S.fieldAddr Z (L 7 Z Z) Tryd.underlying30 Z ti28 Z Z) ?_
  refine U.k Z Z (.inl Z) (S.load Z (L 0 Z Z) Tryd.underlying28 Z ((ow21.own (k := 1) Z).cell Z)) nd ?_
  have f23 := f2.up (((le5.trans le10).trans le15).trans le20)
  obtain ⟨xs24, hx25, h26⟩ := bindS h17
  refine O.appendK (L := 17592186044416) (k := 0) ow21 Z Z Z (.inl Z) Z (L 2 Z Z) (L 0 Z Z) Tryd.underlying28 ti3 Z Z (by decide) (f23.src Tryd.underlying28) hx25 (fun _ _ => nd) (fun v27 V28 le29 ow30 => ?_)
  refine U.p Z Z (.inl Z) (ow30.oslen (k := 0) Z Z (L 0 Z Z) Tryd.underlying28) ?_
  refine U.p Z Z (.inl Z) (S.move Z K) ?_
  refine U.done (nr Z) ?_
  refine WP.blk ?_
  have ow36 := ow30.pick 0 Z
  have ow37 := ow36.pick 2 Z
  have ow38 := ow37.pick 2 Z
  unfold ir_Line_l1 at h26
  obtain ⟨n40, hn39⟩ := loopO_some.1 h26
  refine WP.loopI2 (fun n l V' => ∃ (v33 : Value) (xs34 : List ByteArray) (x35 : Int), l = [(1, .pointer (some ⟨b3, 0, none⟩)), (3, v33), (30, v27), (31, .int .i64 (xs24.length : Int)), (32, .int .i64 x35)] ∧ V28.le V' ∧ Ow V' (.pt b3 (.cells 0 [.int .i64 p0.op, .int .i64 p0.d, .int .i64 p0.a, .int .i64 p0.b, .int .i64 p0.imm, v1, .int .i64 p0.what, .bool p0.volatile, .bool p0.final]) :: .os RT.str v33 xs34 :: .os (RT.int .i64) v27 xs24 :: Rs) ∧ itO (fun s => ir_Line_l1b p0 xs24 s.1 s.2) n (xs34, x35) = some r) n40 _ ⟨v8, xs13, 0, Z, .refl _, ow38, hn39⟩ (allCons (L 12 Z Z) (allCons (L 13 Z Z) (allCons (L 2 Z Z) (allCons (L 1 Z Z) (allCons (L 0 Z Z) allNil))))) ?_
  rintro _ _ V41 ⟨v33, xs34, x35, rfl, le42, ow43, h47⟩
  obtain ⟨m44, q45, rfl, h48, e46⟩ := itS h47
  replace h48 : ir_Line_l1b p0 xs24 xs34 x35 = some q45 := h48
  unfold ir_Line_l1b at h48
  refine WP.usreg Z ?_
  refine U.p Z Z (.inl Z) (S.lss Z (L 4 Z Z) (L 3 Z Z)) ?_
  refine U.done (nr Z) ?_
  refine WP.seq ?_
  refine WP.cond _ (L 0 Z Z) Z (fun c49 => ?_) (fun c49 => ?_)
  ·have h50 := ifT c49 h48
   refine WP.skip ?_
   refine sqN ?_
   refine WP.seqI (fun l V' => ∃ (v52 : Value) (xs53 : List ByteArray), l = [(1, .pointer (some ⟨b3, 0, none⟩)), (3, v52), (30, v27), (31, .int .i64 (xs24.length : Int)), (32, .int .i64 x35)] ∧ V41.le V' ∧ Ow V' (.pt b3 (.cells 0 [.int .i64 p0.op, .int .i64 p0.d, .int .i64 p0.a, .int .i64 p0.b, .int .i64 p0.imm, v1, .int .i64 p0.what, .bool p0.volatile, .bool p0.final]) :: .os RT.str v52 xs53 :: .os (RT.int .i64) v27 xs24 :: Rs) ∧ ir_Line_k2 x35 xs53 = some q45) ?_ ?_
   ·rintro _ V54 ⟨v52, xs53, rfl, le55, ow56, h57⟩
    unfold ir_Line_k2 at h57
    refine WP.ureg Z ?_
    refine U.p Z Z (.inl Z) (S.add Z (L 4 Z Z) K) ?_
    refine U.p Z Z (.inl Z) (S.move Z (L 0 Z Z)) ?_
    refine U.done (nr Z) ?_
    refine sqN ?_
    exact ⟨_, V54, Z, ⟨m44, Nat.lt_succ_self _, v52, xs53, w64 (x35 + 1), Z, (le42.trans le55), ow56, backS h57 e46⟩, (allCons (L 2 Z Z) (allCons (L 3 Z Z) (allCons (L 4 Z Z) (allCons (L 5 Z Z) (allCons (L 0 Z Z) allNil)))))⟩
   ·skip
    refine WP.blk ?_
    refine WP.usreg Z ?_
    obtain ⟨x58, hx59, h60⟩ := bindS h50
    obtain ⟨b61, o62, n63, c64, hv65⟩ := ow43.ospt (k := 2) Z hx59
    obtain ⟨_, hv66, _⟩ := ow43.osel (k := 2) Z hv65 hx59
    refine U.p Z Z (.inl Z) (S.index Z ((L 3 Z Z).trans hv66) (L 5 Z Z) Tryd.underlying28 ti3 (ix_ge hx59) (ix_lt hx59)) ?_
    obtain ⟨cs67, hv68, hlt69, hr70, hc71⟩ := ow43.osel (k := 2) Z hv65 hx59
    obtain rfl : cs67 = [.int .i64 x58] := hr70
    refine U.k Z Z (.inl Z) (S.load Z (L 0 Z Z) Tryd.underlying3 Z (hc71 0 _ Z)) nd ?_
    refine U.p Z Z (.inl Z) (S.assign Z (L 0 Z Z)) ?_
    refine U.done (nr Z) ?_
    refine WP.usreg Z ?_
    refine U.p Z Z (.inl Z) (S.move Z (L 0 Z Z)) ?_
    refine U.p Z Z (.inl Z) (S.geq Z (L 0 Z Z) K) ?_
    refine U.done (nr Z) ?_
    refine WP.cond _ (L 0 Z Z) Z (fun c72 => ?_) (fun c72 => ?_)
    ·have h73 := ifT c72 h60
     refine WP.ureg Z ?_
     refine U.p Z Z (.inl Z) (S.move Z (L 7 Z Z)) ?_
     refine U.p Z Z (.inl Z) (S.move Z (L 3 Z Z)) ?_
     obtain ⟨x74, hx75, h76⟩ := bindS h73
     refine O.call (V := V41) Z Z (.inl Z) Z en12 (aC (L 0 Z Z) aN) (wk_strconv_Itoa V41 _ (gl.up (((((le5.trans le10).trans le15).trans le20).trans le29).trans le42)) x58 ow43 _ hx75) (fun _ _ _ _ => nd) (fun v77 V78 le79 hp80 => ?_)
     obtain ⟨rfl, ow81⟩ := hp80
     obtain ⟨x82, hx83, h84⟩ := bindS h76
     refine U.p Z Z (.inl Z) (S.addS hx83 Z K (L 0 Z Z)) ?_
     refine O.lit (R := RT.str) ow81 Z Z (.inl Z) Z Tryd.underlying37 ti9 Z Z Z (nr Z) Z (aC (L 0 Z Z) aN) (.cons _ _ x82 _ (by simp [topV]) Z .nil) (fun _ => nd) (fun v85 V86 le87 ow88 => ?_)
     obtain ⟨xs90, hx91, h92⟩ := bindS h84
     refine O.append (k := 2) ow88 Z Z Z (.inl Z) Z (L 4 Z Z) (L 0 Z Z) Tryd.underlying37 ti9 Z Z (nr Z) (ow88.src (k := 0) Z Tryd.underlying37) hx91 (fun _ _ => nd) (fun v93 V94 le95 ow96 => ?_)
     refine U.p Z Z (.inl Z) (S.assign Z (L 0 Z Z)) ?_
     refine U.done (nr Z) ?_
     refine blkN (sqN ?_)
     have ow98 := ow96.drop 0 Z
     exact ⟨_, V94, Z, ⟨v93, xs90, Z, ((le79.trans le87).trans le95), ow98, h92⟩, (allCons (L 13 Z Z) (allCons (L 0 Z Z) (allCons (L 15 Z Z) (allCons (L 16 Z Z) (allCons (L 17 Z Z) allNil)))))⟩
    ·have h99 := ifF c72 h60
     refine WP.skip ?_
     refine blkN (sqN ?_)
     exact ⟨_, V41, Z, ⟨v33, xs34, Z, (.refl _), ow43, h99⟩, (allCons (L 6 Z Z) (allCons (L 7 Z Z) (allCons (L 8 Z Z) (allCons (L 9 Z Z) (allCons (L 10 Z Z) allNil)))))⟩
  ·have h100 := ifF c49 h48
   refine WP.exit ?_
   refine sqE (sqE (blkE (sqN ?_)))
   have h101 := exitS h100 e46
   refine WP.usreg Z ?_
   refine U.p Z Z (.inl Z) (S.move Z (L 2 Z Z)) ?_
   refine U.p (v := .pointer (some ⟨b3, 4, none⟩)) Z Z (.inl Z) (S.fieldAddr Z (L 2 Z Z) Tryd.underlying30 Z ti3 Z Z) ?_
   refine U.k Z Z (.inl Z) (S.load Z (L 0 Z Z) Tryd.underlying3 Z ((ow43.own (k := 0) Z).cell Z)) nd ?_
   obtain ⟨x102, hx103, h104⟩ := bindS h101
   refine O.call (V := V41) Z Z (.inl Z) Z en12 (aC (L 0 Z Z) aN) (wk_strconv_Itoa V41 _ (gl.up (((((le5.trans le10).trans le15).trans le20).trans le29).trans le42)) p0.imm ow43 _ hx103) (fun _ _ _ _ => nd) (fun v105 V106 le107 hp108 => ?_)
   obtain ⟨rfl, ow109⟩ := hp108
   refine O.lit (R := RT.str) ow109 Z Z (.inl Z) Z Tryd.underlying37 ti9 Z Z Z (nr Z) Z (aC (L 0 Z Z) aN) (.cons _ _ x102 _ (by simp [topV]) Z .nil) (fun _ => nd) (fun v110 V111 le112 ow113 => ?_)
   obtain ⟨xs115, hx116, h117⟩ := bindS h104
   refine O.append (k := 2) ow113 Z Z Z (.inl Z) Z (L 4 Z Z) (L 0 Z Z) Tryd.underlying37 ti9 Z Z (nr Z) (ow113.src (k := 0) Z Tryd.underlying37) hx116 (fun _ _ => nd) (fun v118 V119 le120 ow121 => ?_)
   have ow123 := ow121.pick 2 Z
   obtain ⟨x124, hx125, h126⟩ := bindS h117
   refine O.call (V := V119) Z Z (.inl Z) Z en13 (aC (L 0 Z Z) (aC K aN)) (wk_strings_Join V119 _ (gl.up ((((((((le5.trans le10).trans le15).trans le20).trans le29).trans le42).trans le107).trans le112).trans le120)) xs115 str25 v118 ow123 _ hx125) (fun _ _ _ _ => nd) (fun v127 V128 le129 hp130 => ?_)
   obtain ⟨rfl, ow131⟩ := hp130
   refine U.p Z Z (.inl Z) (S.assign Z (L 0 Z Z)) ?_
   refine U.done (nr Z) ?_
   refine WP.ret ?_
   refine fin.slot (.inr Z) Z (L 0 Z Z) ⟨V128, Z, (((((((((le5.trans le10).trans le15).trans le20).trans le29).trans le42).trans le107).trans le112).trans le120).trans le129), ?_⟩
   have ow132 := ow131.drop 0 Z
   have ow133 := ow132.drop 0 Z
   have ow134 := ow133.drop 0 Z
   have ow135 := ow134.drop 0 Z
   have e136 := Option.some.inj h126
   subst e136
   exact ⟨rfl, ow135⟩
 ·skip
  refine WP.usreg Z ?_
  refine U.p (v := .pointer (some ⟨b3, 0, none⟩)) Z Z (.inl Z) (S.fieldAddr Z (L 3 Z Z) Tryd.underlying30 Z ti3 Z Z) ?_
  refine U.k Z Z (.inl Z) (S.load Z (L 0 Z Z) Tryd.underlying3 Z ((ow11.own (k := 1) Z).cell Z)) nd ?_
  refine U.p Z Z (.inl Z) (S.gtr Z (L 0 Z Z) K) ?_
  refine U.p Z Z (.inl Z) (S.move Z (L 0 Z Z)) ?_
  refine U.joinX 8 (fun e H => ∃ (u137 u138 u139 : Value), H = V9.H ∧ e = [(14, .bool ((decide (0 < p0.op)) && (decide (p0.op < 23)))), (13, u137), (12, u138), (11, u139)]) ?_ ?_
  ·rintro _ _ ⟨u137, u138, u139, rfl, rfl⟩
   refine U.done (nr Z) ?_
   refine WP.cond _ (L 0 Z Z) Z (fun c143 => ?_) (fun c143 => ?_)
   ·have h144 := ifT c143 h
    refine WP.ureg Z ?_
    refine U.p Z Z (.inl Z) (S.move Z (L 8 Z Z)) ?_
    refine U.p (v := .pointer (some ⟨b3, 0, none⟩)) Z Z (.inl Z) (S.fieldAddr Z (L 12 Z Z) Tryd.underlying30 Z ti3 Z Z) ?_
    refine U.k Z Z (.inl Z) (S.load Z (L 0 Z Z) Tryd.underlying3 Z ((ow11.own (k := 1) Z).cell Z)) nd ?_
    obtain ⟨x145, hx146, h147⟩ := bindS h144
    obtain ⟨_, _, _, cs148, hv149, hf150, hr151, hc152⟩ := (gl.up (le5.trans le10)).g0.at hx146
    cases hv149
    obtain rfl : cs148 = [.string x145] := hr151
    refine U.p Z Z (.inl Z) (S.indexA Z Gl (L 0 Z Z) Tryd.underlying39 ti9 (ix_ge hx146) (by have q1 := ix_lt hx146; have q2 := gl0_len; omega)) ?_
    refine U.k Z Z (.inl Z) (S.load Z (L 0 Z Z) Tryd.underlying9 Z (hc152 0 _ Z)) nd ?_
    obtain ⟨x153, hx154, h155⟩ := bindS h147
    obtain ⟨b156, o157, n158, c159, hv160⟩ := ow11.ospt (k := 0) Z hx154
    obtain ⟨_, hv161, _⟩ := ow11.osel (k := 0) Z hv160 hx154
    refine U.p Z Z (.inl Z) (S.index Z ((L 4 Z Z).trans hv161) K Tryd.underlying37 ti9 (ix_ge hx154) (ix_lt hx154)) ?_
    obtain ⟨cs162, hv163, hlt164, hr165, hc166⟩ := ow11.osel (k := 0) Z hv160 hx154
    obtain rfl : cs162 = [.string x153] := hr165
    refine O.storeE (k := 0) (R := RT.str) (j := 0) (y := x145) (cs := [.string x145]) ow11 Z hv163 Z Z (.inl Z) Z (L 0 Z Z) (L 1 Z Z) ti9 hx154 (by simp [topV]) Z Z Z (full Z) (fun _ _ => nd) (fun V167 le168 ow169 => ?_)
    refine U.done (nr Z) ?_
    refine sqN ?_
    have ow170 := ow169.pick 0 Z
    have ow171 := ow170.pick 1 Z
    exact ⟨_, V167, Z, ⟨[str1].set (Int.toNat 0) x145, Z, le168, ow171, h155⟩, (allCons (L 17 Z Z) (allCons (L 14 Z Z) allNil))⟩
   ·have h172 := ifF c143 h
    refine WP.skip ?_
    refine sqN ?_
    have ow173 := ow11.pick 0 Z
    have ow174 := ow173.pick 1 Z
    exact ⟨_, V9, Z, ⟨[str1], Z, (.refl _), ow174, h172⟩, (allCons (L 11 Z Z) (allCons (L 8 Z Z) allNil))⟩
  ·intro kk
   refine bcase (b := decide (0 < p0.op)) (fun g175 => ?_) (fun g175 => ?_)
   ·skip
    refine U.p (v := .pointer (some ⟨b3, 0, none⟩)) Z Z (.inr ⟨_, _, _, Z, Z, ((L 0 Z Z).trans (cB g175))⟩) (S.fieldAddr Z (L 7 Z Z) Tryd.underlying30 Z ti3 Z Z) ?_
    refine U.k Z Z (.inr ⟨_, _, _, Z, Z, ((L 1 Z Z).trans (cB g175))⟩) (S.load Z (L 0 Z Z) Tryd.underlying3 Z ((ow11.own (k := 1) Z).cell Z)) nd ?_
    refine U.p Z Z (.inr ⟨_, _, _, Z, Z, ((L 2 Z Z).trans (cB g175))⟩) (S.lss Z (L 0 Z Z) K) ?_
    refine U.p Z Z (.inl Z) (S.pickT Z ((L 3 Z Z).trans (cB g175)) (L 0 Z Z)) ?_
    exact kk [(14, .bool (decide (p0.op < 23))), (13, .bool (decide (p0.op < 23))), (12, .int .i64 p0.op), (11, .pointer (some ⟨b3, 0, none⟩))] _ ⟨.bool (decide (p0.op < 23)), .int .i64 p0.op, .pointer (some ⟨b3, 0, none⟩), Z, (by rw [g175, Bool.true_and])⟩
   ·skip
    refine U.x Z Z Z Z ((L 0 Z Z).trans (cB g175)) (by decide) ?_
    refine U.x Z Z Z Z ((L 1 Z Z).trans (cB g175)) (by decide) ?_
    refine U.x Z Z Z Z ((L 2 Z Z).trans (cB g175)) (by decide) ?_
    refine U.p Z Z (.inl Z) (S.pickF Z ((L 3 Z Z).trans (cB g175)) K) ?_
    exact kk [(14, .bool false), (13, .tuple #[]), (12, .tuple #[]), (11, .tuple #[])] _ ⟨.tuple #[], .tuple #[], .tuple #[], Z, (by rw [g175, Bool.false_and])⟩
theorem wk_law08_alive (V : Vw) (Rs : List At) (gl : Glb V) (ow : Ow V (Rs)) (r : Bool) (h : law08_alive = some r) : ∃ v V', Cl Tryd.prog NG 5 #[] V.H v V'.H ∧ V.le V' ∧ (v = .bool r ∧ Ow V' (Rs)) := by
 refine Ct.of gl.lo Tryd.func5 Z (nr Z) ?_
 unfold law08_alive at h
 refine WP.usreg Z ?_
 refine U.p Z Z (.inl Z) (S.assign Z K) ?_
 refine U.done (nr Z) ?_
 refine WP.usreg Z ?_
 refine U.p (v := .agg #[.int .i64 1, .int .i64 3, .int .i64 (-1), .int .i64 (-1), .int .i64 7, .slice none 0 0, .int .i64 0, .bool false, .bool false]) Z Z (.inl Z) (S.build (vs := [.int .i64 1, .int .i64 3, .int .i64 (-1), .int .i64 (-1), .int .i64 7]) Z ti30 Z pl30 (aC K (aC K (aC K (aC K (aC K aN))))) (allC (by simp [topV]) (allC (by simp [topV]) (allC (by simp [topV]) (allC (by simp [topV]) (allC (by simp [topV]) allN))))) Z) ?_
 obtain ⟨x1, hx2, h3⟩ := bindS h
 refine O.call (V := V) Z Z (.inl Z) Z en8 (aC (L 0 Z Z) aN) (wk_ir_Line V _ gl (⟨1, 3, (-1), (-1), 7, [], 0, false, false⟩ : TIns) (.slice none 0 0) Fz.nil ow _ hx2) (fun _ _ _ _ => nd) (fun v4 V5 le6 hp7 => ?_)
 obtain ⟨rfl, ow8⟩ := hp7
 refine U.p Z Z (.inl Z) (S.eqlS Z (L 0 Z Z) K) ?_
 refine U.p Z Z (.inl Z) (S.move Z (L 0 Z Z)) ?_
 refine U.p Z Z (.inl Z) (S.pickB Z (L 0 Z Z) K K) ?_
 refine U.p Z Z (.inl Z) (S.assign Z (L 0 Z Z)) ?_
 refine U.done (nr Z) ?_
 refine WP.ret ?_
 refine fin.slot (.inr Z) Z (L 0 Z Z) ⟨V5, Z, le6, ?_⟩
 have e9 := Option.some.inj h3
 subst e9
 exact ⟨rfl, ow8⟩
theorem wk_law08_great (V : Vw) (Rs : List At) (gl : Glb V) (p0 : TFunc) (v1 : Value) (f2 : Fz RT_TIns V v1 p0.code) (ow : Ow V (Rs)) (r : Bool) (h : law08_great p0 = some r) : ∃ v V', Cl Tryd.prog NG 6 #[.agg #[.string p0.name, .int .i64 p0.params, .int .i64 p0.regs, v1]] V.H v V'.H ∧ V.le V' ∧ (v = .bool r ∧ Ow V' (Rs)) := by
 refine Ct.of gl.lo Tryd.func6 Z (nr Z) ?_
 unfold law08_great at h
 refine WP.usreg Z ?_
 refine O.box ow Z Z (.inl Z) Z (L 0 Z Z) (by simp [topV]) Z nd (fun b3 V4 le5 ow6 => ?_)
 refine U.p Z Z (.inl Z) (S.assign Z K) ?_
 refine U.done (nr Z) ?_
 refine WP.seq ?_
 refine WP.usreg Z ?_
 refine U.p (v := .pointer (some ⟨b3, 3, none⟩)) Z Z (.inl Z) (S.fieldAddr Z (L 1 Z Z) Tryd.underlying24 Z ti22 Z Z) ?_
 refine U.k Z Z (.inl Z) (S.load Z (L 0 Z Z) Tryd.underlying22 Z ((ow6.own (k := 0) Z).cell Z)) nd ?_
 refine U.p Z Z (.inl Z) (f2.1.len Z (L 0 Z Z) Tryd.underlying22) ?_
 refine U.p Z Z (.inl Z) (S.move Z K) ?_
 refine U.done (nr Z) ?_
 refine WP.blk ?_
 unfold law08_great_l1 at h
 obtain ⟨n10, hn9⟩ := loopO_some.1 h
 refine WP.loopI2 (fun n l V' => ∃ (x8 : Int), l = [(1, .pointer (some ⟨b3, 0, none⟩)), (6, v1), (7, .int .i64 (p0.code.length : Int)), (8, .int .i64 x8)] ∧ V4.le V' ∧ Ow V' (.pt b3 (.cells 0 [.string p0.name, .int .i64 p0.params, .int .i64 p0.regs, v1]) :: Rs) ∧ itO (fun s => law08_great_l1b p0 s) n x8 = some r) n10 _ ⟨0, Z, .refl _, ow6, hn9⟩ (allCons (L 5 Z Z) (allCons (L 2 Z Z) (allCons (L 1 Z Z) (allCons (L 0 Z Z) allNil)))) ?_
 rintro _ _ V11 ⟨x8, rfl, le12, ow13, h17⟩
 obtain ⟨m14, q15, rfl, h18, e16⟩ := itS h17
 replace h18 : law08_great_l1b p0 x8 = some q15 := h18
 unfold law08_great_l1b at h18
 refine WP.usreg Z ?_
 refine U.p Z Z (.inl Z) (S.lss Z (L 3 Z Z) (L 2 Z Z)) ?_
 refine U.done (nr Z) ?_
 refine WP.seq ?_
 refine WP.cond _ (L 0 Z Z) Z (fun c19 => ?_) (fun c19 => ?_)
 ·have h20 := ifT c19 h18
  refine WP.skip ?_
  refine sqN ?_
  refine WP.seq ?_
  refine WP.blk ?_
  refine WP.usreg Z ?_
  obtain ⟨x21, hx22, h23⟩ := bindS h20
  obtain ⟨b24, o25, c26, cs27, hv28, hf29, hr30, hc31⟩ := f2.at hx22
  obtain ⟨v32, rfl, f33⟩ := hr30
  refine U.p Z Z (.inl Z) (S.index Z ((L 2 Z Z).trans hv28) (L 4 Z Z) Tryd.underlying22 ti30 (ix_ge hx22) (ix_lt hx22)) ?_
  refine U.k Z Z (.inl Z) (S.loadN (cs := [.int .i64 x21.op, .int .i64 x21.d, .int .i64 x21.a, .int .i64 x21.b, .int .i64 x21.imm, v32, .int .i64 x21.what, .bool x21.volatile, .bool x21.final]) Z (L 0 Z Z) Tryd.underlying30 Z ti30 Z (fun j v hj => (le5.trans le12).cell hf29 (hc31 j v hj))) nd ?_
  refine O.alloc ow13 Z Z (.inl Z) Z ti30 Z Z nd (fun b34 V35 le36 ow37 => ?_)
  refine O.store (k := 0) (cs := [.int .i64 x21.op, .int .i64 x21.d, .int .i64 x21.a, .int .i64 x21.b, .int .i64 x21.imm, v32, .int .i64 x21.what, .bool x21.volatile, .bool x21.final]) (c' := [.int .i64 x21.op, .int .i64 x21.d, .int .i64 x21.a, .int .i64 x21.b, .int .i64 x21.imm, v32, .int .i64 x21.what, .bool x21.volatile, .bool x21.final]) ow37 Z Z Z (.inl Z) Z (L 0 Z Z) (L 1 Z Z) ti30 (by simp [topV]) Z Z (nr Z) (by have q0 := f33.one; simp only [List.all_cons, List.all_nil, q0]; rfl) Z nd (fun V39 le40 ow41 => ?_)
  refine U.done (nr Z) ?_
  refine WP.usreg Z ?_
  refine U.p (v := .pointer (some ⟨b34, 5, none⟩)) Z Z (.inl Z) (S.fieldAddr Z (L 0 Z Z) Tryd.underlying30 Z ti28 Z Z) ?_
  refine U.k Z Z (.inl Z) (S.load Z (L 0 Z Z) Tryd.underlying28 Z ((ow41.own (k := 0) Z).cell Z)) nd ?_
  refine U.p Z Z (.inl Z) (f33.1.len Z (L 0 Z Z) Tryd.underlying28) ?_
  refine U.p Z Z (.inl Z) (S.gtr Z (L 0 Z Z) K) ?_
  refine U.done (nr Z) ?_
  refine WP.cond _ (L 0 Z Z) Z (fun c42 => ?_) (fun c42 => ?_)
  ·have h43 := ifT c42 h23
   refine WP.usreg Z ?_
   refine U.p Z Z (.inl Z) (S.assign Z K) ?_
   refine U.done (nr Z) ?_
   refine WP.ret ?_
   refine blkR (sqR (sqR (blkR (sqR ?_))))
   have h44 := exitS h43 e16
   refine fin.slot (.inr Z) Z (L 0 Z Z) ⟨V39, Z, (((le5.trans le12).trans le36).trans le40), ?_⟩
   have ow45 := ow41.drop 0 Z
   have ow46 := ow45.drop 0 Z
   have e47 := Option.some.inj h44
   subst e47
   exact ⟨rfl, ow46⟩
  ·have h48 := ifF c42 h23
   refine WP.skip ?_
   refine blkN (sqN ?_)
   refine WP.ureg Z ?_
   refine U.p Z Z (.inl Z) (S.add Z (L 11 Z Z) K) ?_
   refine U.p Z Z (.inl Z) (S.move Z (L 0 Z Z)) ?_
   refine U.done (nr Z) ?_
   refine sqN ?_
   have ow49 := ow41.drop 0 Z
   exact ⟨_, V39, Z, ⟨m14, Nat.lt_succ_self _, w64 (x8 + 1), Z, ((le12.trans le36).trans le40), ow49, backS h48 e16⟩, (allCons (L 10 Z Z) (allCons (L 11 Z Z) (allCons (L 12 Z Z) (allCons (L 0 Z Z) allNil))))⟩
 ·have h50 := ifF c19 h18
  refine WP.exit ?_
  refine sqE (sqE (blkE (sqN ?_)))
  have h51 := exitS h50 e16
  refine WP.usreg Z ?_
  refine U.p (v := .pointer (some ⟨b3, 3, none⟩)) Z Z (.inl Z) (S.fieldAddr Z (L 1 Z Z) Tryd.underlying24 Z ti22 Z Z) ?_
  refine U.k Z Z (.inl Z) (S.load Z (L 0 Z Z) Tryd.underlying22 Z ((ow13.own (k := 0) Z).cell Z)) nd ?_
  refine U.p Z Z (.inl Z) (f2.1.len Z (L 0 Z Z) Tryd.underlying22) ?_
  refine U.p Z Z (.inl Z) (S.gtr Z (L 0 Z Z) K) ?_
  refine U.p Z Z (.inl Z) (S.move Z (L 0 Z Z)) ?_
  refine U.joinX 10 (fun e H => ∃ (u52 u53 u54 u55 : Value), H = V11.H ∧ e = [(26, .bool ((decide (60 < (p0.code.length : Int))) || (decide (200 < (p0.name.size : Int))))), (25, u52), (24, u53), (23, u54), (22, u55)]) ?_ ?_
  ·rintro _ _ ⟨u52, u53, u54, u55, rfl, rfl⟩
   refine U.p Z Z (.inl Z) (S.assign Z (L 0 Z Z)) ?_
   refine U.done (nr Z) ?_
   refine WP.ret ?_
   refine fin.slot (.inr Z) Z (L 0 Z Z) ⟨V11, Z, (le5.trans le12), ?_⟩
   have ow59 := ow13.drop 0 Z
   have e60 := Option.some.inj h51
   subst e60
   exact ⟨rfl, ow59⟩
  ·intro kk
   refine bcase (b := decide (60 < (p0.code.length : Int))) (fun g61 => ?_) (fun g61 => ?_)
   ·skip
    refine U.x Z Z Z Z ((L 0 Z Z).trans (cB g61)) (by decide) ?_
    refine U.x Z Z Z Z ((L 1 Z Z).trans (cB g61)) (by decide) ?_
    refine U.x Z Z Z Z ((L 2 Z Z).trans (cB g61)) (by decide) ?_
    refine U.x Z Z Z Z ((L 3 Z Z).trans (cB g61)) (by decide) ?_
    refine U.p Z Z (.inl Z) (S.pickT Z ((L 4 Z Z).trans (cB g61)) K) ?_
    exact kk [(26, .bool true), (25, .tuple #[]), (24, .tuple #[]), (23, .tuple #[]), (22, .tuple #[])] _ ⟨.tuple #[], .tuple #[], .tuple #[], .tuple #[], Z, (by rw [g61, Bool.true_or])⟩
   ·skip
    refine U.p (v := .pointer (some ⟨b3, 0, none⟩)) Z Z (.inr ⟨_, _, _, Z, Z, ((L 0 Z Z).trans (cB g61))⟩) (S.fieldAddr Z (L 6 Z Z) Tryd.underlying24 Z ti9 Z Z) ?_
    refine U.k Z Z (.inr ⟨_, _, _, Z, Z, ((L 1 Z Z).trans (cB g61))⟩) (S.load Z (L 0 Z Z) Tryd.underlying9 Z ((ow13.own (k := 0) Z).cell Z)) nd ?_
    refine U.p Z Z (.inr ⟨_, _, _, Z, Z, ((L 2 Z Z).trans (cB g61))⟩) (S.lenStr Z (L 0 Z Z) Tryd.underlying9) ?_
    refine U.p Z Z (.inr ⟨_, _, _, Z, Z, ((L 3 Z Z).trans (cB g61))⟩) (S.gtr Z (L 0 Z Z) K) ?_
    refine U.p Z Z (.inl Z) (S.pickF Z ((L 4 Z Z).trans (cB g61)) (L 0 Z Z)) ?_
    exact kk [(26, .bool (decide (200 < (p0.name.size : Int)))), (25, .bool (decide (200 < (p0.name.size : Int)))), (24, .int .i64 (p0.name.size : Int)), (23, .string p0.name), (22, .pointer (some ⟨b3, 0, none⟩))] _ ⟨.bool (decide (200 < (p0.name.size : Int))), .int .i64 (p0.name.size : Int), .string p0.name, .pointer (some ⟨b3, 0, none⟩), Z, (by rw [g61, Bool.false_or])⟩
theorem wk_ref08_Line (V : Vw) (Rs : List At) (gl : Glb V) (p0 : TIns) (v1 : Value) (f2 : Fz (RT.int .i64) V v1 p0.args) (ow : Ow V (Rs)) (r : ByteArray) (h : ref08_Line p0 = some r) : ∃ v V', Cl Tryd.prog NG 7 #[.agg #[.int .i64 p0.op, .int .i64 p0.d, .int .i64 p0.a, .int .i64 p0.b, .int .i64 p0.imm, v1, .int .i64 p0.what, .bool p0.volatile, .bool p0.final]] V.H v V'.H ∧ V.le V' ∧ (v = .string r ∧ Ow V' (Rs)) := by
 refine Ct.of gl.lo Tryd.func7 Z (nr Z) ?_
 unfold ref08_Line at h
 refine WP.usreg Z ?_
 refine O.box ow Z Z (.inl Z) Z (L 0 Z Z) (by simp [topV]) Z nd (fun b3 V4 le5 ow6 => ?_)
 refine U.p Z Z (.inl Z) (S.assign Z K) ?_
 refine U.done (nr Z) ?_
 refine WP.usreg Z ?_
 refine U.p Z Z (.inl Z) (S.assign Z K) ?_
 refine U.done (nr Z) ?_
 refine WP.usreg Z ?_
 refine O.lit (R := RT.str) ow6 Z Z (.inl Z) Z Tryd.underlying37 ti9 Z Z Z (nr Z) Z (aC K (aC K (aC K (aC K (aC K (aC K (aC K (aC K (aC K (aC K (aC K (aC K (aC K (aC K (aC K (aC K (aC K (aC K (aC K (aC K (aC K (aC K aN)))))))))))))))))))))) (.cons _ _ str2 _ (by simp [topV]) Z (.cons _ _ str3 _ (by simp [topV]) Z (.cons _ _ str4 _ (by simp [topV]) Z (.cons _ _ str5 _ (by simp [topV]) Z (.cons _ _ str6 _ (by simp [topV]) Z (.cons _ _ str7 _ (by simp [topV]) Z (.cons _ _ str8 _ (by simp [topV]) Z (.cons _ _ str9 _ (by simp [topV]) Z (.cons _ _ str10 _ (by simp [topV]) Z (.cons _ _ str11 _ (by simp [topV]) Z (.cons _ _ str12 _ (by simp [topV]) Z (.cons _ _ str13 _ (by simp [topV]) Z (.cons _ _ str14 _ (by simp [topV]) Z (.cons _ _ str15 _ (by simp [topV]) Z (.cons _ _ str16 _ (by simp [topV]) Z (.cons _ _ str17 _ (by simp [topV]) Z (.cons _ _ str18 _ (by simp [topV]) Z (.cons _ _ str19 _ (by simp [topV]) Z (.cons _ _ str20 _ (by simp [topV]) Z (.cons _ _ str21 _ (by simp [topV]) Z (.cons _ _ str22 _ (by simp [topV]) Z (.cons _ _ str23 _ (by simp [topV]) Z .nil)))))))))))))))))))))) (fun _ => nd) (fun v8 V9 le10 ow11 => ?_)
 refine U.p Z Z (.inl Z) (S.assign Z (L 0 Z Z)) ?_
 refine U.done (nr Z) ?_
 refine WP.seqI (fun l V' => ∃ (x13 : ByteArray), l = [(1, .pointer (some ⟨b3, 0, none⟩)), (3, .string x13)] ∧ V9.le V' ∧ Ow V' (.pt b3 (.cells 0 [.int .i64 p0.op, .int .i64 p0.d, .int .i64 p0.a, .int .i64 p0.b, .int .i64 p0.imm, v1, .int .i64 p0.what, .bool p0.volatile, .bool p0.final]) :: Rs) ∧ ref08_Line_k1 p0 x13 = some r) ?_ ?_
 ·rintro _ V14 ⟨x13, rfl, le15, ow16, h17⟩
  unfold ref08_Line_k1 at h17
  refine WP.seq ?_
  refine WP.usreg Z ?_
  refine U.p (v := .pointer (some ⟨b3, 1, none⟩)) Z Z (.inl Z) (S.fieldAddr Z (L 0 Z Z) Tryd.underlying30 Z ti3 Z Z) ?_
  refine U.k Z Z (.inl Z) (S.load Z (L 0 Z Z) Tryd.underlying3 Z ((ow16.own (k := 0) Z).cell Z)) nd ?_
  refine U.p (v := .pointer (some ⟨b3, 2, none⟩)) Z Z (.inl Z) (S.fieldAddr Z (L 2 Z Z) Tryd.underlying30 Z ti3 Z Z) ?_
  refine U.k Z Z (.inl Z) (S.load Z (L 0 Z Z) Tryd.underlying3 Z ((ow16.own (k := 0) Z).cell Z)) nd ?_
  refine U.p (v := .pointer (some ⟨b3, 3, none⟩)) Z Z (.inl Z) (S.fieldAddr Z (L 4 Z Z) Tryd.underlying30 Z ti3 Z Z) ?_
  refine U.k Z Z (.inl Z) (S.load Z (L 0 Z Z) Tryd.underlying3 Z ((ow16.own (k := 0) Z).cell Z)) nd ?_
  refine O.lit (R := (RT.int .i64)) ow16 Z Z (.inl Z) Z Tryd.underlying28 ti3 Z Z Z (nr Z) Z (aC (L 4 Z Z) (aC (L 2 Z Z) (aC (L 0 Z Z) aN))) (.cons _ _ p0.d _ (by simp [topV]) Z (.cons _ _ p0.a _ (by simp [topV]) Z (.cons _ _ p0.b _ (by simp [topV]) Z .nil))) (fun _ => nd) (fun v18 V19 le20 ow21 => ?_)
  refine U.p (v := .pointer (some ⟨b3, 5, none⟩)) Z Z (.inl Z) (S.fieldAddr Z (L 7 Z Z) Tryd.underlying30 Z ti28 Z Z) ?_
  refine U.k Z Z (.inl Z) (S.load Z (L 0 Z Z) Tryd.underlying28 Z ((ow21.own (k := 1) Z).cell Z)) nd ?_
  have f23 := f2.up (((le5.trans le10).trans le15).trans le20)
  obtain ⟨xs24, hx25, h26⟩ := bindS h17
  refine O.appendK (L := 17592186044416) (k := 0) ow21 Z Z Z (.inl Z) Z (L 2 Z Z) (L 0 Z Z) Tryd.underlying28 ti3 Z Z (by decide) (f23.src Tryd.underlying28) hx25 (fun _ _ => nd) (fun v27 V28 le29 ow30 => ?_)
  refine U.p Z Z (.inl Z) (ow30.oslen (k := 0) Z Z (L 0 Z Z) Tryd.underlying28) ?_
  refine U.p Z Z (.inl Z) (S.move Z K) ?_
  refine U.done (nr Z) ?_
  refine WP.blk ?_
  have ow34 := ow30.pick 0 Z
  have ow35 := ow34.pick 1 Z
  unfold ref08_Line_l1 at h26
  obtain ⟨n37, hn36⟩ := loopO_some.1 h26
  refine WP.loopI2 (fun n l V' => ∃ (x32 : ByteArray) (x33 : Int), l = [(1, .pointer (some ⟨b3, 0, none⟩)), (3, .string x32), (31, v27), (32, .int .i64 (xs24.length : Int)), (33, .int .i64 x33)] ∧ V28.le V' ∧ Ow V' (.pt b3 (.cells 0 [.int .i64 p0.op, .int .i64 p0.d, .int .i64 p0.a, .int .i64 p0.b, .int .i64 p0.imm, v1, .int .i64 p0.what, .bool p0.volatile, .bool p0.final]) :: .os (RT.int .i64) v27 xs24 :: Rs) ∧ itO (fun s => ref08_Line_l1b p0 xs24 s.1 s.2) n (x32, x33) = some r) n37 _ ⟨x13, 0, Z, .refl _, ow35, hn36⟩ (allCons (L 12 Z Z) (allCons (L 13 Z Z) (allCons (L 2 Z Z) (allCons (L 1 Z Z) (allCons (L 0 Z Z) allNil))))) ?_
  rintro _ _ V38 ⟨x32, x33, rfl, le39, ow40, h44⟩
  obtain ⟨m41, q42, rfl, h45, e43⟩ := itS h44
  replace h45 : ref08_Line_l1b p0 xs24 x32 x33 = some q42 := h45
  unfold ref08_Line_l1b at h45
  refine WP.usreg Z ?_
  refine U.p Z Z (.inl Z) (S.lss Z (L 4 Z Z) (L 3 Z Z)) ?_
  refine U.done (nr Z) ?_
  refine WP.seq ?_
  refine WP.cond _ (L 0 Z Z) Z (fun c46 => ?_) (fun c46 => ?_)
  ·have h47 := ifT c46 h45
   refine WP.skip ?_
   refine sqN ?_
   refine WP.seqI (fun l V' => ∃ (x48 : ByteArray), l = [(1, .pointer (some ⟨b3, 0, none⟩)), (3, .string x48), (31, v27), (32, .int .i64 (xs24.length : Int)), (33, .int .i64 x33)] ∧ V38.le V' ∧ Ow V' (.pt b3 (.cells 0 [.int .i64 p0.op, .int .i64 p0.d, .int .i64 p0.a, .int .i64 p0.b, .int .i64 p0.imm, v1, .int .i64 p0.what, .bool p0.volatile, .bool p0.final]) :: .os (RT.int .i64) v27 xs24 :: Rs) ∧ ref08_Line_k2 x33 x48 = some q42) ?_ ?_
   ·rintro _ V49 ⟨x48, rfl, le50, ow51, h52⟩
    unfold ref08_Line_k2 at h52
    refine WP.ureg Z ?_
    refine U.p Z Z (.inl Z) (S.add Z (L 4 Z Z) K) ?_
    refine U.p Z Z (.inl Z) (S.move Z (L 0 Z Z)) ?_
    refine U.done (nr Z) ?_
    refine sqN ?_
    exact ⟨_, V49, Z, ⟨m41, Nat.lt_succ_self _, x48, w64 (x33 + 1), Z, (le39.trans le50), ow51, backS h52 e43⟩, (allCons (L 2 Z Z) (allCons (L 3 Z Z) (allCons (L 4 Z Z) (allCons (L 5 Z Z) (allCons (L 0 Z Z) allNil)))))⟩
   ·skip
    refine WP.blk ?_
    refine WP.usreg Z ?_
    obtain ⟨x53, hx54, h55⟩ := bindS h47
    obtain ⟨b56, o57, n58, c59, hv60⟩ := ow40.ospt (k := 1) Z hx54
    obtain ⟨_, hv61, _⟩ := ow40.osel (k := 1) Z hv60 hx54
    refine U.p Z Z (.inl Z) (S.index Z ((L 3 Z Z).trans hv61) (L 5 Z Z) Tryd.underlying28 ti3 (ix_ge hx54) (ix_lt hx54)) ?_
    obtain ⟨cs62, hv63, hlt64, hr65, hc66⟩ := ow40.osel (k := 1) Z hv60 hx54
    obtain rfl : cs62 = [.int .i64 x53] := hr65
    refine U.k Z Z (.inl Z) (S.load Z (L 0 Z Z) Tryd.underlying3 Z (hc66 0 _ Z)) nd ?_
    refine U.p Z Z (.inl Z) (S.assign Z (L 0 Z Z)) ?_
    refine U.done (nr Z) ?_
    refine WP.usreg Z ?_
    refine U.p Z Z (.inl Z) (S.move Z (L 0 Z Z)) ?_
    refine U.p Z Z (.inl Z) (S.geq Z (L 0 Z Z) K) ?_
    refine U.done (nr Z) ?_
    refine WP.cond _ (L 0 Z Z) Z (fun c67 => ?_) (fun c67 => ?_)
    ·have h68 := ifT c67 h55
     refine WP.ureg Z ?_
     refine U.p Z Z (.inl Z) (S.move Z (L 7 Z Z)) ?_
     obtain ⟨x69, hx70, h71⟩ := bindS h68
     refine U.p Z Z (.inl Z) (S.addS hx70 Z (L 0 Z Z) K) ?_
     refine U.p Z Z (.inl Z) (S.move Z (L 4 Z Z)) ?_
     obtain ⟨x72, hx73, h74⟩ := bindS h71
     refine O.call (V := V38) Z Z (.inl Z) Z en12 (aC (L 0 Z Z) aN) (wk_strconv_Itoa V38 _ (gl.up (((((le5.trans le10).trans le15).trans le20).trans le29).trans le39)) x53 ow40 _ hx73) (fun _ _ _ _ => nd) (fun v75 V76 le77 hp78 => ?_)
     obtain ⟨rfl, ow79⟩ := hp78
     obtain ⟨x80, hx81, h82⟩ := bindS h74
     refine U.p Z Z (.inl Z) (S.addS hx81 Z (L 2 Z Z) (L 0 Z Z)) ?_
     refine U.p Z Z (.inl Z) (S.assign Z (L 0 Z Z)) ?_
     refine U.done (nr Z) ?_
     refine blkN (sqN ?_)
     exact ⟨_, V76, Z, ⟨x80, Z, le77, ow79, h82⟩, (allCons (L 12 Z Z) (allCons (L 0 Z Z) (allCons (L 14 Z Z) (allCons (L 15 Z Z) (allCons (L 16 Z Z) allNil)))))⟩
    ·have h83 := ifF c67 h55
     refine WP.skip ?_
     refine blkN (sqN ?_)
     exact ⟨_, V38, Z, ⟨x32, Z, (.refl _), ow40, h83⟩, (allCons (L 6 Z Z) (allCons (L 7 Z Z) (allCons (L 8 Z Z) (allCons (L 9 Z Z) (allCons (L 10 Z Z) allNil)))))⟩
  ·have h84 := ifF c46 h45
   refine WP.exit ?_
   refine sqE (sqE (blkE (sqN ?_)))
   have h85 := exitS h84 e43
   refine WP.usreg Z ?_
   refine U.p Z Z (.inl Z) (S.move Z (L 2 Z Z)) ?_
   obtain ⟨x86, hx87, h88⟩ := bindS h85
   refine U.p Z Z (.inl Z) (S.addS hx87 Z (L 0 Z Z) K) ?_
   refine U.p (v := .pointer (some ⟨b3, 4, none⟩)) Z Z (.inl Z) (S.fieldAddr Z (L 3 Z Z) Tryd.underlying30 Z ti3 Z Z) ?_
   refine U.k Z Z (.inl Z) (S.load Z (L 0 Z Z) Tryd.underlying3 Z ((ow40.own (k := 0) Z).cell Z)) nd ?_
   obtain ⟨x89, hx90, h91⟩ := bindS h88
   refine O.call (V := V38) Z Z (.inl Z) Z en12 (aC (L 0 Z Z) aN) (wk_strconv_Itoa V38 _ (gl.up (((((le5.trans le10).trans le15).trans le20).trans le29).trans le39)) p0.imm ow40 _ hx90) (fun _ _ _ _ => nd) (fun v92 V93 le94 hp95 => ?_)
   obtain ⟨rfl, ow96⟩ := hp95
   obtain ⟨x97, hx98, h99⟩ := bindS h91
   refine U.p Z Z (.inl Z) (S.addS hx98 Z (L 3 Z Z) (L 0 Z Z)) ?_
   refine U.p Z Z (.inl Z) (S.assign Z (L 0 Z Z)) ?_
   refine U.done (nr Z) ?_
   refine WP.ret ?_
   refine fin.slot (.inr Z) Z (L 0 Z Z) ⟨V93, Z, ((((((le5.trans le10).trans le15).trans le20).trans le29).trans le39).trans le94), ?_⟩
   have ow100 := ow96.drop 0 Z
   have ow101 := ow100.drop 0 Z
   have e102 := Option.some.inj h99
   subst e102
   exact ⟨rfl, ow101⟩
 ·skip
  refine WP.usreg Z ?_
  refine U.p (v := .pointer (some ⟨b3, 0, none⟩)) Z Z (.inl Z) (S.fieldAddr Z (L 4 Z Z) Tryd.underlying30 Z ti3 Z Z) ?_
  refine U.k Z Z (.inl Z) (S.load Z (L 0 Z Z) Tryd.underlying3 Z ((ow11.own (k := 1) Z).cell Z)) nd ?_
  refine U.p Z Z (.inl Z) (S.geq Z (L 0 Z Z) K) ?_
  refine U.p Z Z (.inl Z) (S.move Z (L 0 Z Z)) ?_
  refine U.joinX 8 (fun e H => ∃ (u103 u104 u105 : Value), H = V9.H ∧ e = [(15, .bool ((decide (1 ≤ p0.op)) && (decide (p0.op ≤ 22)))), (14, u103), (13, u104), (12, u105)]) ?_ ?_
  ·rintro _ _ ⟨u103, u104, u105, rfl, rfl⟩
   refine U.done (nr Z) ?_
   refine WP.cond _ (L 0 Z Z) Z (fun c109 => ?_) (fun c109 => ?_)
   ·have h110 := ifT c109 h
    refine WP.ureg Z ?_
    refine U.p Z Z (.inl Z) (S.move Z (L 8 Z Z)) ?_
    refine U.p (v := .pointer (some ⟨b3, 0, none⟩)) Z Z (.inl Z) (S.fieldAddr Z (L 13 Z Z) Tryd.underlying30 Z ti3 Z Z) ?_
    refine U.k Z Z (.inl Z) (S.load Z (L 0 Z Z) Tryd.underlying3 Z ((ow11.own (k := 1) Z).cell Z)) nd ?_
    refine U.p Z Z (.inl Z) (S.sub Z (L 0 Z Z) K) ?_
    obtain ⟨x111, hx112, h113⟩ := bindS h110
    obtain ⟨b114, o115, n116, c117, hv118⟩ := ow11.ospt (k := 0) Z hx112
    obtain ⟨_, hv119, _⟩ := ow11.osel (k := 0) Z hv118 hx112
    refine U.p Z Z (.inl Z) (S.index Z ((L 3 Z Z).trans hv119) (L 0 Z Z) Tryd.underlying37 ti9 (ix_ge hx112) (ix_lt hx112)) ?_
    obtain ⟨cs120, hv121, hlt122, hr123, hc124⟩ := ow11.osel (k := 0) Z hv118 hx112
    obtain rfl : cs120 = [.string x111] := hr123
    refine U.k Z Z (.inl Z) (S.load Z (L 0 Z Z) Tryd.underlying9 Z (hc124 0 _ Z)) nd ?_
    refine U.p Z Z (.inl Z) (S.assign Z (L 0 Z Z)) ?_
    refine U.done (nr Z) ?_
    refine sqN ?_
    have ow125 := ow11.drop 0 Z
    exact ⟨_, V9, Z, ⟨x111, Z, (.refl _), ow125, h113⟩, (allCons (L 19 Z Z) (allCons (L 0 Z Z) allNil))⟩
   ·have h126 := ifF c109 h
    refine WP.skip ?_
    refine sqN ?_
    have ow127 := ow11.drop 0 Z
    exact ⟨_, V9, Z, ⟨str1, Z, (.refl _), ow127, h126⟩, (allCons (L 12 Z Z) (allCons (L 10 Z Z) allNil))⟩
  ·intro kk
   refine bcase (b := decide (1 ≤ p0.op)) (fun g128 => ?_) (fun g128 => ?_)
   ·skip
    refine U.p (v := .pointer (some ⟨b3, 0, none⟩)) Z Z (.inr ⟨_, _, _, Z, Z, ((L 0 Z Z).trans (cB g128))⟩) (S.fieldAddr Z (L 8 Z Z) Tryd.underlying30 Z ti3 Z Z) ?_
    refine U.k Z Z (.inr ⟨_, _, _, Z, Z, ((L 1 Z Z).trans (cB g128))⟩) (S.load Z (L 0 Z Z) Tryd.underlying3 Z ((ow11.own (k := 1) Z).cell Z)) nd ?_
    refine U.p Z Z (.inr ⟨_, _, _, Z, Z, ((L 2 Z Z).trans (cB g128))⟩) (S.leq Z (L 0 Z Z) K) ?_
    refine U.p Z Z (.inl Z) (S.pickT Z ((L 3 Z Z).trans (cB g128)) (L 0 Z Z)) ?_
    exact kk [(15, .bool (decide (p0.op ≤ 22))), (14, .bool (decide (p0.op ≤ 22))), (13, .int .i64 p0.op), (12, .pointer (some ⟨b3, 0, none⟩))] _ ⟨.bool (decide (p0.op ≤ 22)), .int .i64 p0.op, .pointer (some ⟨b3, 0, none⟩), Z, (by rw [g128, Bool.true_and])⟩
   ·skip
    refine U.x Z Z Z Z ((L 0 Z Z).trans (cB g128)) (by decide) ?_
    refine U.x Z Z Z Z ((L 1 Z Z).trans (cB g128)) (by decide) ?_
    refine U.x Z Z Z Z ((L 2 Z Z).trans (cB g128)) (by decide) ?_
    refine U.p Z Z (.inl Z) (S.pickF Z ((L 3 Z Z).trans (cB g128)) K) ?_
    exact kk [(15, .bool false), (14, .tuple #[]), (13, .tuple #[]), (12, .tuple #[])] _ ⟨.tuple #[], .tuple #[], .tuple #[], Z, (by rw [g128, Bool.false_and])⟩
theorem wk_strings_Builder_WriteString (V : Vw) (Rs : List At) (gl : Glb V) (p0 : ByteArray) (p1 : ByteArray) (b1 : Nat) (ow : Ow V (.bd 44 5 b1 p0 :: Rs)) (r : ByteArray) (h : strings_Builder_WriteString p0 p1 = some r) : ∃ v V', Cl Tryd.prog NG 14 #[.pointer (some ⟨b1, 0, none⟩), .string p1] V.H v V'.H ∧ V.le V' ∧ (∃ (v3 : Value) (v4 : Value), v = .tuple #[v3, v4] ∧ Ow V' (.bd 44 5 b1 r :: Rs)) := by
 unfold strings_Builder_WriteString at h
 exact bw_cl (fun wb p v cs w hp hB hl => bw_calls { Tryd.lays156 with } Tryd.Builder_Extra_156 hp hB p1 hl) ow h
theorem wk_strings_Builder_String (V : Vw) (Rs : List At) (gl : Glb V) (p0 : ByteArray) (b1 : Nat) (ow : Ow V (.bd 44 5 b1 p0 :: Rs)) (r : ByteArray) (h : strings_Builder_String p0 = some r) : ∃ v V', Cl Tryd.prog NG 15 #[.pointer (some ⟨b1, 0, none⟩)] V.H v V'.H ∧ V.le V' ∧ (v = .string r ∧ Ow V' (Rs)) := by
 unfold strings_Builder_String at h
 exact bs_cl (fun wb p v l w hB h0 => bs_calls { Tryd.lays156 with } Tryd.Builder_Extra_156 hB h0) ow h
theorem wk_ir_Text (V : Vw) (Rs : List At) (gl : Glb V) (p0 : TFunc) (v1 : Value) (f2 : Fz RT_TIns V v1 p0.code) (ow : Ow V (Rs)) (r : ByteArray) (h : ir_Text p0 = some r) : ∃ v V', Cl Tryd.prog NG 9 #[.agg #[.string p0.name, .int .i64 p0.params, .int .i64 p0.regs, v1]] V.H v V'.H ∧ V.le V' ∧ (v = .string r ∧ Ow V' (Rs)) := by
 refine Ct.of gl.lo Tryd.func9 Z (nr Z) ?_
 unfold ir_Text at h
 refine WP.usreg Z ?_
 refine O.box ow Z Z (.inl Z) Z (L 0 Z Z) (by simp [topV]) Z nd (fun b3 V4 le5 ow6 => ?_)
 refine U.p Z Z (.inl Z) (S.assign Z K) ?_
 refine U.done (nr Z) ?_
 refine WP.usreg Z ?_
 refine O.allocB (e := 5) ow6 Z Z (.inl Z) Z ti44 nd (fun b8 V9 le10 ow11 => ?_)
 refine U.done (nr Z) ?_
 refine WP.usdreg Z Z Z ?_
 refine U.p (v := .pointer (some ⟨b3, 0, none⟩)) Z Z (.inl Z) (S.fieldAddr Z (L 2 Z Z) Tryd.underlying24 Z ti9 Z Z) ?_
 refine U.k Z Z (.inl Z) (S.load Z (L 0 Z Z) Tryd.underlying9 Z ((ow11.own (k := 1) Z).cell Z)) (fun _ => (okH.nil (fun r h => by cases h; exact (ow11.own (k := 1) Z).lt))) ?_
 obtain ⟨x13, hx14, h15⟩ := bindS h
 refine U.p Z Z (.inl Z) (S.addS hx14 Z (L 0 Z Z) K) ?_
 refine U.p (v := .pointer (some ⟨b3, 1, none⟩)) Z Z (.inl Z) (S.fieldAddr Z (L 5 Z Z) Tryd.underlying24 Z ti3 Z Z) ?_
 refine U.k Z Z (.inl Z) (S.load Z (L 0 Z Z) Tryd.underlying3 Z ((ow11.own (k := 1) Z).cell Z)) (fun _ => (okH.cons trivial (okH.nil (fun r h => by cases h; exact (ow11.own (k := 1) Z).lt)))) ?_
 obtain ⟨x16, hx17, h18⟩ := bindS h15
 refine O.call (V := V9) Z Z (.inl Z) Z en12 (aC (L 0 Z Z) aN) (wk_strconv_Itoa V9 _ (gl.up (le5.trans le10)) p0.params ow11 _ hx17) (fun v19 V20 le21 hp22 => by obtain ⟨rfl, ow23⟩ := hp22; exact (fun _ => (okH.cons (Or.inl Z) (okH.cons (Or.inr (((ow23.own (k := 1) Z).get.trans (ow11.own (k := 1) Z).get.symm))) (okH.nil (fun r h => nomatch h)))))) (fun v19 V20 le21 hp22 => ?_)
 obtain ⟨rfl, ow23⟩ := hp22
 obtain ⟨x24, hx25, h26⟩ := bindS h18
 refine U.p Z Z (.inl Z) (S.addS hx25 Z (L 3 Z Z) (L 0 Z Z)) ?_
 obtain ⟨x27, hx28, h29⟩ := bindS h26
 refine U.p Z Z (.inl Z) (S.addS hx28 Z (L 0 Z Z) K) ?_
 refine U.p (v := .pointer (some ⟨b3, 2, none⟩)) Z Z (.inl Z) (S.fieldAddr Z (L 10 Z Z) Tryd.underlying24 Z ti3 Z Z) ?_
 refine U.k Z Z (.inl Z) (S.load Z (L 0 Z Z) Tryd.underlying3 Z ((ow23.own (k := 1) Z).cell Z)) (fun _ => (okH.cons (Or.inr (Or.inl ((ow23.own (k := 1) Z).get.trans (ow11.own (k := 1) Z).get.symm))) (okH.cons trivial (okH.cons trivial (okH.nil (fun r h => by cases h; exact (ow23.own (k := 1) Z).lt)))))) ?_
 obtain ⟨x30, hx31, h32⟩ := bindS h29
 refine O.call (V := V20) Z Z (.inl Z) Z en12 (aC (L 0 Z Z) aN) (wk_strconv_Itoa V20 _ (gl.up ((le5.trans le10).trans le21)) p0.regs ow23 _ hx31) (fun v33 V34 le35 hp36 => by obtain ⟨rfl, ow37⟩ := hp36; exact (fun _ => (okH.cons (Or.inl Z) (okH.cons Z (okH.cons (Or.inl Z) (okH.cons (Or.inr (((ow37.own (k := 1) Z).get.trans (ow23.own (k := 1) Z).get.symm))) (okH.nil (fun r h => nomatch h)))))))) (fun v33 V34 le35 hp36 => ?_)
 obtain ⟨rfl, ow37⟩ := hp36
 obtain ⟨x38, hx39, h40⟩ := bindS h32
 refine U.p Z Z (.inl Z) (S.addS hx39 Z (L 3 Z Z) (L 0 Z Z)) ?_
 obtain ⟨x41, hx42, h43⟩ := bindS h40
 refine U.p Z Z (.inl Z) (S.addS hx42 Z (L 0 Z Z) K) ?_
 obtain ⟨x44, hx45, h46⟩ := bindS h43
 refine O.call (V := V34) Z Z (.inl Z) Z en14 (aC (L 13 Z Z) (aC (L 0 Z Z) aN)) (wk_strings_Builder_WriteString V34 _ (gl.up (((le5.trans le10).trans le21).trans le35)) ByteArray.empty x41 b8 ow37 _ hx45) (fun v47 V48 le49 hp50 => by obtain ⟨v52, v53, rfl, ow51⟩ := hp50; exact (fun _ => (okH.cons Z (okH.cons (Or.inl Z) (okH.cons Z (okH.cons (Or.inl Z) (okH.cons (Or.inl Z) (okH.nil (fun r h => nomatch h))))))))) (fun v47 V48 le49 hp50 => ?_)
 obtain ⟨v52, v53, rfl, ow51⟩ := hp50
 refine U.done (nr Z) ?_
 refine WP.seq ?_
 refine WP.usreg Z ?_
 refine U.p (v := .pointer (some ⟨b3, 3, none⟩)) Z Z (.inl Z) (S.fieldAddr Z (L 16 Z Z) Tryd.underlying24 Z ti22 Z Z) ?_
 refine U.k Z Z (.inl Z) (S.load Z (L 0 Z Z) Tryd.underlying22 Z ((ow51.own (k := 1) Z).cell Z)) nd ?_
 refine U.p Z Z (.inl Z) (f2.1.len Z (L 0 Z Z) Tryd.underlying22) ?_
 refine U.p Z Z (.inl Z) (S.move Z K) ?_
 refine U.done (nr Z) ?_
 refine WP.blk ?_
 have ow56 := ow51.drop 1 Z
 unfold ir_Text_l1 at h46
 obtain ⟨n58, hn57⟩ := loopO_some.1 h46
 refine WP.loopI2 (fun n l V' => ∃ (xs54 : ByteArray) (x55 : Int), l = [(3, .pointer (some ⟨b8, 0, none⟩)), (21, v1), (22, .int .i64 (p0.code.length : Int)), (23, .int .i64 x55)] ∧ V48.le V' ∧ Ow V' (.bd 44 5 b8 xs54 :: Rs) ∧ itO (fun s => ir_Text_l1b p0 s.1 s.2) n (xs54, x55) = some r) n58 _ ⟨x44, 0, Z, .refl _, ow56, hn57⟩ (allCons (L 18 Z Z) (allCons (L 2 Z Z) (allCons (L 1 Z Z) (allCons (L 0 Z Z) allNil)))) ?_
 rintro _ _ V59 ⟨xs54, x55, rfl, le60, ow61, h65⟩
 obtain ⟨m62, q63, rfl, h66, e64⟩ := itS h65
 replace h66 : ir_Text_l1b p0 xs54 x55 = some q63 := h66
 unfold ir_Text_l1b at h66
 refine WP.usreg Z ?_
 refine U.p Z Z (.inl Z) (S.lss Z (L 3 Z Z) (L 2 Z Z)) ?_
 refine U.done (nr Z) ?_
 refine WP.seq ?_
 refine WP.cond _ (L 0 Z Z) Z (fun c67 => ?_) (fun c67 => ?_)
 ·have h68 := ifT c67 h66
  refine WP.skip ?_
  refine sqN ?_
  refine WP.seq ?_
  refine WP.blk ?_
  refine WP.usreg Z ?_
  obtain ⟨x69, hx70, h71⟩ := bindS h68
  obtain ⟨b72, o73, c74, cs75, hv76, hf77, hr78, hc79⟩ := f2.at hx70
  obtain ⟨v80, rfl, f81⟩ := hr78
  refine U.p Z Z (.inl Z) (S.index Z ((L 2 Z Z).trans hv76) (L 4 Z Z) Tryd.underlying22 ti30 (ix_ge hx70) (ix_lt hx70)) ?_
  refine U.k Z Z (.inl Z) (S.loadN (cs := [.int .i64 x69.op, .int .i64 x69.d, .int .i64 x69.a, .int .i64 x69.b, .int .i64 x69.imm, v80, .int .i64 x69.what, .bool x69.volatile, .bool x69.final]) Z (L 0 Z Z) Tryd.underlying30 Z ti30 Z (fun j v hj => (((((le5.trans le10).trans le21).trans le35).trans le49).trans le60).cell hf77 (hc79 j v hj))) nd ?_
  refine O.alloc ow61 Z Z (.inl Z) Z ti30 Z Z nd (fun b82 V83 le84 ow85 => ?_)
  refine O.store (k := 0) (cs := [.int .i64 x69.op, .int .i64 x69.d, .int .i64 x69.a, .int .i64 x69.b, .int .i64 x69.imm, v80, .int .i64 x69.what, .bool x69.volatile, .bool x69.final]) (c' := [.int .i64 x69.op, .int .i64 x69.d, .int .i64 x69.a, .int .i64 x69.b, .int .i64 x69.imm, v80, .int .i64 x69.what, .bool x69.volatile, .bool x69.final]) ow85 Z Z Z (.inl Z) Z (L 0 Z Z) (L 1 Z Z) ti30 (by simp [topV]) Z Z (nr Z) (by have q0 := f81.one; simp only [List.all_cons, List.all_nil, q0]; rfl) Z nd (fun V87 le88 ow89 => ?_)
  refine U.done (nr Z) ?_
  refine WP.ureg Z ?_
  refine U.k Z Z (.inl Z) (S.loadB Z (L 0 Z Z) Tryd.underlying30 Z ti30 (ow89.own (k := 0) Z).get Z) nd ?_
  have f90 := f81.up (((((((le5.trans le10).trans le21).trans le35).trans le49).trans le60).trans le84).trans le88)
  obtain ⟨x91, hx92, h93⟩ := bindS h71
  refine O.call (V := V87) Z Z (.inl Z) Z en8 (aC (L 0 Z Z) aN) (wk_ir_Line V87 _ (gl.up (((((((le5.trans le10).trans le21).trans le35).trans le49).trans le60).trans le84).trans le88)) x69 v80 f90 ow89 _ hx92) (fun _ _ _ _ => nd) (fun v94 V95 le96 hp97 => ?_)
  obtain ⟨rfl, ow98⟩ := hp97
  obtain ⟨x99, hx100, h101⟩ := bindS h93
  refine U.p Z Z (.inl Z) (S.addS hx100 Z (L 0 Z Z) K) ?_
  have ow102 := ow98.pick 1 Z
  obtain ⟨x103, hx104, h105⟩ := bindS h101
  refine O.call (V := V95) Z Z (.inl Z) Z en14 (aC (L 7 Z Z) (aC (L 0 Z Z) aN)) (wk_strings_Builder_WriteString V95 _ (gl.up ((((((((le5.trans le10).trans le21).trans le35).trans le49).trans le60).trans le84).trans le88).trans le96)) xs54 x99 b8 ow102 _ hx104) (fun _ _ _ _ => nd) (fun v106 V107 le108 hp109 => ?_)
  obtain ⟨v111, v112, rfl, ow110⟩ := hp109
  refine U.done (nr Z) ?_
  refine blkN (sqN ?_)
  refine WP.ureg Z ?_
  refine U.p Z Z (.inl Z) (S.add Z (L 11 Z Z) K) ?_
  refine U.p Z Z (.inl Z) (S.move Z (L 0 Z Z)) ?_
  refine U.done (nr Z) ?_
  refine sqN ?_
  have ow113 := ow110.drop 1 Z
  exact ⟨_, V107, Z, ⟨m62, Nat.lt_succ_self _, x103, w64 (x55 + 1), Z, ((((le60.trans le84).trans le88).trans le96).trans le108), ow113, backS h105 e64⟩, (allCons (L 10 Z Z) (allCons (L 11 Z Z) (allCons (L 12 Z Z) (allCons (L 0 Z Z) allNil))))⟩
 ·have h114 := ifF c67 h66
  refine WP.exit ?_
  refine sqE (sqE (blkE (sqN ?_)))
  have h115 := exitS h114 e64
  refine WP.usreg Z ?_
  obtain ⟨x116, hx117, h118⟩ := bindS h115
  refine O.call (V := V59) Z Z (.inl Z) Z en15 (aC (L 1 Z Z) aN) (wk_strings_Builder_String V59 _ (gl.up (((((le5.trans le10).trans le21).trans le35).trans le49).trans le60)) xs54 b8 ow61 _ hx117) (fun _ _ _ _ => nd) (fun v119 V120 le121 hp122 => ?_)
  obtain ⟨rfl, ow123⟩ := hp122
  refine U.p Z Z (.inl Z) (S.assign Z (L 0 Z Z)) ?_
  refine U.done (nr Z) ?_
  refine WP.ret ?_
  refine fin.slot (.inr Z) Z (L 0 Z Z) ⟨V120, Z, ((((((le5.trans le10).trans le21).trans le35).trans le49).trans le60).trans le121), ?_⟩
  have e124 := Option.some.inj h118
  subst e124
  exact ⟨rfl, ow123⟩
theorem wk_law08_IrText (V : Vw) (Rs : List At) (gl : Glb V) (p0 : TFunc) (v1 : Value) (f2 : Fz RT_TIns V v1 p0.code) (ow : Ow V (Rs)) (r : Bool) (h : law08_IrText p0 = some r) : ∃ v V', Cl Tryd.prog NG 3 #[.agg #[.string p0.name, .int .i64 p0.params, .int .i64 p0.regs, v1]] V.H v V'.H ∧ V.le V' ∧ (v = .bool r ∧ Ow V' (Rs)) := by
 refine Ct.of gl.lo Tryd.func3 Z (nr Z) ?_
 unfold law08_IrText at h
 refine WP.usreg Z ?_
 refine O.box ow Z Z (.inl Z) Z (L 0 Z Z) (by simp [topV]) Z nd (fun b3 V4 le5 ow6 => ?_)
 refine U.p Z Z (.inl Z) (S.assign Z K) ?_
 refine U.done (nr Z) ?_
 refine WP.seq ?_
 refine WP.usreg Z ?_
 obtain ⟨x8, hx9, h10⟩ := bindS h
 refine O.call (V := V4) Z Z (.inl Z) Z en5 aN (wk_law08_alive V4 _ (gl.up le5) ow6 _ hx9) (fun _ _ _ _ => nd) (fun v11 V12 le13 hp14 => ?_)
 obtain ⟨rfl, ow15⟩ := hp14
 refine U.p Z Z (.inl Z) (S.not Z (L 0 Z Z)) ?_
 refine U.done (nr Z) ?_
 refine WP.cond _ (L 0 Z Z) Z (fun c16 => ?_) (fun c16 => ?_)
 ·have h17 := ifT c16 h10
  have k18 : x8 = false := nT c16
  refine WP.usreg Z ?_
  refine U.p Z Z (.inl Z) (S.assign Z K) ?_
  refine U.done (nr Z) ?_
  refine WP.ret ?_
  refine sqR ?_
  refine fin.slot (.inr Z) Z (L 0 Z Z) ⟨V12, Z, (le5.trans le13), ?_⟩
  have ow19 := ow15.drop 0 Z
  have e20 := Option.some.inj h17
  subst e20
  exact ⟨rfl, ow19⟩
 ·have h21 := ifF c16 h10
  have k22 : x8 = true := nF c16
  refine WP.skip ?_
  refine sqN ?_
  refine WP.seq ?_
  refine WP.usreg Z ?_
  refine U.k Z Z (.inl Z) (S.loadB Z (L 3 Z Z) Tryd.underlying24 Z ti24 (ow15.own (k := 0) Z).get Z) nd ?_
  have f23 := f2.up (le5.trans le13)
  obtain ⟨x24, hx25, h26⟩ := bindS h21
  refine O.call (V := V12) Z Z (.inl Z) Z en6 (aC (L 0 Z Z) aN) (wk_law08_great V12 _ (gl.up (le5.trans le13)) p0 v1 f23 ow15 _ hx25) (fun _ _ _ _ => nd) (fun v27 V28 le29 hp30 => ?_)
  obtain ⟨rfl, ow31⟩ := hp30
  refine U.done (nr Z) ?_
  refine WP.cond _ (L 0 Z Z) Z (fun c32 => ?_) (fun c32 => ?_)
  ·have h33 := ifT c32 h26
   refine WP.usreg Z ?_
   refine U.p Z Z (.inl Z) (S.assign Z K) ?_
   refine U.done (nr Z) ?_
   refine WP.ret ?_
   refine sqR ?_
   refine fin.slot (.inr Z) Z (L 0 Z Z) ⟨V28, Z, ((le5.trans le13).trans le29), ?_⟩
   have ow34 := ow31.drop 0 Z
   have e35 := Option.some.inj h33
   subst e35
   exact ⟨rfl, ow34⟩
  ·have h36 := ifF c32 h26
   refine WP.skip ?_
   refine sqN ?_
   refine WP.usdreg Z Z Z ?_
   refine U.p (v := .pointer (some ⟨b3, 0, none⟩)) Z Z (.inl Z) (S.fieldAddr Z (L 5 Z Z) Tryd.underlying24 Z ti9 Z Z) ?_
   refine U.k Z Z (.inl Z) (S.load Z (L 0 Z Z) Tryd.underlying9 Z ((ow31.own (k := 0) Z).cell Z)) (fun _ => (okH.nil (fun r h => by cases h; exact (ow31.own (k := 0) Z).lt))) ?_
   obtain ⟨x37, hx38, h39⟩ := bindS h36
   refine U.p Z Z (.inl Z) (S.addS hx38 Z (L 0 Z Z) K) ?_
   refine U.p (v := .pointer (some ⟨b3, 1, none⟩)) Z Z (.inl Z) (S.fieldAddr Z (L 8 Z Z) Tryd.underlying24 Z ti3 Z Z) ?_
   refine U.k Z Z (.inl Z) (S.load Z (L 0 Z Z) Tryd.underlying3 Z ((ow31.own (k := 0) Z).cell Z)) (fun _ => (okH.cons trivial (okH.nil (fun r h => by cases h; exact (ow31.own (k := 0) Z).lt)))) ?_
   refine U.p (v := .agg #[.int .i64 99, .int .i64 (-1), .int .i64 (-1), .int .i64 (-1), .int .i64 p0.params, .slice none 0 0, .int .i64 0, .bool false, .bool false]) Z Z (.inl Z) (S.build (vs := [.int .i64 99, .int .i64 (-1), .int .i64 (-1), .int .i64 (-1), .int .i64 p0.params]) Z ti30 Z pl30 (aC K (aC K (aC K (aC K (aC (L 0 Z Z) aN))))) (allC (by simp [topV]) (allC (by simp [topV]) (allC (by simp [topV]) (allC (by simp [topV]) (allC (by simp [topV]) allN))))) Z) ?_
   obtain ⟨x40, hx41, h42⟩ := bindS h39
   refine O.call (V := V28) Z Z (.inl Z) Z en7 (aC (L 0 Z Z) aN) (wk_ref08_Line V28 _ (gl.up ((le5.trans le13).trans le29)) (⟨99, (-1), (-1), (-1), p0.params, [], 0, false, false⟩ : TIns) (.slice none 0 0) Fz.nil ow31 _ hx41) (fun v43 V44 le45 hp46 => by obtain ⟨rfl, ow47⟩ := hp46; exact (fun _ => (okH.cons (Or.inl Z) (okH.cons (Or.inr (((ow47.own (k := 0) Z).get.trans (ow31.own (k := 0) Z).get.symm))) (okH.nil (fun r h => nomatch h)))))) (fun v43 V44 le45 hp46 => ?_)
   obtain ⟨rfl, ow47⟩ := hp46
   obtain ⟨sx48, hx49, h50⟩ := bindS h42
   refine U.p Z Z (.inl Z) (S.sliceStr hx49 Z (L 0 Z Z) Tryd.underlying9 ⟨.inr ⟨_, _, Z, K⟩, .inl ⟨rfl, Z⟩, .inl Z⟩ Z) ?_
   obtain ⟨x51, hx52, h53⟩ := bindS h50
   refine U.p Z Z (.inl Z) (S.addS hx52 Z (L 5 Z Z) (L 0 Z Z)) ?_
   obtain ⟨x54, hx55, h56⟩ := bindS h53
   refine U.p Z Z (.inl Z) (S.addS hx55 Z (L 0 Z Z) K) ?_
   refine U.p (v := .pointer (some ⟨b3, 2, none⟩)) Z Z (.inl Z) (S.fieldAddr Z (L 15 Z Z) Tryd.underlying24 Z ti3 Z Z) ?_
   refine U.k Z Z (.inl Z) (S.load Z (L 0 Z Z) Tryd.underlying3 Z ((ow47.own (k := 0) Z).cell Z)) (fun _ => (okH.cons (Or.inr (Or.inl ((ow47.own (k := 0) Z).get.trans (ow31.own (k := 0) Z).get.symm))) (okH.cons trivial (okH.cons trivial (okH.nil (fun r h => by cases h; exact (ow47.own (k := 0) Z).lt)))))) ?_
   refine U.p (v := .agg #[.int .i64 99, .int .i64 (-1), .int .i64 (-1), .int .i64 (-1), .int .i64 p0.regs, .slice none 0 0, .int .i64 0, .bool false, .bool false]) Z Z (.inl Z) (S.build (vs := [.int .i64 99, .int .i64 (-1), .int .i64 (-1), .int .i64 (-1), .int .i64 p0.regs]) Z ti30 Z pl30 (aC K (aC K (aC K (aC K (aC (L 0 Z Z) aN))))) (allC (by simp [topV]) (allC (by simp [topV]) (allC (by simp [topV]) (allC (by simp [topV]) (allC (by simp [topV]) allN))))) Z) ?_
   obtain ⟨x57, hx58, h59⟩ := bindS h56
   refine O.call (V := V44) Z Z (.inl Z) Z en7 (aC (L 0 Z Z) aN) (wk_ref08_Line V44 _ (gl.up (((le5.trans le13).trans le29).trans le45)) (⟨99, (-1), (-1), (-1), p0.regs, [], 0, false, false⟩ : TIns) (.slice none 0 0) Fz.nil ow47 _ hx58) (fun v60 V61 le62 hp63 => by obtain ⟨rfl, ow64⟩ := hp63; exact (fun _ => (okH.cons (Or.inl Z) (okH.cons Z (okH.cons (Or.inl Z) (okH.cons (Or.inr (((ow64.own (k := 0) Z).get.trans (ow47.own (k := 0) Z).get.symm))) (okH.nil (fun r h => nomatch h)))))))) (fun v60 V61 le62 hp63 => ?_)
   obtain ⟨rfl, ow64⟩ := hp63
   obtain ⟨sx65, hx66, h67⟩ := bindS h59
   refine U.p Z Z (.inl Z) (S.sliceStr hx66 Z (L 0 Z Z) Tryd.underlying9 ⟨.inr ⟨_, _, Z, K⟩, .inl ⟨rfl, Z⟩, .inl Z⟩ Z) ?_
   obtain ⟨x68, hx69, h70⟩ := bindS h67
   refine U.p Z Z (.inl Z) (S.addS hx69 Z (L 5 Z Z) (L 0 Z Z)) ?_
   obtain ⟨x71, hx72, h73⟩ := bindS h70
   refine U.p Z Z (.inl Z) (S.addS hx72 Z (L 0 Z Z) K) ?_
   refine U.p Z Z (.inl Z) (S.assign Z (L 0 Z Z)) ?_
   refine U.done (nr Z) ?_
   refine WP.seq ?_
   refine WP.usreg Z ?_
   refine U.p (v := .pointer (some ⟨b3, 3, none⟩)) Z Z (.inl Z) (S.fieldAddr Z (L 23 Z Z) Tryd.underlying24 Z ti22 Z Z) ?_
   refine U.k Z Z (.inl Z) (S.load Z (L 0 Z Z) Tryd.underlying22 Z ((ow64.own (k := 0) Z).cell Z)) nd ?_
   refine U.p Z Z (.inl Z) (f23.1.len Z (L 0 Z Z) Tryd.underlying22) ?_
   refine U.p Z Z (.inl Z) (S.move Z K) ?_
   refine U.done (nr Z) ?_
   refine WP.blk ?_
   unfold law08_IrText_l1 at h73
   obtain ⟨n77, hn76⟩ := loopO_some.1 h73
   refine WP.loopI2 (fun n l V' => ∃ (x74 : ByteArray) (x75 : Int), l = [(1, .pointer (some ⟨b3, 0, none⟩)), (3, .string x74), (28, v1), (29, .int .i64 (p0.code.length : Int)), (30, .int .i64 x75)] ∧ V61.le V' ∧ Ow V' (.pt b3 (.cells 0 [.string p0.name, .int .i64 p0.params, .int .i64 p0.regs, v1]) :: Rs) ∧ itO (fun s => law08_IrText_l1b p0 s.1 s.2) n (x74, x75) = some r) n77 _ ⟨x71, 0, Z, .refl _, ow64, hn76⟩ (allCons (L 27 Z Z) (allCons (L 4 Z Z) (allCons (L 2 Z Z) (allCons (L 1 Z Z) (allCons (L 0 Z Z) allNil))))) ?_
   rintro _ _ V78 ⟨x74, x75, rfl, le79, ow80, h84⟩
   obtain ⟨m81, q82, rfl, h85, e83⟩ := itS h84
   replace h85 : law08_IrText_l1b p0 x74 x75 = some q82 := h85
   unfold law08_IrText_l1b at h85
   refine WP.usreg Z ?_
   refine U.p Z Z (.inl Z) (S.lss Z (L 4 Z Z) (L 3 Z Z)) ?_
   refine U.done (nr Z) ?_
   refine WP.seq ?_
   refine WP.cond _ (L 0 Z Z) Z (fun c86 => ?_) (fun c86 => ?_)
   ·have h87 := ifT c86 h85
    refine WP.skip ?_
    refine sqN ?_
    refine WP.seq ?_
    refine WP.blk ?_
    refine WP.usreg Z ?_
    obtain ⟨x88, hx89, h90⟩ := bindS h87
    obtain ⟨b91, o92, c93, cs94, hv95, hf96, hr97, hc98⟩ := f23.at hx89
    obtain ⟨v99, rfl, f100⟩ := hr97
    refine U.p Z Z (.inl Z) (S.index Z ((L 3 Z Z).trans hv95) (L 5 Z Z) Tryd.underlying22 ti30 (ix_ge hx89) (ix_lt hx89)) ?_
    refine U.k Z Z (.inl Z) (S.loadN (cs := [.int .i64 x88.op, .int .i64 x88.d, .int .i64 x88.a, .int .i64 x88.b, .int .i64 x88.imm, v99, .int .i64 x88.what, .bool x88.volatile, .bool x88.final]) Z (L 0 Z Z) Tryd.underlying30 Z ti30 Z (fun j v hj => (((le29.trans le45).trans le62).trans le79).cell hf96 (hc98 j v hj))) nd ?_
    refine O.alloc ow80 Z Z (.inl Z) Z ti30 Z Z nd (fun b101 V102 le103 ow104 => ?_)
    refine O.store (k := 0) (cs := [.int .i64 x88.op, .int .i64 x88.d, .int .i64 x88.a, .int .i64 x88.b, .int .i64 x88.imm, v99, .int .i64 x88.what, .bool x88.volatile, .bool x88.final]) (c' := [.int .i64 x88.op, .int .i64 x88.d, .int .i64 x88.a, .int .i64 x88.b, .int .i64 x88.imm, v99, .int .i64 x88.what, .bool x88.volatile, .bool x88.final]) ow104 Z Z Z (.inl Z) Z (L 0 Z Z) (L 1 Z Z) ti30 (by simp [topV]) Z Z (nr Z) (by have q0 := f100.one; simp only [List.all_cons, List.all_nil, q0]; rfl) Z nd (fun V106 le107 ow108 => ?_)
    refine U.done (nr Z) ?_
    refine WP.seq ?_
    refine WP.usdreg Z Z Z ?_
    refine U.k Z Z (.inl Z) (S.loadB Z (L 0 Z Z) Tryd.underlying30 Z ti30 (ow108.own (k := 0) Z).get Z) (fun _ => (okH.nil (fun r h => by cases h; exact (ow108.own (k := 0) Z).lt))) ?_
    have f109 := f100.up (((((le29.trans le45).trans le62).trans le79).trans le103).trans le107)
    obtain ⟨x110, hx111, h112⟩ := bindS h90
    refine O.call (V := V106) Z Z (.inl Z) Z en8 (aC (L 0 Z Z) aN) (wk_ir_Line V106 _ (gl.up (((((((le5.trans le13).trans le29).trans le45).trans le62).trans le79).trans le103).trans le107)) x88 v99 f109 ow108 _ hx111) (fun v113 V114 le115 hp116 => by obtain ⟨rfl, ow117⟩ := hp116; exact (fun _ => (okH.cons (Or.inl Z) (okH.nil (fun r h => nomatch h))))) (fun v113 V114 le115 hp116 => ?_)
    obtain ⟨rfl, ow117⟩ := hp116
    refine U.k Z Z (.inl Z) (S.loadB Z (L 2 Z Z) Tryd.underlying30 Z ti30 (ow117.own (k := 0) Z).get Z) (fun _ => (okH.cons (Or.inr (Or.inl ((ow117.own (k := 0) Z).get.trans (ow108.own (k := 0) Z).get.symm))) (okH.cons trivial (okH.nil (fun r h => by cases h; exact (ow117.own (k := 0) Z).lt))))) ?_
    have f118 := f109.up le115
    obtain ⟨x119, hx120, h121⟩ := bindS h112
    refine O.call (V := V114) Z Z (.inl Z) Z en7 (aC (L 0 Z Z) aN) (wk_ref08_Line V114 _ (gl.up ((((((((le5.trans le13).trans le29).trans le45).trans le62).trans le79).trans le103).trans le107).trans le115)) x88 v99 f118 ow117 _ hx120) (fun v122 V123 le124 hp125 => by obtain ⟨rfl, ow126⟩ := hp125; exact (fun _ => (okH.cons (Or.inl Z) (okH.cons Z (okH.cons (Or.inl Z) (okH.nil (fun r h => nomatch h))))))) (fun v122 V123 le124 hp125 => ?_)
    obtain ⟨rfl, ow126⟩ := hp125
    refine U.p Z Z (.inl Z) (S.neqS Z (L 2 Z Z) (L 0 Z Z)) ?_
    refine U.done (nr Z) ?_
    refine WP.cond _ (L 0 Z Z) Z (fun c127 => ?_) (fun c127 => ?_)
    ·have h128 := ifT c127 h121
     refine WP.usreg Z ?_
     refine U.p Z Z (.inl Z) (S.assign Z K) ?_
     refine U.done (nr Z) ?_
     refine WP.ret ?_
     refine sqR (blkR (sqR (sqR (blkR (sqR ?_)))))
     have h129 := exitS h128 e83
     refine fin.slot (.inr Z) Z (L 0 Z Z) ⟨V123, Z, (((((((((le5.trans le13).trans le29).trans le45).trans le62).trans le79).trans le103).trans le107).trans le115).trans le124), ?_⟩
     have ow130 := ow126.drop 0 Z
     have ow131 := ow130.drop 0 Z
     have e132 := Option.some.inj h129
     subst e132
     exact ⟨rfl, ow131⟩
    ·have h133 := ifF c127 h121
     refine WP.skip ?_
     refine sqN ?_
     refine WP.ureg Z ?_
     refine U.p Z Z (.inl Z) (S.move Z (L 10 Z Z)) ?_
     refine U.k Z Z (.inl Z) (S.loadB Z (L 6 Z Z) Tryd.underlying30 Z ti30 (ow126.own (k := 0) Z).get Z) nd ?_
     have f134 := f118.up le124
     obtain ⟨x135, hx136, h137⟩ := bindS h133
     refine O.call (V := V123) Z Z (.inl Z) Z en7 (aC (L 0 Z Z) aN) (wk_ref08_Line V123 _ (gl.up (((((((((le5.trans le13).trans le29).trans le45).trans le62).trans le79).trans le103).trans le107).trans le115).trans le124)) x88 v99 f134 ow126 _ hx136) (fun _ _ _ _ => nd) (fun v138 V139 le140 hp141 => ?_)
     obtain ⟨rfl, ow142⟩ := hp141
     obtain ⟨x143, hx144, h145⟩ := bindS h137
     refine U.p Z Z (.inl Z) (S.addS hx144 Z (L 2 Z Z) (L 0 Z Z)) ?_
     obtain ⟨x146, hx147, h148⟩ := bindS h145
     refine U.p Z Z (.inl Z) (S.addS hx147 Z (L 0 Z Z) K) ?_
     refine U.p Z Z (.inl Z) (S.assign Z (L 0 Z Z)) ?_
     refine U.done (nr Z) ?_
     refine blkN (sqN ?_)
     refine WP.ureg Z ?_
     refine U.p Z Z (.inl Z) (S.add Z (L 19 Z Z) K) ?_
     refine U.p Z Z (.inl Z) (S.move Z (L 0 Z Z)) ?_
     refine U.done (nr Z) ?_
     refine sqN ?_
     have ow149 := ow142.drop 0 Z
     exact ⟨_, V139, Z, ⟨m81, Nat.lt_succ_self _, x146, w64 (x75 + 1), Z, (((((le79.trans le103).trans le107).trans le115).trans le124).trans le140), ow149, backS h148 e83⟩, (allCons (L 17 Z Z) (allCons (L 2 Z Z) (allCons (L 19 Z Z) (allCons (L 20 Z Z) (allCons (L 0 Z Z) allNil)))))⟩
   ·have h150 := ifF c86 h85
    refine WP.exit ?_
    refine sqE (sqE (blkE (sqN ?_)))
    have h151 := exitS h150 e83
    refine WP.usreg Z ?_
    refine U.k Z Z (.inl Z) (S.loadB Z (L 1 Z Z) Tryd.underlying24 Z ti24 (ow80.own (k := 0) Z).get Z) nd ?_
    have f152 := f23.up (((le29.trans le45).trans le62).trans le79)
    obtain ⟨x153, hx154, h155⟩ := bindS h151
    refine O.call (V := V78) Z Z (.inl Z) Z en9 (aC (L 0 Z Z) aN) (wk_ir_Text V78 _ (gl.up (((((le5.trans le13).trans le29).trans le45).trans le62).trans le79)) p0 v1 f152 ow80 _ hx154) (fun _ _ _ _ => nd) (fun v156 V157 le158 hp159 => ?_)
    obtain ⟨rfl, ow160⟩ := hp159
    refine U.p Z Z (.inl Z) (S.move Z (L 4 Z Z)) ?_
    refine U.p Z Z (.inl Z) (S.eqlS Z (L 1 Z Z) (L 0 Z Z)) ?_
    refine U.p Z Z (.inl Z) (S.assign Z (L 0 Z Z)) ?_
    refine U.done (nr Z) ?_
    refine WP.ret ?_
    refine fin.slot (.inr Z) Z (L 0 Z Z) ⟨V157, Z, ((((((le5.trans le13).trans le29).trans le45).trans le62).trans le79).trans le158), ?_⟩
    have ow161 := ow160.drop 0 Z
    have e162 := Option.some.inj h155
    subst e162
    exact ⟨rfl, ow161⟩
theorem wk_ir_Labels (V : Vw) (Rs : List At) (gl : Glb V) (p0 : TFunc) (v1 : Value) (f2 : Fz RT_TIns V v1 p0.code) (ow : Ow V (Rs)) (r : List Int) (h : ir_Labels p0 = some r) : ∃ v V', Cl Tryd.prog NG 18 #[.agg #[.string p0.name, .int .i64 p0.params, .int .i64 p0.regs, v1]] V.H v V'.H ∧ V.le V' ∧ (∃ (v3 : Value), v = v3 ∧ Ow V' (.os (RT.int .i64) v3 r :: Rs)) := by
 refine Ct.of gl.lo Tryd.func18 Z (nr Z) ?_
 unfold ir_Labels at h
 refine WP.usreg Z ?_
 refine O.box ow Z Z (.inl Z) Z (L 0 Z Z) (by simp [topV]) Z nd (fun b5 V6 le7 ow8 => ?_)
 refine U.p Z Z (.inl Z) (S.assign Z K) ?_
 refine U.done (nr Z) ?_
 refine WP.usreg Z ?_
 refine U.p Z Z (.inl Z) (S.assign Z K) ?_
 refine U.done (nr Z) ?_
 refine WP.seq ?_
 refine WP.usreg Z ?_
 refine U.p (v := .pointer (some ⟨b5, 3, none⟩)) Z Z (.inl Z) (S.fieldAddr Z (L 2 Z Z) Tryd.underlying24 Z ti22 Z Z) ?_
 refine U.k Z Z (.inl Z) (S.load Z (L 0 Z Z) Tryd.underlying22 Z ((ow8.own (k := 0) Z).cell Z)) nd ?_
 refine U.p Z Z (.inl Z) (f2.1.len Z (L 0 Z Z) Tryd.underlying22) ?_
 refine U.p Z Z (.inl Z) (S.move Z K) ?_
 refine U.done (nr Z) ?_
 refine WP.blk ?_
 have ow14 := ow8.nil (RT.int .i64)
 have ow16 := ow14.drop 1 Z
 unfold ir_Labels_l1 at h
 obtain ⟨n18, hn17⟩ := loopO_some.1 h
 refine WP.loopI2 (fun n l V' => ∃ (v11 : Value) (xs12 : List Int) (x13 : Int), l = [(3, v11), (7, v1), (8, .int .i64 (p0.code.length : Int)), (9, .int .i64 x13)] ∧ V6.le V' ∧ Ow V' (.os (RT.int .i64) v11 xs12 :: Rs) ∧ itO (fun s => ir_Labels_l1b p0 s.1 s.2) n (xs12, x13) = some r) n18 _ ⟨(.slice none 0 0), [], 0, Z, .refl _, ow16, hn17⟩ (allCons (L 4 Z Z) (allCons (L 2 Z Z) (allCons (L 1 Z Z) (allCons (L 0 Z Z) allNil)))) ?_
 rintro _ _ V19 ⟨v11, xs12, x13, rfl, le20, ow21, h25⟩
 obtain ⟨m22, q23, rfl, h26, e24⟩ := itS h25
 replace h26 : ir_Labels_l1b p0 xs12 x13 = some q23 := h26
 unfold ir_Labels_l1b at h26
 refine WP.usreg Z ?_
 refine U.p Z Z (.inl Z) (S.lss Z (L 3 Z Z) (L 2 Z Z)) ?_
 refine U.done (nr Z) ?_
 refine WP.seq ?_
 refine WP.cond _ (L 0 Z Z) Z (fun c27 => ?_) (fun c27 => ?_)
 ·have h28 := ifT c27 h26
  refine WP.skip ?_
  refine sqN ?_
  refine WP.seqI (fun l V' => ∃ (v30 : Value) (xs31 : List Int), l = [(3, v30), (7, v1), (8, .int .i64 (p0.code.length : Int)), (9, .int .i64 x13)] ∧ V19.le V' ∧ Ow V' (.os (RT.int .i64) v30 xs31 :: Rs) ∧ ir_Labels_k1 x13 xs31 = some q23) ?_ ?_
  ·rintro _ V32 ⟨v30, xs31, rfl, le33, ow34, h35⟩
   unfold ir_Labels_k1 at h35
   refine WP.ureg Z ?_
   refine U.p Z Z (.inl Z) (S.add Z (L 3 Z Z) K) ?_
   refine U.p Z Z (.inl Z) (S.move Z (L 0 Z Z)) ?_
   refine U.done (nr Z) ?_
   refine sqN ?_
   exact ⟨_, V32, Z, ⟨m22, Nat.lt_succ_self _, v30, xs31, w64 (x13 + 1), Z, (le20.trans le33), ow34, backS h35 e24⟩, (allCons (L 2 Z Z) (allCons (L 3 Z Z) (allCons (L 4 Z Z) (allCons (L 0 Z Z) allNil))))⟩
  ·skip
   refine WP.blk ?_
   refine WP.usreg Z ?_
   obtain ⟨x36, hx37, h38⟩ := bindS h28
   obtain ⟨b39, o40, c41, cs42, hv43, hf44, hr45, hc46⟩ := f2.at hx37
   obtain ⟨v47, rfl, f48⟩ := hr45
   refine U.p Z Z (.inl Z) (S.index Z ((L 2 Z Z).trans hv43) (L 4 Z Z) Tryd.underlying22 ti30 (ix_ge hx37) (ix_lt hx37)) ?_
   refine U.k Z Z (.inl Z) (S.loadN (cs := [.int .i64 x36.op, .int .i64 x36.d, .int .i64 x36.a, .int .i64 x36.b, .int .i64 x36.imm, v47, .int .i64 x36.what, .bool x36.volatile, .bool x36.final]) Z (L 0 Z Z) Tryd.underlying30 Z ti30 Z (fun j v hj => (le7.trans le20).cell hf44 (hc46 j v hj))) nd ?_
   refine O.alloc ow21 Z Z (.inl Z) Z ti30 Z Z nd (fun b49 V50 le51 ow52 => ?_)
   refine O.store (k := 0) (cs := [.int .i64 x36.op, .int .i64 x36.d, .int .i64 x36.a, .int .i64 x36.b, .int .i64 x36.imm, v47, .int .i64 x36.what, .bool x36.volatile, .bool x36.final]) (c' := [.int .i64 x36.op, .int .i64 x36.d, .int .i64 x36.a, .int .i64 x36.b, .int .i64 x36.imm, v47, .int .i64 x36.what, .bool x36.volatile, .bool x36.final]) ow52 Z Z Z (.inl Z) Z (L 0 Z Z) (L 1 Z Z) ti30 (by simp [topV]) Z Z (nr Z) (by have q0 := f48.one; simp only [List.all_cons, List.all_nil, q0]; rfl) Z nd (fun V54 le55 ow56 => ?_)
   refine U.done (nr Z) ?_
   refine WP.usreg Z ?_
   refine U.p (v := .pointer (some ⟨b49, 0, none⟩)) Z Z (.inl Z) (S.fieldAddr Z (L 0 Z Z) Tryd.underlying30 Z ti3 Z Z) ?_
   refine U.k Z Z (.inl Z) (S.load Z (L 0 Z Z) Tryd.underlying3 Z ((ow56.own (k := 0) Z).cell Z)) nd ?_
   refine U.p Z Z (.inl Z) (S.eqlI Z (L 0 Z Z) K) ?_
   refine U.done (nr Z) ?_
   refine WP.cond _ (L 0 Z Z) Z (fun c57 => ?_) (fun c57 => ?_)
   ·have h58 := ifT c57 h38
    refine WP.ureg Z ?_
    refine U.p Z Z (.inl Z) (S.move Z (L 7 Z Z)) ?_
    refine U.p (v := .pointer (some ⟨b49, 4, none⟩)) Z Z (.inl Z) (S.fieldAddr Z (L 4 Z Z) Tryd.underlying30 Z ti3 Z Z) ?_
    refine U.k Z Z (.inl Z) (S.load Z (L 0 Z Z) Tryd.underlying3 Z ((ow56.own (k := 0) Z).cell Z)) nd ?_
    refine O.lit (R := (RT.int .i64)) ow56 Z Z (.inl Z) Z Tryd.underlying28 ti3 Z Z Z (nr Z) Z (aC (L 0 Z Z) aN) (.cons _ _ x36.imm _ (by simp [topV]) Z .nil) (fun _ => nd) (fun v59 V60 le61 ow62 => ?_)
    obtain ⟨xs64, hx65, h66⟩ := bindS h58
    refine O.append (k := 2) ow62 Z Z Z (.inl Z) Z (L 3 Z Z) (L 0 Z Z) Tryd.underlying28 ti3 Z Z (nr Z) (ow62.src (k := 0) Z Tryd.underlying28) hx65 (fun _ _ => nd) (fun v67 V68 le69 ow70 => ?_)
    refine U.p Z Z (.inl Z) (S.assign Z (L 0 Z Z)) ?_
    refine U.done (nr Z) ?_
    refine blkN (sqN ?_)
    have ow72 := ow70.drop 0 Z
    have ow73 := ow72.drop 0 Z
    exact ⟨_, V68, Z, ⟨v67, xs64, Z, (((le51.trans le55).trans le61).trans le69), ow73, h66⟩, (allCons (L 0 Z Z) (allCons (L 14 Z Z) (allCons (L 15 Z Z) (allCons (L 16 Z Z) allNil))))⟩
   ·have h74 := ifF c57 h38
    refine WP.skip ?_
    refine blkN (sqN ?_)
    have ow75 := ow56.drop 0 Z
    exact ⟨_, V54, Z, ⟨v11, xs12, Z, (le51.trans le55), ow75, h74⟩, (allCons (L 7 Z Z) (allCons (L 8 Z Z) (allCons (L 9 Z Z) (allCons (L 10 Z Z) allNil))))⟩
 ·have h76 := ifF c27 h26
  refine WP.exit ?_
  refine sqE (sqE (blkE (sqN ?_)))
  have h77 := exitS h76 e24
  refine WP.usreg Z ?_
  refine U.p Z Z (.inl Z) (S.move Z (L 1 Z Z)) ?_
  refine U.p Z Z (.inl Z) (S.assign Z (L 0 Z Z)) ?_
  refine U.done (nr Z) ?_
  refine WP.ret ?_
  refine fin.slot (.inr Z) Z (L 0 Z Z) ⟨V19, Z, (le7.trans le20), ?_⟩
  have e78 := Option.some.inj h77
  subst e78
  exact ⟨v11, Z, ow21⟩
theorem wk_slices_Clone (V : Vw) (Rs : List At) (gl : Glb V) (p0 : List Int) (v1 : Value) (ow : Ow V (.os (RT.int .i64) v1 p0 :: Rs)) (r : List Int) (h : slices_Clone p0 = some r) : ∃ v V', Cl Tryd.prog NG 19 #[v1] V.H v V'.H ∧ V.le V' ∧ (∃ (v3 : Value), v = v3 ∧ Ow V' (.os (RT.int .i64) v3 r :: .os (RT.int .i64) v1 p0 :: Rs)) := by
 refine Ct.of gl.lo Tryd.func19 Z (nr Z) ?_
 unfold slices_Clone at h
 refine WP.usreg Z ?_
 refine U.p Z Z (.inl Z) (S.assign Z K) ?_
 refine U.done (nr Z) ?_
 refine WP.seq ?_
 refine WP.usreg Z ?_
 refine U.p Z Z (.inl Z) (S.move Z (L 1 Z Z)) ?_
 refine U.p Z Z (.inl Z) (ow.oseqNil (k := 0) Z Z (L 0 Z Z) K Tryd.underlying28) ?_
 refine U.done (nr Z) ?_
 refine WP.cond _ (L 0 Z Z) Z (fun c5 => ?_) (fun c5 => ?_)
 ·have hz := (ow.osnil_of (k := 0) Z c5)
  have h6 : (some [] : Option _) = some r := by simpa [hz, ap, apw, apk] using h
  refine WP.usreg Z ?_
  refine U.p Z Z (.inl Z) (S.assign Z K) ?_
  refine U.done (nr Z) ?_
  refine WP.ret ?_
  refine sqR ?_
  have ow7 := ow.nil (RT.int .i64)
  refine fin.slot (.inr Z) Z (L 0 Z Z) ⟨V, Z, (.refl _), ?_⟩
  have e9 := Option.some.inj h6
  subst e9
  exact ⟨(.slice none 0 0), Z, ow7⟩
 ·skip
  refine WP.skip ?_
  refine sqN ?_
  refine WP.usreg Z ?_
  refine O.lit (R := (RT.int .i64)) ow Z Z (.inl Z) Z Tryd.underlying28 ti3 Z Z Z (nr Z) Z aN .nil (fun _ => nd) (fun v10 V11 le12 ow13 => ?_)
  refine U.p Z Z (.inl Z) (S.move Z (L 4 Z Z)) ?_
  obtain ⟨xs15, hx16, h17⟩ := bindS h
  refine O.append (k := 0) ow13 Z Z Z (.inl Z) Z (L 1 Z Z) (L 0 Z Z) Tryd.underlying28 ti3 Z Z (nr Z) (ow13.src (k := 1) Z Tryd.underlying28) hx16 (fun _ _ => nd) (fun v18 V19 le20 ow21 => ?_)
  refine U.p Z Z (.inl Z) (S.assign Z (L 0 Z Z)) ?_
  refine U.done (nr Z) ?_
  refine WP.ret ?_
  refine fin.slot (.inr Z) Z (L 0 Z Z) ⟨V19, Z, (le12.trans le20), ?_⟩
  have e23 := Option.some.inj h17
  subst e23
  exact ⟨v18, Z, ow21⟩
theorem wk_slices_Sort (V : Vw) (Rs : List At) (gl : Glb V) (p0 : List Int) (v1 : Value) (ow : Ow V (.os (RT.int .i64) v1 p0 :: Rs)) (r : List Int) (h : slices_Sort p0 = some r) : ∃ v V', Cl Tryd.prog NG 20 #[v1] V.H v V'.H ∧ V.le V' ∧ (Ow V' (.os (RT.int .i64) v1 r :: Rs)) := by
 unfold slices_Sort at h
 exact sort_cl (fun a c w => Tryd.slices_Sort_int_none a c w) (fun blk off cap w h1 h2 h3 => Tryd.slices_Sort_int blk off cap p0 w h1 h2 h3) ow h
theorem wk_slices_Compact (V : Vw) (Rs : List At) (gl : Glb V) (p0 : List Int) (v1 : Value) (ow : Ow V (.os (RT.int .i64) v1 p0 :: Rs)) (r : List Int) (h : slices_Compact p0 = some r) : ∃ v V', Cl Tryd.prog NG 21 #[v1] V.H v V'.H ∧ V.le V' ∧ (∃ (v3 : Value), v = v3 ∧ Ow V' (.os (RT.int .i64) v3 r :: Rs)) := by
 unfold slices_Compact at h
 obtain ⟨v2, V2, h1, h2, h3⟩ := compact_cl (fun a c w => Tryd.slices_Compact_int_empty a c w) (fun blk off cap w h1 h2 h3 => Tryd.slices_Compact_int blk off cap p0 w h1 h2 h3) ow h
 exact ⟨v2, V2, h1, h2, v2, Z, h3⟩
theorem wk_ir_bare (V : Vw) (Rs : List At) (gl : Glb V) (p0 : TIns) (v1 : Value) (f2 : Fz (RT.int .i64) V v1 p0.args) (ow : Ow V (Rs)) (r : Bool) (h : ir_bare p0 = some r) : ∃ v V', Cl Tryd.prog NG 32 #[.agg #[.int .i64 p0.op, .int .i64 p0.d, .int .i64 p0.a, .int .i64 p0.b, .int .i64 p0.imm, v1, .int .i64 p0.what, .bool p0.volatile, .bool p0.final]] V.H v V'.H ∧ V.le V' ∧ (v = .bool r ∧ Ow V' (Rs)) := by
 refine Ct.of gl.lo Tryd.func32 Z (nr Z) ?_
 unfold ir_bare at h
 refine WP.usreg Z ?_
 refine O.box ow Z Z (.inl Z) Z (L 0 Z Z) (by simp [topV]) Z nd (fun b3 V4 le5 ow6 => ?_)
 refine U.p Z Z (.inl Z) (S.assign Z K) ?_
 refine U.done (nr Z) ?_
 refine WP.usreg Z ?_
 refine U.p (v := .pointer (some ⟨b3, 0, none⟩)) Z Z (.inl Z) (S.fieldAddr Z (L 1 Z Z) Tryd.underlying30 Z ti3 Z Z) ?_
 refine U.k Z Z (.inl Z) (S.load Z (L 0 Z Z) Tryd.underlying3 Z ((ow6.own (k := 0) Z).cell Z)) nd ?_
 refine U.p Z Z (.inl Z) (S.eqlI Z (L 0 Z Z) K) ?_
 refine U.p Z Z (.inl Z) (S.move Z (L 0 Z Z)) ?_
 refine U.joinX 8 (fun e H => ∃ (u8 u9 u10 : Value), H = V4.H ∧ e = [(13, .bool ((decide (p0.op = 9)) || (decide (p0.op = 10)))), (12, u8), (11, u9), (10, u10)]) ?_ ?_
 ·rintro _ _ ⟨u8, u9, u10, rfl, rfl⟩
  refine U.p Z Z (.inl Z) (S.assign Z (L 0 Z Z)) ?_
  refine U.done (nr Z) ?_
  refine WP.usreg Z ?_
  refine U.p (v := .pointer (some ⟨b3, 0, none⟩)) Z Z (.inl Z) (S.fieldAddr Z (L 10 Z Z) Tryd.underlying30 Z ti3 Z Z) ?_
  refine U.k Z Z (.inl Z) (S.load Z (L 0 Z Z) Tryd.underlying3 Z ((ow6.own (k := 0) Z).cell Z)) nd ?_
  refine U.p Z Z (.inl Z) (S.eqlI Z (L 0 Z Z) K) ?_
  refine U.p Z Z (.inl Z) (S.move Z (L 0 Z Z)) ?_
  refine U.joinX 13 (fun e H => ∃ (u14 u15 u16 u17 u18 u19 u20 u21 : Value), H = V4.H ∧ e = [(26, .bool ((decide (p0.op = 21)) && ((decide (p0.imm = 1)) || (decide (p0.imm = 2))))), (25, u14), (24, u15), (23, u16), (22, u17), (21, u18), (20, u19), (19, u20), (18, u21)]) ?_ ?_
  ·rintro _ _ ⟨u14, u15, u16, u17, u18, u19, u20, u21, rfl, rfl⟩
   refine U.p Z Z (.inl Z) (S.move Z (L 0 Z Z)) ?_
   refine U.joinX 18 (fun e H => ∃ (u25 u26 u27 : Value), H = V4.H ∧ e = [(31, .bool (((decide (p0.op = 21)) && ((decide (p0.imm = 1)) || (decide (p0.imm = 2)))) && (decide (p0.a = (-1))))), (30, u25), (29, u26), (28, u27)]) ?_ ?_
   ·rintro _ _ ⟨u25, u26, u27, rfl, rfl⟩
    refine U.p Z Z (.inl Z) (S.move Z (L 0 Z Z)) ?_
    refine U.joinX 33 (fun e H => ∃ (u31 u32 u33 u34 u35 u36 u37 u38 u39 u40 u41 u42 u43 : Value), H = V4.H ∧ e = [(46, .bool ((((decide (p0.op = 21)) && ((decide (p0.imm = 1)) || (decide (p0.imm = 2)))) && (decide (p0.a = (-1)))) || (((decide (p0.op = 21)) && (decide (p0.imm = 3))) && (decide (0 ≤ p0.a))))), (45, u31), (44, u32), (43, u33), (42, u34), (41, u35), (40, u36), (39, u37), (38, u38), (37, u39), (36, u40), (35, u41), (34, u42), (33, u43)]) ?_ ?_
    ·rintro _ _ ⟨u31, u32, u33, u34, u35, u36, u37, u38, u39, u40, u41, u42, u43, rfl, rfl⟩
     refine U.p Z Z (.inl Z) (S.assign Z (L 0 Z Z)) ?_
     refine U.done (nr Z) ?_
     refine WP.usreg Z ?_
     refine U.p (v := .pointer (some ⟨b3, 4, none⟩)) Z Z (.inl Z) (S.fieldAddr Z (L 44 Z Z) Tryd.underlying30 Z ti3 Z Z) ?_
     refine U.k Z Z (.inl Z) (S.load Z (L 0 Z Z) Tryd.underlying3 Z ((ow6.own (k := 0) Z).cell Z)) nd ?_
     refine U.p Z Z (.inl Z) (S.eqlI Z (L 0 Z Z) K) ?_
     refine U.p Z Z (.inl Z) (S.move Z (L 0 Z Z)) ?_
     refine U.joinX 6 (fun e H => ∃ (u47 : Value), H = V4.H ∧ e = [(52, .bool ((decide (p0.imm = 0)) || ((decide (p0.op = 9)) || (decide (p0.op = 10))))), (51, u47)]) ?_ ?_
     ·rintro _ _ ⟨u47, rfl, rfl⟩
      refine U.p Z Z (.inl Z) (S.move Z (L 0 Z Z)) ?_
      refine U.joinX 9 (fun e H => ∃ (u51 : Value), H = V4.H ∧ e = [(55, .bool (((decide (p0.imm = 0)) || ((decide (p0.op = 9)) || (decide (p0.op = 10)))) || ((((decide (p0.op = 21)) && ((decide (p0.imm = 1)) || (decide (p0.imm = 2)))) && (decide (p0.a = (-1)))) || (((decide (p0.op = 21)) && (decide (p0.imm = 3))) && (decide (0 ≤ p0.a)))))), (54, u51)]) ?_ ?_
      ·rintro _ _ ⟨u51, rfl, rfl⟩
       refine U.p Z Z (.inl Z) (S.move Z (L 0 Z Z)) ?_
       refine U.joinX 14 (fun e H => ∃ (u55 u56 u57 : Value), H = V4.H ∧ e = [(60, .bool ((((decide (p0.imm = 0)) || ((decide (p0.op = 9)) || (decide (p0.op = 10)))) || ((((decide (p0.op = 21)) && ((decide (p0.imm = 1)) || (decide (p0.imm = 2)))) && (decide (p0.a = (-1)))) || (((decide (p0.op = 21)) && (decide (p0.imm = 3))) && (decide (0 ≤ p0.a))))) || (decide (p0.op = 1)))), (59, u55), (58, u56), (57, u57)]) ?_ ?_
       ·rintro _ _ ⟨u55, u56, u57, rfl, rfl⟩
        refine U.p Z Z (.inl Z) (S.move Z (L 0 Z Z)) ?_
        refine U.joinX 19 (fun e H => ∃ (u61 u62 u63 : Value), H = V4.H ∧ e = [(65, .bool (((((decide (p0.imm = 0)) || ((decide (p0.op = 9)) || (decide (p0.op = 10)))) || ((((decide (p0.op = 21)) && ((decide (p0.imm = 1)) || (decide (p0.imm = 2)))) && (decide (p0.a = (-1)))) || (((decide (p0.op = 21)) && (decide (p0.imm = 3))) && (decide (0 ≤ p0.a))))) || (decide (p0.op = 1))) || (decide (p0.op = 14)))), (64, u61), (63, u62), (62, u63)]) ?_ ?_
        ·rintro _ _ ⟨u61, u62, u63, rfl, rfl⟩
         refine U.p Z Z (.inl Z) (S.move Z (L 0 Z Z)) ?_
         refine U.joinX 29 (fun e H => ∃ (u67 u68 u69 u70 u71 u72 u73 u74 : Value), H = V4.H ∧ e = [(75, .bool ((((((decide (p0.imm = 0)) || ((decide (p0.op = 9)) || (decide (p0.op = 10)))) || ((((decide (p0.op = 21)) && ((decide (p0.imm = 1)) || (decide (p0.imm = 2)))) && (decide (p0.a = (-1)))) || (((decide (p0.op = 21)) && (decide (p0.imm = 3))) && (decide (0 ≤ p0.a))))) || (decide (p0.op = 1))) || (decide (p0.op = 14))) || ((decide (p0.op = 16)) && (decide (0 < p0.imm))))), (74, u67), (73, u68), (72, u69), (71, u70), (70, u71), (69, u72), (68, u73), (67, u74)]) ?_ ?_
         ·rintro _ _ ⟨u67, u68, u69, u70, u71, u72, u73, u74, rfl, rfl⟩
          refine U.p Z Z (.inl Z) (S.move Z (L 0 Z Z)) ?_
          refine U.joinX 39 (fun e H => ∃ (u78 u79 u80 u81 u82 u83 u84 u85 : Value), H = V4.H ∧ e = [(85, .bool (((((((decide (p0.imm = 0)) || ((decide (p0.op = 9)) || (decide (p0.op = 10)))) || ((((decide (p0.op = 21)) && ((decide (p0.imm = 1)) || (decide (p0.imm = 2)))) && (decide (p0.a = (-1)))) || (((decide (p0.op = 21)) && (decide (p0.imm = 3))) && (decide (0 ≤ p0.a))))) || (decide (p0.op = 1))) || (decide (p0.op = 14))) || ((decide (p0.op = 16)) && (decide (0 < p0.imm)))) || ((decide (p0.op = 22)) && (decide (p0.imm = 1))))), (84, u78), (83, u79), (82, u80), (81, u81), (80, u82), (79, u83), (78, u84), (77, u85)]) ?_ ?_
          ·rintro _ _ ⟨u78, u79, u80, u81, u82, u83, u84, u85, rfl, rfl⟩
           refine U.p Z Z (.inl Z) (S.assign Z (L 0 Z Z)) ?_
           refine U.done (nr Z) ?_
           refine WP.usreg Z ?_
           refine U.p Z Z (.inl Z) (S.move Z (L 74 Z Z)) ?_
           refine U.p Z Z (.inl Z) (S.move Z (L 0 Z Z)) ?_
           refine U.joinX 16 (fun e H => ∃ (u89 u90 u91 u92 u93 u94 u95 u96 u97 u98 u99 u100 u101 : Value), H = V4.H ∧ e = [(101, .bool (((decide (p0.op = 9)) || (decide (p0.op = 10))) || (((decide (p0.what = 0)) && (!p0.volatile)) && (!p0.final)))), (100, u89), (99, u90), (98, u91), (97, u92), (96, u93), (95, u94), (94, u95), (93, u96), (92, u97), (91, u98), (90, u99), (89, u100), (88, u101)]) ?_ ?_
           ·rintro _ _ ⟨u89, u90, u91, u92, u93, u94, u95, u96, u97, u98, u99, u100, u101, rfl, rfl⟩
            refine U.p Z Z (.inl Z) (S.move Z (L 0 Z Z)) ?_
            refine U.joinX 27 (fun e H => ∃ (u105 u106 u107 u108 u109 u110 u111 u112 u113 : Value), H = V4.H ∧ e = [(112, .bool ((((decide (p0.op = 9)) || (decide (p0.op = 10))) || (((decide (p0.what = 0)) && (!p0.volatile)) && (!p0.final))) && ((decide (p0.op = 14)) || (decide ((p0.args.length : Int) = 0))))), (111, u105), (110, u106), (109, u107), (108, u108), (107, u109), (106, u110), (105, u111), (104, u112), (103, u113)]) ?_ ?_
            ·rintro _ _ ⟨u105, u106, u107, u108, u109, u110, u111, u112, u113, rfl, rfl⟩
             refine U.p Z Z (.inl Z) (S.move Z (L 0 Z Z)) ?_
             refine U.joinX 50 (fun e H => ∃ (u117 u118 u119 u120 u121 u122 u123 u124 u125 u126 u127 u128 u129 u130 u131 u132 u133 u134 u135 u136 u137 : Value), H = V4.H ∧ e = [(135, .bool (((((decide (p0.op = 9)) || (decide (p0.op = 10))) || (((decide (p0.what = 0)) && (!p0.volatile)) && (!p0.final))) && ((decide (p0.op = 14)) || (decide ((p0.args.length : Int) = 0)))) && (((((((((((decide (p0.imm = 0)) || ((decide (p0.op = 9)) || (decide (p0.op = 10)))) || ((((decide (p0.op = 21)) && ((decide (p0.imm = 1)) || (decide (p0.imm = 2)))) && (decide (p0.a = (-1)))) || (((decide (p0.op = 21)) && (decide (p0.imm = 3))) && (decide (0 ≤ p0.a))))) || (decide (p0.op = 1))) || (decide (p0.op = 14))) || ((decide (p0.op = 16)) && (decide (0 < p0.imm)))) || ((decide (p0.op = 22)) && (decide (p0.imm = 1)))) || (decide (p0.op = 11))) || (decide (p0.op = 12))) || (decide (p0.op = 13))) || (decide (p0.op = 17))))), (134, u117), (133, u118), (132, u119), (131, u120), (130, u121), (129, u122), (128, u123), (127, u124), (126, u125), (125, u126), (124, u127), (123, u128), (122, u129), (121, u130), (120, u131), (119, u132), (118, u133), (117, u134), (116, u135), (115, u136), (114, u137)]) ?_ ?_
             ·rintro _ _ ⟨u117, u118, u119, u120, u121, u122, u123, u124, u125, u126, u127, u128, u129, u130, u131, u132, u133, u134, u135, u136, u137, rfl, rfl⟩
              refine U.p Z Z (.inl Z) (S.move Z (L 0 Z Z)) ?_
              refine U.joinX 58 (fun e H => ∃ (u141 u142 u143 u144 u145 u146 : Value), H = V4.H ∧ e = [(143, .bool ((((((decide (p0.op = 9)) || (decide (p0.op = 10))) || (((decide (p0.what = 0)) && (!p0.volatile)) && (!p0.final))) && ((decide (p0.op = 14)) || (decide ((p0.args.length : Int) = 0)))) && (((((((((((decide (p0.imm = 0)) || ((decide (p0.op = 9)) || (decide (p0.op = 10)))) || ((((decide (p0.op = 21)) && ((decide (p0.imm = 1)) || (decide (p0.imm = 2)))) && (decide (p0.a = (-1)))) || (((decide (p0.op = 21)) && (decide (p0.imm = 3))) && (decide (0 ≤ p0.a))))) || (decide (p0.op = 1))) || (decide (p0.op = 14))) || ((decide (p0.op = 16)) && (decide (0 < p0.imm)))) || ((decide (p0.op = 22)) && (decide (p0.imm = 1)))) || (decide (p0.op = 11))) || (decide (p0.op = 12))) || (decide (p0.op = 13))) || (decide (p0.op = 17)))) && ((decide (p0.op ≠ 21)) || ((((decide (p0.op = 21)) && ((decide (p0.imm = 1)) || (decide (p0.imm = 2)))) && (decide (p0.a = (-1)))) || (((decide (p0.op = 21)) && (decide (p0.imm = 3))) && (decide (0 ≤ p0.a))))))), (142, u141), (141, u142), (140, u143), (139, u144), (138, u145), (137, u146)]) ?_ ?_
              ·rintro _ _ ⟨u141, u142, u143, u144, u145, u146, rfl, rfl⟩
               refine U.p Z Z (.inl Z) (S.assign Z (L 0 Z Z)) ?_
               refine U.done (nr Z) ?_
               refine WP.ret ?_
               refine fin.slot (.inr Z) Z (L 0 Z Z) ⟨V4, Z, le5, ?_⟩
               have ow150 := ow6.drop 0 Z
               have e151 := Option.some.inj h
               subst e151
               exact ⟨rfl, ow150⟩
              ·intro kk
               refine bcase (b := ((((decide (p0.op = 9)) || (decide (p0.op = 10))) || (((decide (p0.what = 0)) && (!p0.volatile)) && (!p0.final))) && ((decide (p0.op = 14)) || (decide ((p0.args.length : Int) = 0)))) && (((((((((((decide (p0.imm = 0)) || ((decide (p0.op = 9)) || (decide (p0.op = 10)))) || ((((decide (p0.op = 21)) && ((decide (p0.imm = 1)) || (decide (p0.imm = 2)))) && (decide (p0.a = (-1)))) || (((decide (p0.op = 21)) && (decide (p0.imm = 3))) && (decide (0 ≤ p0.a))))) || (decide (p0.op = 1))) || (decide (p0.op = 14))) || ((decide (p0.op = 16)) && (decide (0 < p0.imm)))) || ((decide (p0.op = 22)) && (decide (p0.imm = 1)))) || (decide (p0.op = 11))) || (decide (p0.op = 12))) || (decide (p0.op = 13))) || (decide (p0.op = 17)))) (fun g152 => ?_) (fun g152 => ?_)
               ·skip
                refine U.p (v := .pointer (some ⟨b3, 0, none⟩)) Z Z (.inr ⟨_, _, _, Z, Z, ((L 0 Z Z).trans (cB g152))⟩) (S.fieldAddr Z (L 135 Z Z) Tryd.underlying30 Z ti3 Z Z) ?_
                refine U.k Z Z (.inr ⟨_, _, _, Z, Z, ((L 1 Z Z).trans (cB g152))⟩) (S.load Z (L 0 Z Z) Tryd.underlying3 Z ((ow6.own (k := 0) Z).cell Z)) nd ?_
                refine U.p Z Z (.inr ⟨_, _, _, Z, Z, ((L 2 Z Z).trans (cB g152))⟩) (S.neqI Z (L 0 Z Z) K) ?_
                refine U.p Z Z (.inr ⟨_, _, _, Z, Z, ((L 3 Z Z).trans (cB g152))⟩) (S.move Z (L 0 Z Z)) ?_
                refine U.joinX 57 (fun e H => ∃ (u153 : Value), H = V4.H ∧ e = [(142, .bool ((decide (p0.op ≠ 21)) || ((((decide (p0.op = 21)) && ((decide (p0.imm = 1)) || (decide (p0.imm = 2)))) && (decide (p0.a = (-1)))) || (((decide (p0.op = 21)) && (decide (p0.imm = 3))) && (decide (0 ≤ p0.a)))))), (141, u153)]) ?_ ?_
                ·rintro _ _ ⟨u153, rfl, rfl⟩
                 refine U.p Z Z (.inl Z) (S.pickT Z ((L 6 Z Z).trans (cB g152)) (L 0 Z Z)) ?_
                 exact kk [(143, .bool ((decide (p0.op ≠ 21)) || ((((decide (p0.op = 21)) && ((decide (p0.imm = 1)) || (decide (p0.imm = 2)))) && (decide (p0.a = (-1)))) || (((decide (p0.op = 21)) && (decide (p0.imm = 3))) && (decide (0 ≤ p0.a)))))), (142, .bool ((decide (p0.op ≠ 21)) || ((((decide (p0.op = 21)) && ((decide (p0.imm = 1)) || (decide (p0.imm = 2)))) && (decide (p0.a = (-1)))) || (((decide (p0.op = 21)) && (decide (p0.imm = 3))) && (decide (0 ≤ p0.a)))))), (141, u153), (140, .bool (decide (p0.op ≠ 21))), (139, .bool (decide (p0.op ≠ 21))), (138, .int .i64 p0.op), (137, .pointer (some ⟨b3, 0, none⟩))] _ ⟨.bool ((decide (p0.op ≠ 21)) || ((((decide (p0.op = 21)) && ((decide (p0.imm = 1)) || (decide (p0.imm = 2)))) && (decide (p0.a = (-1)))) || (((decide (p0.op = 21)) && (decide (p0.imm = 3))) && (decide (0 ≤ p0.a))))), u153, .bool (decide (p0.op ≠ 21)), .bool (decide (p0.op ≠ 21)), .int .i64 p0.op, .pointer (some ⟨b3, 0, none⟩), Z, (by rw [g152, Bool.true_and])⟩
                ·intro kk
                 refine bcase (b := decide (p0.op ≠ 21)) (fun g157 => ?_) (fun g157 => ?_)
                 ·skip
                  refine U.x Z Z Z Z ((L 0 Z Z).trans (cB g157)) (by decide) ?_
                  refine U.p Z Z (.inr ⟨_, _, _, Z, Z, ((L 5 Z Z).trans (cB g152))⟩) (S.pickT Z ((L 1 Z Z).trans (cB g157)) K) ?_
                  exact kk [(142, .bool true), (141, .tuple #[])] _ ⟨.tuple #[], Z, (by rw [g157, Bool.true_or])⟩
                 ·skip
                  refine U.p Z Z (.inr ⟨_, _, _, Z, Z, ((L 0 Z Z).trans (cB g157))⟩) (S.move Z (L 95 Z Z)) ?_
                  refine U.p Z Z (.inr ⟨_, _, _, Z, Z, ((L 5 Z Z).trans (cB g152))⟩) (S.pickF Z ((L 1 Z Z).trans (cB g157)) (L 0 Z Z)) ?_
                  exact kk [(142, .bool ((((decide (p0.op = 21)) && ((decide (p0.imm = 1)) || (decide (p0.imm = 2)))) && (decide (p0.a = (-1)))) || (((decide (p0.op = 21)) && (decide (p0.imm = 3))) && (decide (0 ≤ p0.a))))), (141, .bool ((((decide (p0.op = 21)) && ((decide (p0.imm = 1)) || (decide (p0.imm = 2)))) && (decide (p0.a = (-1)))) || (((decide (p0.op = 21)) && (decide (p0.imm = 3))) && (decide (0 ≤ p0.a)))))] _ ⟨.bool ((((decide (p0.op = 21)) && ((decide (p0.imm = 1)) || (decide (p0.imm = 2)))) && (decide (p0.a = (-1)))) || (((decide (p0.op = 21)) && (decide (p0.imm = 3))) && (decide (0 ≤ p0.a)))), Z, (by rw [g157, Bool.false_or])⟩
               ·skip
                refine U.x Z Z Z Z ((L 0 Z Z).trans (cB g152)) (by decide) ?_
                refine U.x Z Z Z Z ((L 1 Z Z).trans (cB g152)) (by decide) ?_
                refine U.x Z Z Z Z ((L 2 Z Z).trans (cB g152)) (by decide) ?_
                refine U.x Z Z Z Z ((L 3 Z Z).trans (cB g152)) (by decide) ?_
                refine U.z Z Z Z Z (L 0 Z Z) ?_
                refine U.x Z Z Z Z ((L 5 Z Z).trans (cB g152)) (by decide) ?_
                refine U.p Z Z (.inl Z) (S.pickF Z ((L 6 Z Z).trans (cB g152)) K) ?_
                exact kk [(143, .bool false), (142, .tuple #[]), (141, .tuple #[]), (140, .tuple #[]), (139, .tuple #[]), (138, .tuple #[]), (137, .tuple #[])] _ ⟨.tuple #[], .tuple #[], .tuple #[], .tuple #[], .tuple #[], .tuple #[], Z, (by rw [g152, Bool.false_and])⟩
             ·intro kk
              refine bcase (b := (((decide (p0.op = 9)) || (decide (p0.op = 10))) || (((decide (p0.what = 0)) && (!p0.volatile)) && (!p0.final))) && ((decide (p0.op = 14)) || (decide ((p0.args.length : Int) = 0)))) (fun g158 => ?_) (fun g158 => ?_)
              ·skip
               refine U.p Z Z (.inr ⟨_, _, _, Z, Z, ((L 0 Z Z).trans (cB g158))⟩) (S.move Z (L 28 Z Z)) ?_
               refine U.p Z Z (.inr ⟨_, _, _, Z, Z, ((L 1 Z Z).trans (cB g158))⟩) (S.move Z (L 0 Z Z)) ?_
               refine U.joinX 34 (fun e H => ∃ (u159 u160 u161 : Value), H = V4.H ∧ e = [(119, .bool ((((((((decide (p0.imm = 0)) || ((decide (p0.op = 9)) || (decide (p0.op = 10)))) || ((((decide (p0.op = 21)) && ((decide (p0.imm = 1)) || (decide (p0.imm = 2)))) && (decide (p0.a = (-1)))) || (((decide (p0.op = 21)) && (decide (p0.imm = 3))) && (decide (0 ≤ p0.a))))) || (decide (p0.op = 1))) || (decide (p0.op = 14))) || ((decide (p0.op = 16)) && (decide (0 < p0.imm)))) || ((decide (p0.op = 22)) && (decide (p0.imm = 1)))) || (decide (p0.op = 11)))), (118, u159), (117, u160), (116, u161)]) ?_ ?_
               ·rintro _ _ ⟨u159, u160, u161, rfl, rfl⟩
                refine U.p Z Z (.inr ⟨_, _, _, Z, Z, ((L 6 Z Z).trans (cB g158))⟩) (S.move Z (L 0 Z Z)) ?_
                refine U.joinX 39 (fun e H => ∃ (u165 u166 u167 : Value), H = V4.H ∧ e = [(124, .bool (((((((((decide (p0.imm = 0)) || ((decide (p0.op = 9)) || (decide (p0.op = 10)))) || ((((decide (p0.op = 21)) && ((decide (p0.imm = 1)) || (decide (p0.imm = 2)))) && (decide (p0.a = (-1)))) || (((decide (p0.op = 21)) && (decide (p0.imm = 3))) && (decide (0 ≤ p0.a))))) || (decide (p0.op = 1))) || (decide (p0.op = 14))) || ((decide (p0.op = 16)) && (decide (0 < p0.imm)))) || ((decide (p0.op = 22)) && (decide (p0.imm = 1)))) || (decide (p0.op = 11))) || (decide (p0.op = 12)))), (123, u165), (122, u166), (121, u167)]) ?_ ?_
                ·rintro _ _ ⟨u165, u166, u167, rfl, rfl⟩
                 refine U.p Z Z (.inr ⟨_, _, _, Z, Z, ((L 11 Z Z).trans (cB g158))⟩) (S.move Z (L 0 Z Z)) ?_
                 refine U.joinX 44 (fun e H => ∃ (u171 u172 u173 : Value), H = V4.H ∧ e = [(129, .bool ((((((((((decide (p0.imm = 0)) || ((decide (p0.op = 9)) || (decide (p0.op = 10)))) || ((((decide (p0.op = 21)) && ((decide (p0.imm = 1)) || (decide (p0.imm = 2)))) && (decide (p0.a = (-1)))) || (((decide (p0.op = 21)) && (decide (p0.imm = 3))) && (decide (0 ≤ p0.a))))) || (decide (p0.op = 1))) || (decide (p0.op = 14))) || ((decide (p0.op = 16)) && (decide (0 < p0.imm)))) || ((decide (p0.op = 22)) && (decide (p0.imm = 1)))) || (decide (p0.op = 11))) || (decide (p0.op = 12))) || (decide (p0.op = 13)))), (128, u171), (127, u172), (126, u173)]) ?_ ?_
                 ·rintro _ _ ⟨u171, u172, u173, rfl, rfl⟩
                  refine U.p Z Z (.inr ⟨_, _, _, Z, Z, ((L 16 Z Z).trans (cB g158))⟩) (S.move Z (L 0 Z Z)) ?_
                  refine U.joinX 49 (fun e H => ∃ (u177 u178 u179 : Value), H = V4.H ∧ e = [(134, .bool (((((((((((decide (p0.imm = 0)) || ((decide (p0.op = 9)) || (decide (p0.op = 10)))) || ((((decide (p0.op = 21)) && ((decide (p0.imm = 1)) || (decide (p0.imm = 2)))) && (decide (p0.a = (-1)))) || (((decide (p0.op = 21)) && (decide (p0.imm = 3))) && (decide (0 ≤ p0.a))))) || (decide (p0.op = 1))) || (decide (p0.op = 14))) || ((decide (p0.op = 16)) && (decide (0 < p0.imm)))) || ((decide (p0.op = 22)) && (decide (p0.imm = 1)))) || (decide (p0.op = 11))) || (decide (p0.op = 12))) || (decide (p0.op = 13))) || (decide (p0.op = 17)))), (133, u177), (132, u178), (131, u179)]) ?_ ?_
                  ·rintro _ _ ⟨u177, u178, u179, rfl, rfl⟩
                   refine U.p Z Z (.inl Z) (S.pickT Z ((L 21 Z Z).trans (cB g158)) (L 0 Z Z)) ?_
                   exact kk [(135, .bool (((((((((((decide (p0.imm = 0)) || ((decide (p0.op = 9)) || (decide (p0.op = 10)))) || ((((decide (p0.op = 21)) && ((decide (p0.imm = 1)) || (decide (p0.imm = 2)))) && (decide (p0.a = (-1)))) || (((decide (p0.op = 21)) && (decide (p0.imm = 3))) && (decide (0 ≤ p0.a))))) || (decide (p0.op = 1))) || (decide (p0.op = 14))) || ((decide (p0.op = 16)) && (decide (0 < p0.imm)))) || ((decide (p0.op = 22)) && (decide (p0.imm = 1)))) || (decide (p0.op = 11))) || (decide (p0.op = 12))) || (decide (p0.op = 13))) || (decide (p0.op = 17)))), (134, .bool (((((((((((decide (p0.imm = 0)) || ((decide (p0.op = 9)) || (decide (p0.op = 10)))) || ((((decide (p0.op = 21)) && ((decide (p0.imm = 1)) || (decide (p0.imm = 2)))) && (decide (p0.a = (-1)))) || (((decide (p0.op = 21)) && (decide (p0.imm = 3))) && (decide (0 ≤ p0.a))))) || (decide (p0.op = 1))) || (decide (p0.op = 14))) || ((decide (p0.op = 16)) && (decide (0 < p0.imm)))) || ((decide (p0.op = 22)) && (decide (p0.imm = 1)))) || (decide (p0.op = 11))) || (decide (p0.op = 12))) || (decide (p0.op = 13))) || (decide (p0.op = 17)))), (133, u177), (132, u178), (131, u179), (130, .bool ((((((((((decide (p0.imm = 0)) || ((decide (p0.op = 9)) || (decide (p0.op = 10)))) || ((((decide (p0.op = 21)) && ((decide (p0.imm = 1)) || (decide (p0.imm = 2)))) && (decide (p0.a = (-1)))) || (((decide (p0.op = 21)) && (decide (p0.imm = 3))) && (decide (0 ≤ p0.a))))) || (decide (p0.op = 1))) || (decide (p0.op = 14))) || ((decide (p0.op = 16)) && (decide (0 < p0.imm)))) || ((decide (p0.op = 22)) && (decide (p0.imm = 1)))) || (decide (p0.op = 11))) || (decide (p0.op = 12))) || (decide (p0.op = 13)))), (129, .bool ((((((((((decide (p0.imm = 0)) || ((decide (p0.op = 9)) || (decide (p0.op = 10)))) || ((((decide (p0.op = 21)) && ((decide (p0.imm = 1)) || (decide (p0.imm = 2)))) && (decide (p0.a = (-1)))) || (((decide (p0.op = 21)) && (decide (p0.imm = 3))) && (decide (0 ≤ p0.a))))) || (decide (p0.op = 1))) || (decide (p0.op = 14))) || ((decide (p0.op = 16)) && (decide (0 < p0.imm)))) || ((decide (p0.op = 22)) && (decide (p0.imm = 1)))) || (decide (p0.op = 11))) || (decide (p0.op = 12))) || (decide (p0.op = 13)))), (128, u171), (127, u172), (126, u173), (125, .bool (((((((((decide (p0.imm = 0)) || ((decide (p0.op = 9)) || (decide (p0.op = 10)))) || ((((decide (p0.op = 21)) && ((decide (p0.imm = 1)) || (decide (p0.imm = 2)))) && (decide (p0.a = (-1)))) || (((decide (p0.op = 21)) && (decide (p0.imm = 3))) && (decide (0 ≤ p0.a))))) || (decide (p0.op = 1))) || (decide (p0.op = 14))) || ((decide (p0.op = 16)) && (decide (0 < p0.imm)))) || ((decide (p0.op = 22)) && (decide (p0.imm = 1)))) || (decide (p0.op = 11))) || (decide (p0.op = 12)))), (124, .bool (((((((((decide (p0.imm = 0)) || ((decide (p0.op = 9)) || (decide (p0.op = 10)))) || ((((decide (p0.op = 21)) && ((decide (p0.imm = 1)) || (decide (p0.imm = 2)))) && (decide (p0.a = (-1)))) || (((decide (p0.op = 21)) && (decide (p0.imm = 3))) && (decide (0 ≤ p0.a))))) || (decide (p0.op = 1))) || (decide (p0.op = 14))) || ((decide (p0.op = 16)) && (decide (0 < p0.imm)))) || ((decide (p0.op = 22)) && (decide (p0.imm = 1)))) || (decide (p0.op = 11))) || (decide (p0.op = 12)))), (123, u165), (122, u166), (121, u167), (120, .bool ((((((((decide (p0.imm = 0)) || ((decide (p0.op = 9)) || (decide (p0.op = 10)))) || ((((decide (p0.op = 21)) && ((decide (p0.imm = 1)) || (decide (p0.imm = 2)))) && (decide (p0.a = (-1)))) || (((decide (p0.op = 21)) && (decide (p0.imm = 3))) && (decide (0 ≤ p0.a))))) || (decide (p0.op = 1))) || (decide (p0.op = 14))) || ((decide (p0.op = 16)) && (decide (0 < p0.imm)))) || ((decide (p0.op = 22)) && (decide (p0.imm = 1)))) || (decide (p0.op = 11)))), (119, .bool ((((((((decide (p0.imm = 0)) || ((decide (p0.op = 9)) || (decide (p0.op = 10)))) || ((((decide (p0.op = 21)) && ((decide (p0.imm = 1)) || (decide (p0.imm = 2)))) && (decide (p0.a = (-1)))) || (((decide (p0.op = 21)) && (decide (p0.imm = 3))) && (decide (0 ≤ p0.a))))) || (decide (p0.op = 1))) || (decide (p0.op = 14))) || ((decide (p0.op = 16)) && (decide (0 < p0.imm)))) || ((decide (p0.op = 22)) && (decide (p0.imm = 1)))) || (decide (p0.op = 11)))), (118, u159), (117, u160), (116, u161), (115, .bool (((((((decide (p0.imm = 0)) || ((decide (p0.op = 9)) || (decide (p0.op = 10)))) || ((((decide (p0.op = 21)) && ((decide (p0.imm = 1)) || (decide (p0.imm = 2)))) && (decide (p0.a = (-1)))) || (((decide (p0.op = 21)) && (decide (p0.imm = 3))) && (decide (0 ≤ p0.a))))) || (decide (p0.op = 1))) || (decide (p0.op = 14))) || ((decide (p0.op = 16)) && (decide (0 < p0.imm)))) || ((decide (p0.op = 22)) && (decide (p0.imm = 1))))), (114, .bool (((((((decide (p0.imm = 0)) || ((decide (p0.op = 9)) || (decide (p0.op = 10)))) || ((((decide (p0.op = 21)) && ((decide (p0.imm = 1)) || (decide (p0.imm = 2)))) && (decide (p0.a = (-1)))) || (((decide (p0.op = 21)) && (decide (p0.imm = 3))) && (decide (0 ≤ p0.a))))) || (decide (p0.op = 1))) || (decide (p0.op = 14))) || ((decide (p0.op = 16)) && (decide (0 < p0.imm)))) || ((decide (p0.op = 22)) && (decide (p0.imm = 1)))))] _ ⟨.bool (((((((((((decide (p0.imm = 0)) || ((decide (p0.op = 9)) || (decide (p0.op = 10)))) || ((((decide (p0.op = 21)) && ((decide (p0.imm = 1)) || (decide (p0.imm = 2)))) && (decide (p0.a = (-1)))) || (((decide (p0.op = 21)) && (decide (p0.imm = 3))) && (decide (0 ≤ p0.a))))) || (decide (p0.op = 1))) || (decide (p0.op = 14))) || ((decide (p0.op = 16)) && (decide (0 < p0.imm)))) || ((decide (p0.op = 22)) && (decide (p0.imm = 1)))) || (decide (p0.op = 11))) || (decide (p0.op = 12))) || (decide (p0.op = 13))) || (decide (p0.op = 17))), u177, u178, u179, .bool ((((((((((decide (p0.imm = 0)) || ((decide (p0.op = 9)) || (decide (p0.op = 10)))) || ((((decide (p0.op = 21)) && ((decide (p0.imm = 1)) || (decide (p0.imm = 2)))) && (decide (p0.a = (-1)))) || (((decide (p0.op = 21)) && (decide (p0.imm = 3))) && (decide (0 ≤ p0.a))))) || (decide (p0.op = 1))) || (decide (p0.op = 14))) || ((decide (p0.op = 16)) && (decide (0 < p0.imm)))) || ((decide (p0.op = 22)) && (decide (p0.imm = 1)))) || (decide (p0.op = 11))) || (decide (p0.op = 12))) || (decide (p0.op = 13))), .bool ((((((((((decide (p0.imm = 0)) || ((decide (p0.op = 9)) || (decide (p0.op = 10)))) || ((((decide (p0.op = 21)) && ((decide (p0.imm = 1)) || (decide (p0.imm = 2)))) && (decide (p0.a = (-1)))) || (((decide (p0.op = 21)) && (decide (p0.imm = 3))) && (decide (0 ≤ p0.a))))) || (decide (p0.op = 1))) || (decide (p0.op = 14))) || ((decide (p0.op = 16)) && (decide (0 < p0.imm)))) || ((decide (p0.op = 22)) && (decide (p0.imm = 1)))) || (decide (p0.op = 11))) || (decide (p0.op = 12))) || (decide (p0.op = 13))), u171, u172, u173, .bool (((((((((decide (p0.imm = 0)) || ((decide (p0.op = 9)) || (decide (p0.op = 10)))) || ((((decide (p0.op = 21)) && ((decide (p0.imm = 1)) || (decide (p0.imm = 2)))) && (decide (p0.a = (-1)))) || (((decide (p0.op = 21)) && (decide (p0.imm = 3))) && (decide (0 ≤ p0.a))))) || (decide (p0.op = 1))) || (decide (p0.op = 14))) || ((decide (p0.op = 16)) && (decide (0 < p0.imm)))) || ((decide (p0.op = 22)) && (decide (p0.imm = 1)))) || (decide (p0.op = 11))) || (decide (p0.op = 12))), .bool (((((((((decide (p0.imm = 0)) || ((decide (p0.op = 9)) || (decide (p0.op = 10)))) || ((((decide (p0.op = 21)) && ((decide (p0.imm = 1)) || (decide (p0.imm = 2)))) && (decide (p0.a = (-1)))) || (((decide (p0.op = 21)) && (decide (p0.imm = 3))) && (decide (0 ≤ p0.a))))) || (decide (p0.op = 1))) || (decide (p0.op = 14))) || ((decide (p0.op = 16)) && (decide (0 < p0.imm)))) || ((decide (p0.op = 22)) && (decide (p0.imm = 1)))) || (decide (p0.op = 11))) || (decide (p0.op = 12))), u165, u166, u167, .bool ((((((((decide (p0.imm = 0)) || ((decide (p0.op = 9)) || (decide (p0.op = 10)))) || ((((decide (p0.op = 21)) && ((decide (p0.imm = 1)) || (decide (p0.imm = 2)))) && (decide (p0.a = (-1)))) || (((decide (p0.op = 21)) && (decide (p0.imm = 3))) && (decide (0 ≤ p0.a))))) || (decide (p0.op = 1))) || (decide (p0.op = 14))) || ((decide (p0.op = 16)) && (decide (0 < p0.imm)))) || ((decide (p0.op = 22)) && (decide (p0.imm = 1)))) || (decide (p0.op = 11))), .bool ((((((((decide (p0.imm = 0)) || ((decide (p0.op = 9)) || (decide (p0.op = 10)))) || ((((decide (p0.op = 21)) && ((decide (p0.imm = 1)) || (decide (p0.imm = 2)))) && (decide (p0.a = (-1)))) || (((decide (p0.op = 21)) && (decide (p0.imm = 3))) && (decide (0 ≤ p0.a))))) || (decide (p0.op = 1))) || (decide (p0.op = 14))) || ((decide (p0.op = 16)) && (decide (0 < p0.imm)))) || ((decide (p0.op = 22)) && (decide (p0.imm = 1)))) || (decide (p0.op = 11))), u159, u160, u161, .bool (((((((decide (p0.imm = 0)) || ((decide (p0.op = 9)) || (decide (p0.op = 10)))) || ((((decide (p0.op = 21)) && ((decide (p0.imm = 1)) || (decide (p0.imm = 2)))) && (decide (p0.a = (-1)))) || (((decide (p0.op = 21)) && (decide (p0.imm = 3))) && (decide (0 ≤ p0.a))))) || (decide (p0.op = 1))) || (decide (p0.op = 14))) || ((decide (p0.op = 16)) && (decide (0 < p0.imm)))) || ((decide (p0.op = 22)) && (decide (p0.imm = 1)))), .bool (((((((decide (p0.imm = 0)) || ((decide (p0.op = 9)) || (decide (p0.op = 10)))) || ((((decide (p0.op = 21)) && ((decide (p0.imm = 1)) || (decide (p0.imm = 2)))) && (decide (p0.a = (-1)))) || (((decide (p0.op = 21)) && (decide (p0.imm = 3))) && (decide (0 ≤ p0.a))))) || (decide (p0.op = 1))) || (decide (p0.op = 14))) || ((decide (p0.op = 16)) && (decide (0 < p0.imm)))) || ((decide (p0.op = 22)) && (decide (p0.imm = 1)))), Z, (by rw [g158, Bool.true_and])⟩
                  ·intro kk
                   refine bcase (b := (((((((((decide (p0.imm = 0)) || ((decide (p0.op = 9)) || (decide (p0.op = 10)))) || ((((decide (p0.op = 21)) && ((decide (p0.imm = 1)) || (decide (p0.imm = 2)))) && (decide (p0.a = (-1)))) || (((decide (p0.op = 21)) && (decide (p0.imm = 3))) && (decide (0 ≤ p0.a))))) || (decide (p0.op = 1))) || (decide (p0.op = 14))) || ((decide (p0.op = 16)) && (decide (0 < p0.imm)))) || ((decide (p0.op = 22)) && (decide (p0.imm = 1)))) || (decide (p0.op = 11))) || (decide (p0.op = 12))) || (decide (p0.op = 13))) (fun g183 => ?_) (fun g183 => ?_)
                   ·skip
                    refine U.x Z Z Z Z ((L 0 Z Z).trans (cB g183)) (by decide) ?_
                    refine U.x Z Z Z Z ((L 1 Z Z).trans (cB g183)) (by decide) ?_
                    refine U.x Z Z Z Z ((L 2 Z Z).trans (cB g183)) (by decide) ?_
                    refine U.p Z Z (.inr ⟨_, _, _, Z, Z, ((L 20 Z Z).trans (cB g158))⟩) (S.pickT Z ((L 3 Z Z).trans (cB g183)) K) ?_
                    exact kk [(134, .bool true), (133, .tuple #[]), (132, .tuple #[]), (131, .tuple #[])] _ ⟨.tuple #[], .tuple #[], .tuple #[], Z, (by rw [g183, Bool.true_or])⟩
                   ·skip
                    refine U.p (v := .pointer (some ⟨b3, 0, none⟩)) Z Z (.inr ⟨_, _, _, Z, Z, ((L 0 Z Z).trans (cB g183))⟩) (S.fieldAddr Z (L 129 Z Z) Tryd.underlying30 Z ti3 Z Z) ?_
                    refine U.k Z Z (.inr ⟨_, _, _, Z, Z, ((L 1 Z Z).trans (cB g183))⟩) (S.load Z (L 0 Z Z) Tryd.underlying3 Z ((ow6.own (k := 0) Z).cell Z)) nd ?_
                    refine U.p Z Z (.inr ⟨_, _, _, Z, Z, ((L 2 Z Z).trans (cB g183))⟩) (S.eqlI Z (L 0 Z Z) K) ?_
                    refine U.p Z Z (.inr ⟨_, _, _, Z, Z, ((L 20 Z Z).trans (cB g158))⟩) (S.pickF Z ((L 3 Z Z).trans (cB g183)) (L 0 Z Z)) ?_
                    exact kk [(134, .bool (decide (p0.op = 17))), (133, .bool (decide (p0.op = 17))), (132, .int .i64 p0.op), (131, .pointer (some ⟨b3, 0, none⟩))] _ ⟨.bool (decide (p0.op = 17)), .int .i64 p0.op, .pointer (some ⟨b3, 0, none⟩), Z, (by rw [g183, Bool.false_or])⟩
                 ·intro kk
                  refine bcase (b := ((((((((decide (p0.imm = 0)) || ((decide (p0.op = 9)) || (decide (p0.op = 10)))) || ((((decide (p0.op = 21)) && ((decide (p0.imm = 1)) || (decide (p0.imm = 2)))) && (decide (p0.a = (-1)))) || (((decide (p0.op = 21)) && (decide (p0.imm = 3))) && (decide (0 ≤ p0.a))))) || (decide (p0.op = 1))) || (decide (p0.op = 14))) || ((decide (p0.op = 16)) && (decide (0 < p0.imm)))) || ((decide (p0.op = 22)) && (decide (p0.imm = 1)))) || (decide (p0.op = 11))) || (decide (p0.op = 12))) (fun g184 => ?_) (fun g184 => ?_)
                  ·skip
                   refine U.x Z Z Z Z ((L 0 Z Z).trans (cB g184)) (by decide) ?_
                   refine U.x Z Z Z Z ((L 1 Z Z).trans (cB g184)) (by decide) ?_
                   refine U.x Z Z Z Z ((L 2 Z Z).trans (cB g184)) (by decide) ?_
                   refine U.p Z Z (.inr ⟨_, _, _, Z, Z, ((L 15 Z Z).trans (cB g158))⟩) (S.pickT Z ((L 3 Z Z).trans (cB g184)) K) ?_
                   exact kk [(129, .bool true), (128, .tuple #[]), (127, .tuple #[]), (126, .tuple #[])] _ ⟨.tuple #[], .tuple #[], .tuple #[], Z, (by rw [g184, Bool.true_or])⟩
                  ·skip
                   refine U.p (v := .pointer (some ⟨b3, 0, none⟩)) Z Z (.inr ⟨_, _, _, Z, Z, ((L 0 Z Z).trans (cB g184))⟩) (S.fieldAddr Z (L 124 Z Z) Tryd.underlying30 Z ti3 Z Z) ?_
                   refine U.k Z Z (.inr ⟨_, _, _, Z, Z, ((L 1 Z Z).trans (cB g184))⟩) (S.load Z (L 0 Z Z) Tryd.underlying3 Z ((ow6.own (k := 0) Z).cell Z)) nd ?_
                   refine U.p Z Z (.inr ⟨_, _, _, Z, Z, ((L 2 Z Z).trans (cB g184))⟩) (S.eqlI Z (L 0 Z Z) K) ?_
                   refine U.p Z Z (.inr ⟨_, _, _, Z, Z, ((L 15 Z Z).trans (cB g158))⟩) (S.pickF Z ((L 3 Z Z).trans (cB g184)) (L 0 Z Z)) ?_
                   exact kk [(129, .bool (decide (p0.op = 13))), (128, .bool (decide (p0.op = 13))), (127, .int .i64 p0.op), (126, .pointer (some ⟨b3, 0, none⟩))] _ ⟨.bool (decide (p0.op = 13)), .int .i64 p0.op, .pointer (some ⟨b3, 0, none⟩), Z, (by rw [g184, Bool.false_or])⟩
                ·intro kk
                 refine bcase (b := (((((((decide (p0.imm = 0)) || ((decide (p0.op = 9)) || (decide (p0.op = 10)))) || ((((decide (p0.op = 21)) && ((decide (p0.imm = 1)) || (decide (p0.imm = 2)))) && (decide (p0.a = (-1)))) || (((decide (p0.op = 21)) && (decide (p0.imm = 3))) && (decide (0 ≤ p0.a))))) || (decide (p0.op = 1))) || (decide (p0.op = 14))) || ((decide (p0.op = 16)) && (decide (0 < p0.imm)))) || ((decide (p0.op = 22)) && (decide (p0.imm = 1)))) || (decide (p0.op = 11))) (fun g185 => ?_) (fun g185 => ?_)
                 ·skip
                  refine U.x Z Z Z Z ((L 0 Z Z).trans (cB g185)) (by decide) ?_
                  refine U.x Z Z Z Z ((L 1 Z Z).trans (cB g185)) (by decide) ?_
                  refine U.x Z Z Z Z ((L 2 Z Z).trans (cB g185)) (by decide) ?_
                  refine U.p Z Z (.inr ⟨_, _, _, Z, Z, ((L 10 Z Z).trans (cB g158))⟩) (S.pickT Z ((L 3 Z Z).trans (cB g185)) K) ?_
                  exact kk [(124, .bool true), (123, .tuple #[]), (122, .tuple #[]), (121, .tuple #[])] _ ⟨.tuple #[], .tuple #[], .tuple #[], Z, (by rw [g185, Bool.true_or])⟩
                 ·skip
                  refine U.p (v := .pointer (some ⟨b3, 0, none⟩)) Z Z (.inr ⟨_, _, _, Z, Z, ((L 0 Z Z).trans (cB g185))⟩) (S.fieldAddr Z (L 119 Z Z) Tryd.underlying30 Z ti3 Z Z) ?_
                  refine U.k Z Z (.inr ⟨_, _, _, Z, Z, ((L 1 Z Z).trans (cB g185))⟩) (S.load Z (L 0 Z Z) Tryd.underlying3 Z ((ow6.own (k := 0) Z).cell Z)) nd ?_
                  refine U.p Z Z (.inr ⟨_, _, _, Z, Z, ((L 2 Z Z).trans (cB g185))⟩) (S.eqlI Z (L 0 Z Z) K) ?_
                  refine U.p Z Z (.inr ⟨_, _, _, Z, Z, ((L 10 Z Z).trans (cB g158))⟩) (S.pickF Z ((L 3 Z Z).trans (cB g185)) (L 0 Z Z)) ?_
                  exact kk [(124, .bool (decide (p0.op = 12))), (123, .bool (decide (p0.op = 12))), (122, .int .i64 p0.op), (121, .pointer (some ⟨b3, 0, none⟩))] _ ⟨.bool (decide (p0.op = 12)), .int .i64 p0.op, .pointer (some ⟨b3, 0, none⟩), Z, (by rw [g185, Bool.false_or])⟩
               ·intro kk
                refine bcase (b := ((((((decide (p0.imm = 0)) || ((decide (p0.op = 9)) || (decide (p0.op = 10)))) || ((((decide (p0.op = 21)) && ((decide (p0.imm = 1)) || (decide (p0.imm = 2)))) && (decide (p0.a = (-1)))) || (((decide (p0.op = 21)) && (decide (p0.imm = 3))) && (decide (0 ≤ p0.a))))) || (decide (p0.op = 1))) || (decide (p0.op = 14))) || ((decide (p0.op = 16)) && (decide (0 < p0.imm)))) || ((decide (p0.op = 22)) && (decide (p0.imm = 1)))) (fun g186 => ?_) (fun g186 => ?_)
                ·skip
                 refine U.x Z Z Z Z ((L 0 Z Z).trans (cB g186)) (by decide) ?_
                 refine U.x Z Z Z Z ((L 1 Z Z).trans (cB g186)) (by decide) ?_
                 refine U.x Z Z Z Z ((L 2 Z Z).trans (cB g186)) (by decide) ?_
                 refine U.p Z Z (.inr ⟨_, _, _, Z, Z, ((L 5 Z Z).trans (cB g158))⟩) (S.pickT Z ((L 3 Z Z).trans (cB g186)) K) ?_
                 exact kk [(119, .bool true), (118, .tuple #[]), (117, .tuple #[]), (116, .tuple #[])] _ ⟨.tuple #[], .tuple #[], .tuple #[], Z, (by rw [g186, Bool.true_or])⟩
                ·skip
                 refine U.p (v := .pointer (some ⟨b3, 0, none⟩)) Z Z (.inr ⟨_, _, _, Z, Z, ((L 0 Z Z).trans (cB g186))⟩) (S.fieldAddr Z (L 114 Z Z) Tryd.underlying30 Z ti3 Z Z) ?_
                 refine U.k Z Z (.inr ⟨_, _, _, Z, Z, ((L 1 Z Z).trans (cB g186))⟩) (S.load Z (L 0 Z Z) Tryd.underlying3 Z ((ow6.own (k := 0) Z).cell Z)) nd ?_
                 refine U.p Z Z (.inr ⟨_, _, _, Z, Z, ((L 2 Z Z).trans (cB g186))⟩) (S.eqlI Z (L 0 Z Z) K) ?_
                 refine U.p Z Z (.inr ⟨_, _, _, Z, Z, ((L 5 Z Z).trans (cB g158))⟩) (S.pickF Z ((L 3 Z Z).trans (cB g186)) (L 0 Z Z)) ?_
                 exact kk [(119, .bool (decide (p0.op = 11))), (118, .bool (decide (p0.op = 11))), (117, .int .i64 p0.op), (116, .pointer (some ⟨b3, 0, none⟩))] _ ⟨.bool (decide (p0.op = 11)), .int .i64 p0.op, .pointer (some ⟨b3, 0, none⟩), Z, (by rw [g186, Bool.false_or])⟩
              ·skip
               refine U.x Z Z Z Z ((L 0 Z Z).trans (cB g158)) (by decide) ?_
               refine U.x Z Z Z Z ((L 1 Z Z).trans (cB g158)) (by decide) ?_
               refine U.z Z Z Z Z (L 0 Z Z) ?_
               refine U.z Z Z Z Z (L 1 Z Z) ?_
               refine U.z Z Z Z Z (L 2 Z Z) ?_
               refine U.x Z Z Z Z ((L 5 Z Z).trans (cB g158)) (by decide) ?_
               refine U.x Z Z Z Z ((L 6 Z Z).trans (cB g158)) (by decide) ?_
               refine U.z Z Z Z Z (L 0 Z Z) ?_
               refine U.z Z Z Z Z (L 1 Z Z) ?_
               refine U.z Z Z Z Z (L 2 Z Z) ?_
               refine U.x Z Z Z Z ((L 10 Z Z).trans (cB g158)) (by decide) ?_
               refine U.x Z Z Z Z ((L 11 Z Z).trans (cB g158)) (by decide) ?_
               refine U.z Z Z Z Z (L 0 Z Z) ?_
               refine U.z Z Z Z Z (L 1 Z Z) ?_
               refine U.z Z Z Z Z (L 2 Z Z) ?_
               refine U.x Z Z Z Z ((L 15 Z Z).trans (cB g158)) (by decide) ?_
               refine U.x Z Z Z Z ((L 16 Z Z).trans (cB g158)) (by decide) ?_
               refine U.z Z Z Z Z (L 0 Z Z) ?_
               refine U.z Z Z Z Z (L 1 Z Z) ?_
               refine U.z Z Z Z Z (L 2 Z Z) ?_
               refine U.x Z Z Z Z ((L 20 Z Z).trans (cB g158)) (by decide) ?_
               refine U.p Z Z (.inl Z) (S.pickF Z ((L 21 Z Z).trans (cB g158)) K) ?_
               exact kk [(135, .bool false), (134, .tuple #[]), (133, .tuple #[]), (132, .tuple #[]), (131, .tuple #[]), (130, .tuple #[]), (129, .tuple #[]), (128, .tuple #[]), (127, .tuple #[]), (126, .tuple #[]), (125, .tuple #[]), (124, .tuple #[]), (123, .tuple #[]), (122, .tuple #[]), (121, .tuple #[]), (120, .tuple #[]), (119, .tuple #[]), (118, .tuple #[]), (117, .tuple #[]), (116, .tuple #[]), (115, .tuple #[]), (114, .tuple #[])] _ ⟨.tuple #[], .tuple #[], .tuple #[], .tuple #[], .tuple #[], .tuple #[], .tuple #[], .tuple #[], .tuple #[], .tuple #[], .tuple #[], .tuple #[], .tuple #[], .tuple #[], .tuple #[], .tuple #[], .tuple #[], .tuple #[], .tuple #[], .tuple #[], .tuple #[], Z, (by rw [g158, Bool.false_and])⟩
            ·intro kk
             refine bcase (b := ((decide (p0.op = 9)) || (decide (p0.op = 10))) || (((decide (p0.what = 0)) && (!p0.volatile)) && (!p0.final))) (fun g187 => ?_) (fun g187 => ?_)
             ·skip
              refine U.p (v := .pointer (some ⟨b3, 0, none⟩)) Z Z (.inr ⟨_, _, _, Z, Z, ((L 0 Z Z).trans (cB g187))⟩) (S.fieldAddr Z (L 101 Z Z) Tryd.underlying30 Z ti3 Z Z) ?_
              refine U.k Z Z (.inr ⟨_, _, _, Z, Z, ((L 1 Z Z).trans (cB g187))⟩) (S.load Z (L 0 Z Z) Tryd.underlying3 Z ((ow6.own (k := 0) Z).cell Z)) nd ?_
              refine U.p Z Z (.inr ⟨_, _, _, Z, Z, ((L 2 Z Z).trans (cB g187))⟩) (S.eqlI Z (L 0 Z Z) K) ?_
              refine U.p Z Z (.inr ⟨_, _, _, Z, Z, ((L 3 Z Z).trans (cB g187))⟩) (S.move Z (L 0 Z Z)) ?_
              refine U.joinX 26 (fun e H => ∃ (u188 u189 u190 u191 : Value), H = V4.H ∧ e = [(111, .bool ((decide (p0.op = 14)) || (decide ((p0.args.length : Int) = 0)))), (110, u188), (109, u189), (108, u190), (107, u191)]) ?_ ?_
              ·rintro _ _ ⟨u188, u189, u190, u191, rfl, rfl⟩
               refine U.p Z Z (.inl Z) (S.pickT Z ((L 9 Z Z).trans (cB g187)) (L 0 Z Z)) ?_
               exact kk [(112, .bool ((decide (p0.op = 14)) || (decide ((p0.args.length : Int) = 0)))), (111, .bool ((decide (p0.op = 14)) || (decide ((p0.args.length : Int) = 0)))), (110, u188), (109, u189), (108, u190), (107, u191), (106, .bool (decide (p0.op = 14))), (105, .bool (decide (p0.op = 14))), (104, .int .i64 p0.op), (103, .pointer (some ⟨b3, 0, none⟩))] _ ⟨.bool ((decide (p0.op = 14)) || (decide ((p0.args.length : Int) = 0))), u188, u189, u190, u191, .bool (decide (p0.op = 14)), .bool (decide (p0.op = 14)), .int .i64 p0.op, .pointer (some ⟨b3, 0, none⟩), Z, (by rw [g187, Bool.true_and])⟩
              ·intro kk
               refine bcase (b := decide (p0.op = 14)) (fun g195 => ?_) (fun g195 => ?_)
               ·skip
                refine U.x Z Z Z Z ((L 0 Z Z).trans (cB g195)) (by decide) ?_
                refine U.x Z Z Z Z ((L 1 Z Z).trans (cB g195)) (by decide) ?_
                refine U.x Z Z Z Z ((L 2 Z Z).trans (cB g195)) (by decide) ?_
                refine U.x Z Z Z Z ((L 3 Z Z).trans (cB g195)) (by decide) ?_
                refine U.p Z Z (.inr ⟨_, _, _, Z, Z, ((L 8 Z Z).trans (cB g187))⟩) (S.pickT Z ((L 4 Z Z).trans (cB g195)) K) ?_
                exact kk [(111, .bool true), (110, .tuple #[]), (109, .tuple #[]), (108, .tuple #[]), (107, .tuple #[])] _ ⟨.tuple #[], .tuple #[], .tuple #[], .tuple #[], Z, (by rw [g195, Bool.true_or])⟩
               ·skip
                refine U.p (v := .pointer (some ⟨b3, 5, none⟩)) Z Z (.inr ⟨_, _, _, Z, Z, ((L 0 Z Z).trans (cB g195))⟩) (S.fieldAddr Z (L 105 Z Z) Tryd.underlying30 Z ti28 Z Z) ?_
                refine U.k Z Z (.inr ⟨_, _, _, Z, Z, ((L 1 Z Z).trans (cB g195))⟩) (S.load Z (L 0 Z Z) Tryd.underlying28 Z ((ow6.own (k := 0) Z).cell Z)) nd ?_
                refine U.p Z Z (.inr ⟨_, _, _, Z, Z, ((L 2 Z Z).trans (cB g195))⟩) (f2.1.len Z (L 0 Z Z) Tryd.underlying28) ?_
                refine U.p Z Z (.inr ⟨_, _, _, Z, Z, ((L 3 Z Z).trans (cB g195))⟩) (S.eqlI Z (L 0 Z Z) K) ?_
                refine U.p Z Z (.inr ⟨_, _, _, Z, Z, ((L 8 Z Z).trans (cB g187))⟩) (S.pickF Z ((L 4 Z Z).trans (cB g195)) (L 0 Z Z)) ?_
                exact kk [(111, .bool (decide ((p0.args.length : Int) = 0))), (110, .bool (decide ((p0.args.length : Int) = 0))), (109, .int .i64 (p0.args.length : Int)), (108, v1), (107, .pointer (some ⟨b3, 5, none⟩))] _ ⟨.bool (decide ((p0.args.length : Int) = 0)), .int .i64 (p0.args.length : Int), v1, .pointer (some ⟨b3, 5, none⟩), Z, (by rw [g195, Bool.false_or])⟩
             ·skip
              refine U.x Z Z Z Z ((L 0 Z Z).trans (cB g187)) (by decide) ?_
              refine U.x Z Z Z Z ((L 1 Z Z).trans (cB g187)) (by decide) ?_
              refine U.x Z Z Z Z ((L 2 Z Z).trans (cB g187)) (by decide) ?_
              refine U.x Z Z Z Z ((L 3 Z Z).trans (cB g187)) (by decide) ?_
              refine U.z Z Z Z Z (L 0 Z Z) ?_
              refine U.z Z Z Z Z (L 1 Z Z) ?_
              refine U.z Z Z Z Z (L 2 Z Z) ?_
              refine U.z Z Z Z Z (L 3 Z Z) ?_
              refine U.x Z Z Z Z ((L 8 Z Z).trans (cB g187)) (by decide) ?_
              refine U.p Z Z (.inl Z) (S.pickF Z ((L 9 Z Z).trans (cB g187)) K) ?_
              exact kk [(112, .bool false), (111, .tuple #[]), (110, .tuple #[]), (109, .tuple #[]), (108, .tuple #[]), (107, .tuple #[]), (106, .tuple #[]), (105, .tuple #[]), (104, .tuple #[]), (103, .tuple #[])] _ ⟨.tuple #[], .tuple #[], .tuple #[], .tuple #[], .tuple #[], .tuple #[], .tuple #[], .tuple #[], .tuple #[], Z, (by rw [g187, Bool.false_and])⟩
           ·intro kk
            refine bcase (b := (decide (p0.op = 9)) || (decide (p0.op = 10))) (fun g196 => ?_) (fun g196 => ?_)
            ·skip
             refine U.x Z Z Z Z ((L 0 Z Z).trans (cB g196)) (by decide) ?_
             refine U.x Z Z Z Z ((L 1 Z Z).trans (cB g196)) (by decide) ?_
             refine U.x Z Z Z Z ((L 2 Z Z).trans (cB g196)) (by decide) ?_
             refine U.x Z Z Z Z ((L 3 Z Z).trans (cB g196)) (by decide) ?_
             refine U.z Z Z Z Z (L 0 Z Z) ?_
             refine U.z Z Z Z Z (L 1 Z Z) ?_
             refine U.z Z Z Z Z (L 2 Z Z) ?_
             refine U.x Z Z Z Z ((L 7 Z Z).trans (cB g196)) (by decide) ?_
             refine U.x Z Z Z Z ((L 8 Z Z).trans (cB g196)) (by decide) ?_
             refine U.z Z Z Z Z (L 0 Z Z) ?_
             refine U.z Z Z Z Z (L 1 Z Z) ?_
             refine U.z Z Z Z Z (L 2 Z Z) ?_
             refine U.x Z Z Z Z ((L 12 Z Z).trans (cB g196)) (by decide) ?_
             refine U.p Z Z (.inl Z) (S.pickT Z ((L 13 Z Z).trans (cB g196)) K) ?_
             exact kk [(101, .bool true), (100, .tuple #[]), (99, .tuple #[]), (98, .tuple #[]), (97, .tuple #[]), (96, .tuple #[]), (95, .tuple #[]), (94, .tuple #[]), (93, .tuple #[]), (92, .tuple #[]), (91, .tuple #[]), (90, .tuple #[]), (89, .tuple #[]), (88, .tuple #[])] _ ⟨.tuple #[], .tuple #[], .tuple #[], .tuple #[], .tuple #[], .tuple #[], .tuple #[], .tuple #[], .tuple #[], .tuple #[], .tuple #[], .tuple #[], .tuple #[], Z, (by rw [g196, Bool.true_or])⟩
            ·skip
             refine U.p (v := .pointer (some ⟨b3, 6, none⟩)) Z Z (.inr ⟨_, _, _, Z, Z, ((L 0 Z Z).trans (cB g196))⟩) (S.fieldAddr Z (L 86 Z Z) Tryd.underlying30 Z ti3 Z Z) ?_
             refine U.k Z Z (.inr ⟨_, _, _, Z, Z, ((L 1 Z Z).trans (cB g196))⟩) (S.load Z (L 0 Z Z) Tryd.underlying3 Z ((ow6.own (k := 0) Z).cell Z)) nd ?_
             refine U.p Z Z (.inr ⟨_, _, _, Z, Z, ((L 2 Z Z).trans (cB g196))⟩) (S.eqlI Z (L 0 Z Z) K) ?_
             refine U.p Z Z (.inr ⟨_, _, _, Z, Z, ((L 3 Z Z).trans (cB g196))⟩) (S.move Z (L 0 Z Z)) ?_
             refine U.joinX 10 (fun e H => ∃ (u197 u198 u199 : Value), H = V4.H ∧ e = [(95, .bool ((decide (p0.what = 0)) && (!p0.volatile))), (94, u197), (93, u198), (92, u199)]) ?_ ?_
             ·rintro _ _ ⟨u197, u198, u199, rfl, rfl⟩
              refine U.p Z Z (.inr ⟨_, _, _, Z, Z, ((L 8 Z Z).trans (cB g196))⟩) (S.move Z (L 0 Z Z)) ?_
              refine U.joinX 15 (fun e H => ∃ (u203 u204 u205 : Value), H = V4.H ∧ e = [(100, .bool (((decide (p0.what = 0)) && (!p0.volatile)) && (!p0.final))), (99, u203), (98, u204), (97, u205)]) ?_ ?_
              ·rintro _ _ ⟨u203, u204, u205, rfl, rfl⟩
               refine U.p Z Z (.inl Z) (S.pickF Z ((L 13 Z Z).trans (cB g196)) (L 0 Z Z)) ?_
               exact kk [(101, .bool (((decide (p0.what = 0)) && (!p0.volatile)) && (!p0.final))), (100, .bool (((decide (p0.what = 0)) && (!p0.volatile)) && (!p0.final))), (99, u203), (98, u204), (97, u205), (96, .bool ((decide (p0.what = 0)) && (!p0.volatile))), (95, .bool ((decide (p0.what = 0)) && (!p0.volatile))), (94, u197), (93, u198), (92, u199), (91, .bool (decide (p0.what = 0))), (90, .bool (decide (p0.what = 0))), (89, .int .i64 p0.what), (88, .pointer (some ⟨b3, 6, none⟩))] _ ⟨.bool (((decide (p0.what = 0)) && (!p0.volatile)) && (!p0.final)), u203, u204, u205, .bool ((decide (p0.what = 0)) && (!p0.volatile)), .bool ((decide (p0.what = 0)) && (!p0.volatile)), u197, u198, u199, .bool (decide (p0.what = 0)), .bool (decide (p0.what = 0)), .int .i64 p0.what, .pointer (some ⟨b3, 6, none⟩), Z, (by rw [g196, Bool.false_or])⟩
              ·intro kk
               refine bcase (b := (decide (p0.what = 0)) && (!p0.volatile)) (fun g209 => ?_) (fun g209 => ?_)
               ·skip
                refine U.p (v := .pointer (some ⟨b3, 8, none⟩)) Z Z (.inr ⟨_, _, _, Z, Z, ((L 0 Z Z).trans (cB g209))⟩) (S.fieldAddr Z (L 95 Z Z) Tryd.underlying30 Z ti4 Z Z) ?_
                refine U.k Z Z (.inr ⟨_, _, _, Z, Z, ((L 1 Z Z).trans (cB g209))⟩) (S.load Z (L 0 Z Z) Tryd.underlying4 Z ((ow6.own (k := 0) Z).cell Z)) nd ?_
                refine U.p Z Z (.inr ⟨_, _, _, Z, Z, ((L 2 Z Z).trans (cB g209))⟩) (S.not Z (L 0 Z Z)) ?_
                refine U.p Z Z (.inr ⟨_, _, _, Z, Z, ((L 12 Z Z).trans (cB g196))⟩) (S.pickT Z ((L 3 Z Z).trans (cB g209)) (L 0 Z Z)) ?_
                exact kk [(100, .bool (!p0.final)), (99, .bool (!p0.final)), (98, .bool p0.final), (97, .pointer (some ⟨b3, 8, none⟩))] _ ⟨.bool (!p0.final), .bool p0.final, .pointer (some ⟨b3, 8, none⟩), Z, (by rw [g209, Bool.true_and])⟩
               ·skip
                refine U.x Z Z Z Z ((L 0 Z Z).trans (cB g209)) (by decide) ?_
                refine U.x Z Z Z Z ((L 1 Z Z).trans (cB g209)) (by decide) ?_
                refine U.x Z Z Z Z ((L 2 Z Z).trans (cB g209)) (by decide) ?_
                refine U.p Z Z (.inr ⟨_, _, _, Z, Z, ((L 12 Z Z).trans (cB g196))⟩) (S.pickF Z ((L 3 Z Z).trans (cB g209)) K) ?_
                exact kk [(100, .bool false), (99, .tuple #[]), (98, .tuple #[]), (97, .tuple #[])] _ ⟨.tuple #[], .tuple #[], .tuple #[], Z, (by rw [g209, Bool.false_and])⟩
             ·intro kk
              refine bcase (b := decide (p0.what = 0)) (fun g210 => ?_) (fun g210 => ?_)
              ·skip
               refine U.p (v := .pointer (some ⟨b3, 7, none⟩)) Z Z (.inr ⟨_, _, _, Z, Z, ((L 0 Z Z).trans (cB g210))⟩) (S.fieldAddr Z (L 90 Z Z) Tryd.underlying30 Z ti4 Z Z) ?_
               refine U.k Z Z (.inr ⟨_, _, _, Z, Z, ((L 1 Z Z).trans (cB g210))⟩) (S.load Z (L 0 Z Z) Tryd.underlying4 Z ((ow6.own (k := 0) Z).cell Z)) nd ?_
               refine U.p Z Z (.inr ⟨_, _, _, Z, Z, ((L 2 Z Z).trans (cB g210))⟩) (S.not Z (L 0 Z Z)) ?_
               refine U.p Z Z (.inr ⟨_, _, _, Z, Z, ((L 7 Z Z).trans (cB g196))⟩) (S.pickT Z ((L 3 Z Z).trans (cB g210)) (L 0 Z Z)) ?_
               exact kk [(95, .bool (!p0.volatile)), (94, .bool (!p0.volatile)), (93, .bool p0.volatile), (92, .pointer (some ⟨b3, 7, none⟩))] _ ⟨.bool (!p0.volatile), .bool p0.volatile, .pointer (some ⟨b3, 7, none⟩), Z, (by rw [g210, Bool.true_and])⟩
              ·skip
               refine U.x Z Z Z Z ((L 0 Z Z).trans (cB g210)) (by decide) ?_
               refine U.x Z Z Z Z ((L 1 Z Z).trans (cB g210)) (by decide) ?_
               refine U.x Z Z Z Z ((L 2 Z Z).trans (cB g210)) (by decide) ?_
               refine U.p Z Z (.inr ⟨_, _, _, Z, Z, ((L 7 Z Z).trans (cB g196))⟩) (S.pickF Z ((L 3 Z Z).trans (cB g210)) K) ?_
               exact kk [(95, .bool false), (94, .tuple #[]), (93, .tuple #[]), (92, .tuple #[])] _ ⟨.tuple #[], .tuple #[], .tuple #[], Z, (by rw [g210, Bool.false_and])⟩
          ·intro kk
           refine bcase (b := (((((decide (p0.imm = 0)) || ((decide (p0.op = 9)) || (decide (p0.op = 10)))) || ((((decide (p0.op = 21)) && ((decide (p0.imm = 1)) || (decide (p0.imm = 2)))) && (decide (p0.a = (-1)))) || (((decide (p0.op = 21)) && (decide (p0.imm = 3))) && (decide (0 ≤ p0.a))))) || (decide (p0.op = 1))) || (decide (p0.op = 14))) || ((decide (p0.op = 16)) && (decide (0 < p0.imm)))) (fun g211 => ?_) (fun g211 => ?_)
           ·skip
            refine U.x Z Z Z Z ((L 0 Z Z).trans (cB g211)) (by decide) ?_
            refine U.x Z Z Z Z ((L 1 Z Z).trans (cB g211)) (by decide) ?_
            refine U.x Z Z Z Z ((L 2 Z Z).trans (cB g211)) (by decide) ?_
            refine U.x Z Z Z Z ((L 3 Z Z).trans (cB g211)) (by decide) ?_
            refine U.z Z Z Z Z (L 0 Z Z) ?_
            refine U.z Z Z Z Z (L 1 Z Z) ?_
            refine U.z Z Z Z Z (L 2 Z Z) ?_
            refine U.x Z Z Z Z ((L 7 Z Z).trans (cB g211)) (by decide) ?_
            refine U.p Z Z (.inl Z) (S.pickT Z ((L 8 Z Z).trans (cB g211)) K) ?_
            exact kk [(85, .bool true), (84, .tuple #[]), (83, .tuple #[]), (82, .tuple #[]), (81, .tuple #[]), (80, .tuple #[]), (79, .tuple #[]), (78, .tuple #[]), (77, .tuple #[])] _ ⟨.tuple #[], .tuple #[], .tuple #[], .tuple #[], .tuple #[], .tuple #[], .tuple #[], .tuple #[], Z, (by rw [g211, Bool.true_or])⟩
           ·skip
            refine U.p (v := .pointer (some ⟨b3, 0, none⟩)) Z Z (.inr ⟨_, _, _, Z, Z, ((L 0 Z Z).trans (cB g211))⟩) (S.fieldAddr Z (L 74 Z Z) Tryd.underlying30 Z ti3 Z Z) ?_
            refine U.k Z Z (.inr ⟨_, _, _, Z, Z, ((L 1 Z Z).trans (cB g211))⟩) (S.load Z (L 0 Z Z) Tryd.underlying3 Z ((ow6.own (k := 0) Z).cell Z)) nd ?_
            refine U.p Z Z (.inr ⟨_, _, _, Z, Z, ((L 2 Z Z).trans (cB g211))⟩) (S.eqlI Z (L 0 Z Z) K) ?_
            refine U.p Z Z (.inr ⟨_, _, _, Z, Z, ((L 3 Z Z).trans (cB g211))⟩) (S.move Z (L 0 Z Z)) ?_
            refine U.joinX 38 (fun e H => ∃ (u212 u213 u214 : Value), H = V4.H ∧ e = [(84, .bool ((decide (p0.op = 22)) && (decide (p0.imm = 1)))), (83, u212), (82, u213), (81, u214)]) ?_ ?_
            ·rintro _ _ ⟨u212, u213, u214, rfl, rfl⟩
             refine U.p Z Z (.inl Z) (S.pickF Z ((L 8 Z Z).trans (cB g211)) (L 0 Z Z)) ?_
             exact kk [(85, .bool ((decide (p0.op = 22)) && (decide (p0.imm = 1)))), (84, .bool ((decide (p0.op = 22)) && (decide (p0.imm = 1)))), (83, u212), (82, u213), (81, u214), (80, .bool (decide (p0.op = 22))), (79, .bool (decide (p0.op = 22))), (78, .int .i64 p0.op), (77, .pointer (some ⟨b3, 0, none⟩))] _ ⟨.bool ((decide (p0.op = 22)) && (decide (p0.imm = 1))), u212, u213, u214, .bool (decide (p0.op = 22)), .bool (decide (p0.op = 22)), .int .i64 p0.op, .pointer (some ⟨b3, 0, none⟩), Z, (by rw [g211, Bool.false_or])⟩
            ·intro kk
             refine bcase (b := decide (p0.op = 22)) (fun g218 => ?_) (fun g218 => ?_)
             ·skip
              refine U.p (v := .pointer (some ⟨b3, 4, none⟩)) Z Z (.inr ⟨_, _, _, Z, Z, ((L 0 Z Z).trans (cB g218))⟩) (S.fieldAddr Z (L 78 Z Z) Tryd.underlying30 Z ti3 Z Z) ?_
              refine U.k Z Z (.inr ⟨_, _, _, Z, Z, ((L 1 Z Z).trans (cB g218))⟩) (S.load Z (L 0 Z Z) Tryd.underlying3 Z ((ow6.own (k := 0) Z).cell Z)) nd ?_
              refine U.p Z Z (.inr ⟨_, _, _, Z, Z, ((L 2 Z Z).trans (cB g218))⟩) (S.eqlI Z (L 0 Z Z) K) ?_
              refine U.p Z Z (.inr ⟨_, _, _, Z, Z, ((L 7 Z Z).trans (cB g211))⟩) (S.pickT Z ((L 3 Z Z).trans (cB g218)) (L 0 Z Z)) ?_
              exact kk [(84, .bool (decide (p0.imm = 1))), (83, .bool (decide (p0.imm = 1))), (82, .int .i64 p0.imm), (81, .pointer (some ⟨b3, 4, none⟩))] _ ⟨.bool (decide (p0.imm = 1)), .int .i64 p0.imm, .pointer (some ⟨b3, 4, none⟩), Z, (by rw [g218, Bool.true_and])⟩
             ·skip
              refine U.x Z Z Z Z ((L 0 Z Z).trans (cB g218)) (by decide) ?_
              refine U.x Z Z Z Z ((L 1 Z Z).trans (cB g218)) (by decide) ?_
              refine U.x Z Z Z Z ((L 2 Z Z).trans (cB g218)) (by decide) ?_
              refine U.p Z Z (.inr ⟨_, _, _, Z, Z, ((L 7 Z Z).trans (cB g211))⟩) (S.pickF Z ((L 3 Z Z).trans (cB g218)) K) ?_
              exact kk [(84, .bool false), (83, .tuple #[]), (82, .tuple #[]), (81, .tuple #[])] _ ⟨.tuple #[], .tuple #[], .tuple #[], Z, (by rw [g218, Bool.false_and])⟩
         ·intro kk
          refine bcase (b := ((((decide (p0.imm = 0)) || ((decide (p0.op = 9)) || (decide (p0.op = 10)))) || ((((decide (p0.op = 21)) && ((decide (p0.imm = 1)) || (decide (p0.imm = 2)))) && (decide (p0.a = (-1)))) || (((decide (p0.op = 21)) && (decide (p0.imm = 3))) && (decide (0 ≤ p0.a))))) || (decide (p0.op = 1))) || (decide (p0.op = 14))) (fun g219 => ?_) (fun g219 => ?_)
          ·skip
           refine U.x Z Z Z Z ((L 0 Z Z).trans (cB g219)) (by decide) ?_
           refine U.x Z Z Z Z ((L 1 Z Z).trans (cB g219)) (by decide) ?_
           refine U.x Z Z Z Z ((L 2 Z Z).trans (cB g219)) (by decide) ?_
           refine U.x Z Z Z Z ((L 3 Z Z).trans (cB g219)) (by decide) ?_
           refine U.z Z Z Z Z (L 0 Z Z) ?_
           refine U.z Z Z Z Z (L 1 Z Z) ?_
           refine U.z Z Z Z Z (L 2 Z Z) ?_
           refine U.x Z Z Z Z ((L 7 Z Z).trans (cB g219)) (by decide) ?_
           refine U.p Z Z (.inl Z) (S.pickT Z ((L 8 Z Z).trans (cB g219)) K) ?_
           exact kk [(75, .bool true), (74, .tuple #[]), (73, .tuple #[]), (72, .tuple #[]), (71, .tuple #[]), (70, .tuple #[]), (69, .tuple #[]), (68, .tuple #[]), (67, .tuple #[])] _ ⟨.tuple #[], .tuple #[], .tuple #[], .tuple #[], .tuple #[], .tuple #[], .tuple #[], .tuple #[], Z, (by rw [g219, Bool.true_or])⟩
          ·skip
           refine U.p (v := .pointer (some ⟨b3, 0, none⟩)) Z Z (.inr ⟨_, _, _, Z, Z, ((L 0 Z Z).trans (cB g219))⟩) (S.fieldAddr Z (L 64 Z Z) Tryd.underlying30 Z ti3 Z Z) ?_
           refine U.k Z Z (.inr ⟨_, _, _, Z, Z, ((L 1 Z Z).trans (cB g219))⟩) (S.load Z (L 0 Z Z) Tryd.underlying3 Z ((ow6.own (k := 0) Z).cell Z)) nd ?_
           refine U.p Z Z (.inr ⟨_, _, _, Z, Z, ((L 2 Z Z).trans (cB g219))⟩) (S.eqlI Z (L 0 Z Z) K) ?_
           refine U.p Z Z (.inr ⟨_, _, _, Z, Z, ((L 3 Z Z).trans (cB g219))⟩) (S.move Z (L 0 Z Z)) ?_
           refine U.joinX 28 (fun e H => ∃ (u220 u221 u222 : Value), H = V4.H ∧ e = [(74, .bool ((decide (p0.op = 16)) && (decide (0 < p0.imm)))), (73, u220), (72, u221), (71, u222)]) ?_ ?_
           ·rintro _ _ ⟨u220, u221, u222, rfl, rfl⟩
            refine U.p Z Z (.inl Z) (S.pickF Z ((L 8 Z Z).trans (cB g219)) (L 0 Z Z)) ?_
            exact kk [(75, .bool ((decide (p0.op = 16)) && (decide (0 < p0.imm)))), (74, .bool ((decide (p0.op = 16)) && (decide (0 < p0.imm)))), (73, u220), (72, u221), (71, u222), (70, .bool (decide (p0.op = 16))), (69, .bool (decide (p0.op = 16))), (68, .int .i64 p0.op), (67, .pointer (some ⟨b3, 0, none⟩))] _ ⟨.bool ((decide (p0.op = 16)) && (decide (0 < p0.imm))), u220, u221, u222, .bool (decide (p0.op = 16)), .bool (decide (p0.op = 16)), .int .i64 p0.op, .pointer (some ⟨b3, 0, none⟩), Z, (by rw [g219, Bool.false_or])⟩
           ·intro kk
            refine bcase (b := decide (p0.op = 16)) (fun g226 => ?_) (fun g226 => ?_)
            ·skip
             refine U.p (v := .pointer (some ⟨b3, 4, none⟩)) Z Z (.inr ⟨_, _, _, Z, Z, ((L 0 Z Z).trans (cB g226))⟩) (S.fieldAddr Z (L 68 Z Z) Tryd.underlying30 Z ti3 Z Z) ?_
             refine U.k Z Z (.inr ⟨_, _, _, Z, Z, ((L 1 Z Z).trans (cB g226))⟩) (S.load Z (L 0 Z Z) Tryd.underlying3 Z ((ow6.own (k := 0) Z).cell Z)) nd ?_
             refine U.p Z Z (.inr ⟨_, _, _, Z, Z, ((L 2 Z Z).trans (cB g226))⟩) (S.gtr Z (L 0 Z Z) K) ?_
             refine U.p Z Z (.inr ⟨_, _, _, Z, Z, ((L 7 Z Z).trans (cB g219))⟩) (S.pickT Z ((L 3 Z Z).trans (cB g226)) (L 0 Z Z)) ?_
             exact kk [(74, .bool (decide (0 < p0.imm))), (73, .bool (decide (0 < p0.imm))), (72, .int .i64 p0.imm), (71, .pointer (some ⟨b3, 4, none⟩))] _ ⟨.bool (decide (0 < p0.imm)), .int .i64 p0.imm, .pointer (some ⟨b3, 4, none⟩), Z, (by rw [g226, Bool.true_and])⟩
            ·skip
             refine U.x Z Z Z Z ((L 0 Z Z).trans (cB g226)) (by decide) ?_
             refine U.x Z Z Z Z ((L 1 Z Z).trans (cB g226)) (by decide) ?_
             refine U.x Z Z Z Z ((L 2 Z Z).trans (cB g226)) (by decide) ?_
             refine U.p Z Z (.inr ⟨_, _, _, Z, Z, ((L 7 Z Z).trans (cB g219))⟩) (S.pickF Z ((L 3 Z Z).trans (cB g226)) K) ?_
             exact kk [(74, .bool false), (73, .tuple #[]), (72, .tuple #[]), (71, .tuple #[])] _ ⟨.tuple #[], .tuple #[], .tuple #[], Z, (by rw [g226, Bool.false_and])⟩
        ·intro kk
         refine bcase (b := (((decide (p0.imm = 0)) || ((decide (p0.op = 9)) || (decide (p0.op = 10)))) || ((((decide (p0.op = 21)) && ((decide (p0.imm = 1)) || (decide (p0.imm = 2)))) && (decide (p0.a = (-1)))) || (((decide (p0.op = 21)) && (decide (p0.imm = 3))) && (decide (0 ≤ p0.a))))) || (decide (p0.op = 1))) (fun g227 => ?_) (fun g227 => ?_)
         ·skip
          refine U.x Z Z Z Z ((L 0 Z Z).trans (cB g227)) (by decide) ?_
          refine U.x Z Z Z Z ((L 1 Z Z).trans (cB g227)) (by decide) ?_
          refine U.x Z Z Z Z ((L 2 Z Z).trans (cB g227)) (by decide) ?_
          refine U.p Z Z (.inl Z) (S.pickT Z ((L 3 Z Z).trans (cB g227)) K) ?_
          exact kk [(65, .bool true), (64, .tuple #[]), (63, .tuple #[]), (62, .tuple #[])] _ ⟨.tuple #[], .tuple #[], .tuple #[], Z, (by rw [g227, Bool.true_or])⟩
         ·skip
          refine U.p (v := .pointer (some ⟨b3, 0, none⟩)) Z Z (.inr ⟨_, _, _, Z, Z, ((L 0 Z Z).trans (cB g227))⟩) (S.fieldAddr Z (L 59 Z Z) Tryd.underlying30 Z ti3 Z Z) ?_
          refine U.k Z Z (.inr ⟨_, _, _, Z, Z, ((L 1 Z Z).trans (cB g227))⟩) (S.load Z (L 0 Z Z) Tryd.underlying3 Z ((ow6.own (k := 0) Z).cell Z)) nd ?_
          refine U.p Z Z (.inr ⟨_, _, _, Z, Z, ((L 2 Z Z).trans (cB g227))⟩) (S.eqlI Z (L 0 Z Z) K) ?_
          refine U.p Z Z (.inl Z) (S.pickF Z ((L 3 Z Z).trans (cB g227)) (L 0 Z Z)) ?_
          exact kk [(65, .bool (decide (p0.op = 14))), (64, .bool (decide (p0.op = 14))), (63, .int .i64 p0.op), (62, .pointer (some ⟨b3, 0, none⟩))] _ ⟨.bool (decide (p0.op = 14)), .int .i64 p0.op, .pointer (some ⟨b3, 0, none⟩), Z, (by rw [g227, Bool.false_or])⟩
       ·intro kk
        refine bcase (b := ((decide (p0.imm = 0)) || ((decide (p0.op = 9)) || (decide (p0.op = 10)))) || ((((decide (p0.op = 21)) && ((decide (p0.imm = 1)) || (decide (p0.imm = 2)))) && (decide (p0.a = (-1)))) || (((decide (p0.op = 21)) && (decide (p0.imm = 3))) && (decide (0 ≤ p0.a))))) (fun g228 => ?_) (fun g228 => ?_)
        ·skip
         refine U.x Z Z Z Z ((L 0 Z Z).trans (cB g228)) (by decide) ?_
         refine U.x Z Z Z Z ((L 1 Z Z).trans (cB g228)) (by decide) ?_
         refine U.x Z Z Z Z ((L 2 Z Z).trans (cB g228)) (by decide) ?_
         refine U.p Z Z (.inl Z) (S.pickT Z ((L 3 Z Z).trans (cB g228)) K) ?_
         exact kk [(60, .bool true), (59, .tuple #[]), (58, .tuple #[]), (57, .tuple #[])] _ ⟨.tuple #[], .tuple #[], .tuple #[], Z, (by rw [g228, Bool.true_or])⟩
        ·skip
         refine U.p (v := .pointer (some ⟨b3, 0, none⟩)) Z Z (.inr ⟨_, _, _, Z, Z, ((L 0 Z Z).trans (cB g228))⟩) (S.fieldAddr Z (L 54 Z Z) Tryd.underlying30 Z ti3 Z Z) ?_
         refine U.k Z Z (.inr ⟨_, _, _, Z, Z, ((L 1 Z Z).trans (cB g228))⟩) (S.load Z (L 0 Z Z) Tryd.underlying3 Z ((ow6.own (k := 0) Z).cell Z)) nd ?_
         refine U.p Z Z (.inr ⟨_, _, _, Z, Z, ((L 2 Z Z).trans (cB g228))⟩) (S.eqlI Z (L 0 Z Z) K) ?_
         refine U.p Z Z (.inl Z) (S.pickF Z ((L 3 Z Z).trans (cB g228)) (L 0 Z Z)) ?_
         exact kk [(60, .bool (decide (p0.op = 1))), (59, .bool (decide (p0.op = 1))), (58, .int .i64 p0.op), (57, .pointer (some ⟨b3, 0, none⟩))] _ ⟨.bool (decide (p0.op = 1)), .int .i64 p0.op, .pointer (some ⟨b3, 0, none⟩), Z, (by rw [g228, Bool.false_or])⟩
      ·intro kk
       refine bcase (b := (decide (p0.imm = 0)) || ((decide (p0.op = 9)) || (decide (p0.op = 10)))) (fun g229 => ?_) (fun g229 => ?_)
       ·skip
        refine U.x Z Z Z Z ((L 0 Z Z).trans (cB g229)) (by decide) ?_
        refine U.p Z Z (.inl Z) (S.pickT Z ((L 1 Z Z).trans (cB g229)) K) ?_
        exact kk [(55, .bool true), (54, .tuple #[])] _ ⟨.tuple #[], Z, (by rw [g229, Bool.true_or])⟩
       ·skip
        refine U.p Z Z (.inr ⟨_, _, _, Z, Z, ((L 0 Z Z).trans (cB g229))⟩) (S.move Z (L 7 Z Z)) ?_
        refine U.p Z Z (.inl Z) (S.pickF Z ((L 1 Z Z).trans (cB g229)) (L 0 Z Z)) ?_
        exact kk [(55, .bool ((((decide (p0.op = 21)) && ((decide (p0.imm = 1)) || (decide (p0.imm = 2)))) && (decide (p0.a = (-1)))) || (((decide (p0.op = 21)) && (decide (p0.imm = 3))) && (decide (0 ≤ p0.a))))), (54, .bool ((((decide (p0.op = 21)) && ((decide (p0.imm = 1)) || (decide (p0.imm = 2)))) && (decide (p0.a = (-1)))) || (((decide (p0.op = 21)) && (decide (p0.imm = 3))) && (decide (0 ≤ p0.a)))))] _ ⟨.bool ((((decide (p0.op = 21)) && ((decide (p0.imm = 1)) || (decide (p0.imm = 2)))) && (decide (p0.a = (-1)))) || (((decide (p0.op = 21)) && (decide (p0.imm = 3))) && (decide (0 ≤ p0.a)))), Z, (by rw [g229, Bool.false_or])⟩
     ·intro kk
      refine bcase (b := decide (p0.imm = 0)) (fun g230 => ?_) (fun g230 => ?_)
      ·skip
       refine U.x Z Z Z Z ((L 0 Z Z).trans (cB g230)) (by decide) ?_
       refine U.p Z Z (.inl Z) (S.pickT Z ((L 1 Z Z).trans (cB g230)) K) ?_
       exact kk [(52, .bool true), (51, .tuple #[])] _ ⟨.tuple #[], Z, (by rw [g230, Bool.true_or])⟩
      ·skip
       refine U.p Z Z (.inr ⟨_, _, _, Z, Z, ((L 0 Z Z).trans (cB g230))⟩) (S.move Z (L 38 Z Z)) ?_
       refine U.p Z Z (.inl Z) (S.pickF Z ((L 1 Z Z).trans (cB g230)) (L 0 Z Z)) ?_
       exact kk [(52, .bool ((decide (p0.op = 9)) || (decide (p0.op = 10)))), (51, .bool ((decide (p0.op = 9)) || (decide (p0.op = 10))))] _ ⟨.bool ((decide (p0.op = 9)) || (decide (p0.op = 10))), Z, (by rw [g230, Bool.false_or])⟩
    ·intro kk
     refine bcase (b := ((decide (p0.op = 21)) && ((decide (p0.imm = 1)) || (decide (p0.imm = 2)))) && (decide (p0.a = (-1)))) (fun g231 => ?_) (fun g231 => ?_)
     ·skip
      refine U.x Z Z Z Z ((L 0 Z Z).trans (cB g231)) (by decide) ?_
      refine U.x Z Z Z Z ((L 1 Z Z).trans (cB g231)) (by decide) ?_
      refine U.x Z Z Z Z ((L 2 Z Z).trans (cB g231)) (by decide) ?_
      refine U.x Z Z Z Z ((L 3 Z Z).trans (cB g231)) (by decide) ?_
      refine U.z Z Z Z Z (L 0 Z Z) ?_
      refine U.z Z Z Z Z (L 1 Z Z) ?_
      refine U.z Z Z Z Z (L 2 Z Z) ?_
      refine U.x Z Z Z Z ((L 7 Z Z).trans (cB g231)) (by decide) ?_
      refine U.x Z Z Z Z ((L 8 Z Z).trans (cB g231)) (by decide) ?_
      refine U.z Z Z Z Z (L 0 Z Z) ?_
      refine U.z Z Z Z Z (L 1 Z Z) ?_
      refine U.z Z Z Z Z (L 2 Z Z) ?_
      refine U.x Z Z Z Z ((L 12 Z Z).trans (cB g231)) (by decide) ?_
      refine U.p Z Z (.inl Z) (S.pickT Z ((L 13 Z Z).trans (cB g231)) K) ?_
      exact kk [(46, .bool true), (45, .tuple #[]), (44, .tuple #[]), (43, .tuple #[]), (42, .tuple #[]), (41, .tuple #[]), (40, .tuple #[]), (39, .tuple #[]), (38, .tuple #[]), (37, .tuple #[]), (36, .tuple #[]), (35, .tuple #[]), (34, .tuple #[]), (33, .tuple #[])] _ ⟨.tuple #[], .tuple #[], .tuple #[], .tuple #[], .tuple #[], .tuple #[], .tuple #[], .tuple #[], .tuple #[], .tuple #[], .tuple #[], .tuple #[], .tuple #[], Z, (by rw [g231, Bool.true_or])⟩
     ·skip
      refine U.p (v := .pointer (some ⟨b3, 0, none⟩)) Z Z (.inr ⟨_, _, _, Z, Z, ((L 0 Z Z).trans (cB g231))⟩) (S.fieldAddr Z (L 29 Z Z) Tryd.underlying30 Z ti3 Z Z) ?_
      refine U.k Z Z (.inr ⟨_, _, _, Z, Z, ((L 1 Z Z).trans (cB g231))⟩) (S.load Z (L 0 Z Z) Tryd.underlying3 Z ((ow6.own (k := 0) Z).cell Z)) nd ?_
      refine U.p Z Z (.inr ⟨_, _, _, Z, Z, ((L 2 Z Z).trans (cB g231))⟩) (S.eqlI Z (L 0 Z Z) K) ?_
      refine U.p Z Z (.inr ⟨_, _, _, Z, Z, ((L 3 Z Z).trans (cB g231))⟩) (S.move Z (L 0 Z Z)) ?_
      refine U.joinX 27 (fun e H => ∃ (u232 u233 u234 : Value), H = V4.H ∧ e = [(40, .bool ((decide (p0.op = 21)) && (decide (p0.imm = 3)))), (39, u232), (38, u233), (37, u234)]) ?_ ?_
      ·rintro _ _ ⟨u232, u233, u234, rfl, rfl⟩
       refine U.p Z Z (.inr ⟨_, _, _, Z, Z, ((L 8 Z Z).trans (cB g231))⟩) (S.move Z (L 0 Z Z)) ?_
       refine U.joinX 32 (fun e H => ∃ (u238 u239 u240 : Value), H = V4.H ∧ e = [(45, .bool (((decide (p0.op = 21)) && (decide (p0.imm = 3))) && (decide (0 ≤ p0.a)))), (44, u238), (43, u239), (42, u240)]) ?_ ?_
       ·rintro _ _ ⟨u238, u239, u240, rfl, rfl⟩
        refine U.p Z Z (.inl Z) (S.pickF Z ((L 13 Z Z).trans (cB g231)) (L 0 Z Z)) ?_
        exact kk [(46, .bool (((decide (p0.op = 21)) && (decide (p0.imm = 3))) && (decide (0 ≤ p0.a)))), (45, .bool (((decide (p0.op = 21)) && (decide (p0.imm = 3))) && (decide (0 ≤ p0.a)))), (44, u238), (43, u239), (42, u240), (41, .bool ((decide (p0.op = 21)) && (decide (p0.imm = 3)))), (40, .bool ((decide (p0.op = 21)) && (decide (p0.imm = 3)))), (39, u232), (38, u233), (37, u234), (36, .bool (decide (p0.op = 21))), (35, .bool (decide (p0.op = 21))), (34, .int .i64 p0.op), (33, .pointer (some ⟨b3, 0, none⟩))] _ ⟨.bool (((decide (p0.op = 21)) && (decide (p0.imm = 3))) && (decide (0 ≤ p0.a))), u238, u239, u240, .bool ((decide (p0.op = 21)) && (decide (p0.imm = 3))), .bool ((decide (p0.op = 21)) && (decide (p0.imm = 3))), u232, u233, u234, .bool (decide (p0.op = 21)), .bool (decide (p0.op = 21)), .int .i64 p0.op, .pointer (some ⟨b3, 0, none⟩), Z, (by rw [g231, Bool.false_or])⟩
       ·intro kk
        refine bcase (b := (decide (p0.op = 21)) && (decide (p0.imm = 3))) (fun g244 => ?_) (fun g244 => ?_)
        ·skip
         refine U.p (v := .pointer (some ⟨b3, 2, none⟩)) Z Z (.inr ⟨_, _, _, Z, Z, ((L 0 Z Z).trans (cB g244))⟩) (S.fieldAddr Z (L 38 Z Z) Tryd.underlying30 Z ti3 Z Z) ?_
         refine U.k Z Z (.inr ⟨_, _, _, Z, Z, ((L 1 Z Z).trans (cB g244))⟩) (S.load Z (L 0 Z Z) Tryd.underlying3 Z ((ow6.own (k := 0) Z).cell Z)) nd ?_
         refine U.p Z Z (.inr ⟨_, _, _, Z, Z, ((L 2 Z Z).trans (cB g244))⟩) (S.geq Z (L 0 Z Z) K) ?_
         refine U.p Z Z (.inr ⟨_, _, _, Z, Z, ((L 12 Z Z).trans (cB g231))⟩) (S.pickT Z ((L 3 Z Z).trans (cB g244)) (L 0 Z Z)) ?_
         exact kk [(45, .bool (decide (0 ≤ p0.a))), (44, .bool (decide (0 ≤ p0.a))), (43, .int .i64 p0.a), (42, .pointer (some ⟨b3, 2, none⟩))] _ ⟨.bool (decide (0 ≤ p0.a)), .int .i64 p0.a, .pointer (some ⟨b3, 2, none⟩), Z, (by rw [g244, Bool.true_and])⟩
        ·skip
         refine U.x Z Z Z Z ((L 0 Z Z).trans (cB g244)) (by decide) ?_
         refine U.x Z Z Z Z ((L 1 Z Z).trans (cB g244)) (by decide) ?_
         refine U.x Z Z Z Z ((L 2 Z Z).trans (cB g244)) (by decide) ?_
         refine U.p Z Z (.inr ⟨_, _, _, Z, Z, ((L 12 Z Z).trans (cB g231))⟩) (S.pickF Z ((L 3 Z Z).trans (cB g244)) K) ?_
         exact kk [(45, .bool false), (44, .tuple #[]), (43, .tuple #[]), (42, .tuple #[])] _ ⟨.tuple #[], .tuple #[], .tuple #[], Z, (by rw [g244, Bool.false_and])⟩
      ·intro kk
       refine bcase (b := decide (p0.op = 21)) (fun g245 => ?_) (fun g245 => ?_)
       ·skip
        refine U.p (v := .pointer (some ⟨b3, 4, none⟩)) Z Z (.inr ⟨_, _, _, Z, Z, ((L 0 Z Z).trans (cB g245))⟩) (S.fieldAddr Z (L 33 Z Z) Tryd.underlying30 Z ti3 Z Z) ?_
        refine U.k Z Z (.inr ⟨_, _, _, Z, Z, ((L 1 Z Z).trans (cB g245))⟩) (S.load Z (L 0 Z Z) Tryd.underlying3 Z ((ow6.own (k := 0) Z).cell Z)) nd ?_
        refine U.p Z Z (.inr ⟨_, _, _, Z, Z, ((L 2 Z Z).trans (cB g245))⟩) (S.eqlI Z (L 0 Z Z) K) ?_
        refine U.p Z Z (.inr ⟨_, _, _, Z, Z, ((L 7 Z Z).trans (cB g231))⟩) (S.pickT Z ((L 3 Z Z).trans (cB g245)) (L 0 Z Z)) ?_
        exact kk [(40, .bool (decide (p0.imm = 3))), (39, .bool (decide (p0.imm = 3))), (38, .int .i64 p0.imm), (37, .pointer (some ⟨b3, 4, none⟩))] _ ⟨.bool (decide (p0.imm = 3)), .int .i64 p0.imm, .pointer (some ⟨b3, 4, none⟩), Z, (by rw [g245, Bool.true_and])⟩
       ·skip
        refine U.x Z Z Z Z ((L 0 Z Z).trans (cB g245)) (by decide) ?_
        refine U.x Z Z Z Z ((L 1 Z Z).trans (cB g245)) (by decide) ?_
        refine U.x Z Z Z Z ((L 2 Z Z).trans (cB g245)) (by decide) ?_
        refine U.p Z Z (.inr ⟨_, _, _, Z, Z, ((L 7 Z Z).trans (cB g231))⟩) (S.pickF Z ((L 3 Z Z).trans (cB g245)) K) ?_
        exact kk [(40, .bool false), (39, .tuple #[]), (38, .tuple #[]), (37, .tuple #[])] _ ⟨.tuple #[], .tuple #[], .tuple #[], Z, (by rw [g245, Bool.false_and])⟩
   ·intro kk
    refine bcase (b := (decide (p0.op = 21)) && ((decide (p0.imm = 1)) || (decide (p0.imm = 2)))) (fun g246 => ?_) (fun g246 => ?_)
    ·skip
     refine U.p (v := .pointer (some ⟨b3, 2, none⟩)) Z Z (.inr ⟨_, _, _, Z, Z, ((L 0 Z Z).trans (cB g246))⟩) (S.fieldAddr Z (L 24 Z Z) Tryd.underlying30 Z ti3 Z Z) ?_
     refine U.k Z Z (.inr ⟨_, _, _, Z, Z, ((L 1 Z Z).trans (cB g246))⟩) (S.load Z (L 0 Z Z) Tryd.underlying3 Z ((ow6.own (k := 0) Z).cell Z)) nd ?_
     refine U.p Z Z (.inr ⟨_, _, _, Z, Z, ((L 2 Z Z).trans (cB g246))⟩) (S.eqlI Z (L 0 Z Z) K) ?_
     refine U.p Z Z (.inl Z) (S.pickT Z ((L 3 Z Z).trans (cB g246)) (L 0 Z Z)) ?_
     exact kk [(31, .bool (decide (p0.a = (-1)))), (30, .bool (decide (p0.a = (-1)))), (29, .int .i64 p0.a), (28, .pointer (some ⟨b3, 2, none⟩))] _ ⟨.bool (decide (p0.a = (-1))), .int .i64 p0.a, .pointer (some ⟨b3, 2, none⟩), Z, (by rw [g246, Bool.true_and])⟩
    ·skip
     refine U.x Z Z Z Z ((L 0 Z Z).trans (cB g246)) (by decide) ?_
     refine U.x Z Z Z Z ((L 1 Z Z).trans (cB g246)) (by decide) ?_
     refine U.x Z Z Z Z ((L 2 Z Z).trans (cB g246)) (by decide) ?_
     refine U.p Z Z (.inl Z) (S.pickF Z ((L 3 Z Z).trans (cB g246)) K) ?_
     exact kk [(31, .bool false), (30, .tuple #[]), (29, .tuple #[]), (28, .tuple #[])] _ ⟨.tuple #[], .tuple #[], .tuple #[], Z, (by rw [g246, Bool.false_and])⟩
  ·intro kk
   refine bcase (b := decide (p0.op = 21)) (fun g247 => ?_) (fun g247 => ?_)
   ·skip
    refine U.p (v := .pointer (some ⟨b3, 4, none⟩)) Z Z (.inr ⟨_, _, _, Z, Z, ((L 0 Z Z).trans (cB g247))⟩) (S.fieldAddr Z (L 14 Z Z) Tryd.underlying30 Z ti3 Z Z) ?_
    refine U.k Z Z (.inr ⟨_, _, _, Z, Z, ((L 1 Z Z).trans (cB g247))⟩) (S.load Z (L 0 Z Z) Tryd.underlying3 Z ((ow6.own (k := 0) Z).cell Z)) nd ?_
    refine U.p Z Z (.inr ⟨_, _, _, Z, Z, ((L 2 Z Z).trans (cB g247))⟩) (S.eqlI Z (L 0 Z Z) K) ?_
    refine U.p Z Z (.inr ⟨_, _, _, Z, Z, ((L 3 Z Z).trans (cB g247))⟩) (S.move Z (L 0 Z Z)) ?_
    refine U.joinX 12 (fun e H => ∃ (u248 u249 u250 : Value), H = V4.H ∧ e = [(25, .bool ((decide (p0.imm = 1)) || (decide (p0.imm = 2)))), (24, u248), (23, u249), (22, u250)]) ?_ ?_
    ·rintro _ _ ⟨u248, u249, u250, rfl, rfl⟩
     refine U.p Z Z (.inl Z) (S.pickT Z ((L 8 Z Z).trans (cB g247)) (L 0 Z Z)) ?_
     exact kk [(26, .bool ((decide (p0.imm = 1)) || (decide (p0.imm = 2)))), (25, .bool ((decide (p0.imm = 1)) || (decide (p0.imm = 2)))), (24, u248), (23, u249), (22, u250), (21, .bool (decide (p0.imm = 1))), (20, .bool (decide (p0.imm = 1))), (19, .int .i64 p0.imm), (18, .pointer (some ⟨b3, 4, none⟩))] _ ⟨.bool ((decide (p0.imm = 1)) || (decide (p0.imm = 2))), u248, u249, u250, .bool (decide (p0.imm = 1)), .bool (decide (p0.imm = 1)), .int .i64 p0.imm, .pointer (some ⟨b3, 4, none⟩), Z, (by rw [g247, Bool.true_and])⟩
    ·intro kk
     refine bcase (b := decide (p0.imm = 1)) (fun g254 => ?_) (fun g254 => ?_)
     ·skip
      refine U.x Z Z Z Z ((L 0 Z Z).trans (cB g254)) (by decide) ?_
      refine U.x Z Z Z Z ((L 1 Z Z).trans (cB g254)) (by decide) ?_
      refine U.x Z Z Z Z ((L 2 Z Z).trans (cB g254)) (by decide) ?_
      refine U.p Z Z (.inr ⟨_, _, _, Z, Z, ((L 7 Z Z).trans (cB g247))⟩) (S.pickT Z ((L 3 Z Z).trans (cB g254)) K) ?_
      exact kk [(25, .bool true), (24, .tuple #[]), (23, .tuple #[]), (22, .tuple #[])] _ ⟨.tuple #[], .tuple #[], .tuple #[], Z, (by rw [g254, Bool.true_or])⟩
     ·skip
      refine U.p (v := .pointer (some ⟨b3, 4, none⟩)) Z Z (.inr ⟨_, _, _, Z, Z, ((L 0 Z Z).trans (cB g254))⟩) (S.fieldAddr Z (L 18 Z Z) Tryd.underlying30 Z ti3 Z Z) ?_
      refine U.k Z Z (.inr ⟨_, _, _, Z, Z, ((L 1 Z Z).trans (cB g254))⟩) (S.load Z (L 0 Z Z) Tryd.underlying3 Z ((ow6.own (k := 0) Z).cell Z)) nd ?_
      refine U.p Z Z (.inr ⟨_, _, _, Z, Z, ((L 2 Z Z).trans (cB g254))⟩) (S.eqlI Z (L 0 Z Z) K) ?_
      refine U.p Z Z (.inr ⟨_, _, _, Z, Z, ((L 7 Z Z).trans (cB g247))⟩) (S.pickF Z ((L 3 Z Z).trans (cB g254)) (L 0 Z Z)) ?_
      exact kk [(25, .bool (decide (p0.imm = 2))), (24, .bool (decide (p0.imm = 2))), (23, .int .i64 p0.imm), (22, .pointer (some ⟨b3, 4, none⟩))] _ ⟨.bool (decide (p0.imm = 2)), .int .i64 p0.imm, .pointer (some ⟨b3, 4, none⟩), Z, (by rw [g254, Bool.false_or])⟩
   ·skip
    refine U.x Z Z Z Z ((L 0 Z Z).trans (cB g247)) (by decide) ?_
    refine U.x Z Z Z Z ((L 1 Z Z).trans (cB g247)) (by decide) ?_
    refine U.x Z Z Z Z ((L 2 Z Z).trans (cB g247)) (by decide) ?_
    refine U.x Z Z Z Z ((L 3 Z Z).trans (cB g247)) (by decide) ?_
    refine U.z Z Z Z Z (L 0 Z Z) ?_
    refine U.z Z Z Z Z (L 1 Z Z) ?_
    refine U.z Z Z Z Z (L 2 Z Z) ?_
    refine U.x Z Z Z Z ((L 7 Z Z).trans (cB g247)) (by decide) ?_
    refine U.p Z Z (.inl Z) (S.pickF Z ((L 8 Z Z).trans (cB g247)) K) ?_
    exact kk [(26, .bool false), (25, .tuple #[]), (24, .tuple #[]), (23, .tuple #[]), (22, .tuple #[]), (21, .tuple #[]), (20, .tuple #[]), (19, .tuple #[]), (18, .tuple #[])] _ ⟨.tuple #[], .tuple #[], .tuple #[], .tuple #[], .tuple #[], .tuple #[], .tuple #[], .tuple #[], Z, (by rw [g247, Bool.false_and])⟩
 ·intro kk
  refine bcase (b := decide (p0.op = 9)) (fun g255 => ?_) (fun g255 => ?_)
  ·skip
   refine U.x Z Z Z Z ((L 0 Z Z).trans (cB g255)) (by decide) ?_
   refine U.x Z Z Z Z ((L 1 Z Z).trans (cB g255)) (by decide) ?_
   refine U.x Z Z Z Z ((L 2 Z Z).trans (cB g255)) (by decide) ?_
   refine U.p Z Z (.inl Z) (S.pickT Z ((L 3 Z Z).trans (cB g255)) K) ?_
   exact kk [(13, .bool true), (12, .tuple #[]), (11, .tuple #[]), (10, .tuple #[])] _ ⟨.tuple #[], .tuple #[], .tuple #[], Z, (by rw [g255, Bool.true_or])⟩
  ·skip
   refine U.p (v := .pointer (some ⟨b3, 0, none⟩)) Z Z (.inr ⟨_, _, _, Z, Z, ((L 0 Z Z).trans (cB g255))⟩) (S.fieldAddr Z (L 5 Z Z) Tryd.underlying30 Z ti3 Z Z) ?_
   refine U.k Z Z (.inr ⟨_, _, _, Z, Z, ((L 1 Z Z).trans (cB g255))⟩) (S.load Z (L 0 Z Z) Tryd.underlying3 Z ((ow6.own (k := 0) Z).cell Z)) nd ?_
   refine U.p Z Z (.inr ⟨_, _, _, Z, Z, ((L 2 Z Z).trans (cB g255))⟩) (S.eqlI Z (L 0 Z Z) K) ?_
   refine U.p Z Z (.inl Z) (S.pickF Z ((L 3 Z Z).trans (cB g255)) (L 0 Z Z)) ?_
   exact kk [(13, .bool (decide (p0.op = 10))), (12, .bool (decide (p0.op = 10))), (11, .int .i64 p0.op), (10, .pointer (some ⟨b3, 0, none⟩))] _ ⟨.bool (decide (p0.op = 10)), .int .i64 p0.op, .pointer (some ⟨b3, 0, none⟩), Z, (by rw [g255, Bool.false_or])⟩
theorem wk_ir_shape (V : Vw) (Rs : List At) (gl : Glb V) (p0 : Int) (ow : Ow V (Rs)) (r : Bool × Bool × Bool × Bool) (h : ir_shape p0 = some r) : ∃ v V', Cl Tryd.prog NG 33 #[.int .i64 p0] V.H v V'.H ∧ V.le V' ∧ (v = .tuple #[.bool r.1, .bool r.2.1, .bool r.2.2.1, .bool r.2.2.2] ∧ Ow V' (Rs)) := by
 refine Ct.of gl.lo Tryd.func33 Z (nr Z) ?_
 unfold ir_shape at h
 refine WP.usreg Z ?_
 refine U.p Z Z (.inl Z) (S.assign Z K) ?_
 refine U.p Z Z (.inl Z) (S.assign Z K) ?_
 refine U.p Z Z (.inl Z) (S.assign Z K) ?_
 refine U.p Z Z (.inl Z) (S.assign Z K) ?_
 refine U.done (nr Z) ?_
 refine WP.seq ?_
 refine WP.usreg Z ?_
 refine U.p Z Z (.inl Z) (S.move Z (L 4 Z Z)) ?_
 refine U.done (nr Z) ?_
 refine WP.blk ?_
 refine WP.usreg Z ?_
 refine U.p Z Z (.inl Z) (S.eqlI Z (L 0 Z Z) K) ?_
 refine U.p Z Z (.inl Z) (S.assign Z (L 0 Z Z)) ?_
 refine U.done (nr Z) ?_
 refine WP.cond _ (L 0 Z Z) Z (fun c1 => ?_) (fun c1 => ?_)
 ·have h2 := ifT c1 h
  refine WP.usreg Z ?_
  refine U.p Z Z (.inl Z) (S.assign Z K) ?_
  refine U.p Z Z (.inl Z) (S.assign Z K) ?_
  refine U.p Z Z (.inl Z) (S.assign Z K) ?_
  refine U.p Z Z (.inl Z) (S.assign Z K) ?_
  refine U.done (nr Z) ?_
  refine WP.ret ?_
  refine blkR (sqR ?_)
  refine fin.slots' (.inr Z) (fsC (L 3 Z Z) (fsC (L 2 Z Z) (fsC (L 1 Z Z) (fsC (L 0 Z Z) fsN)))) Z ⟨V, Z, (.refl _), ?_⟩
  have e3 := Option.some.inj h2
  subst e3
  exact ⟨rfl, ow⟩
 ·have h4 := ifF c1 h
  refine WP.usreg Z ?_
  refine U.p Z Z (.inl Z) (S.eqlI Z (L 2 Z Z) K) ?_
  refine U.p Z Z (.inl Z) (S.assign Z (L 0 Z Z)) ?_
  refine U.done (nr Z) ?_
  refine WP.cond _ (L 0 Z Z) Z (fun c5 => ?_) (fun c5 => ?_)
  ·have h6 := ifT c5 h4
   refine WP.usreg Z ?_
   refine U.p Z Z (.inl Z) (S.assign Z K) ?_
   refine U.p Z Z (.inl Z) (S.assign Z K) ?_
   refine U.p Z Z (.inl Z) (S.assign Z K) ?_
   refine U.p Z Z (.inl Z) (S.assign Z K) ?_
   refine U.done (nr Z) ?_
   refine WP.ret ?_
   refine blkR (sqR ?_)
   refine fin.slots' (.inr Z) (fsC (L 3 Z Z) (fsC (L 2 Z Z) (fsC (L 1 Z Z) (fsC (L 0 Z Z) fsN)))) Z ⟨V, Z, (.refl _), ?_⟩
   have e7 := Option.some.inj h6
   subst e7
   exact ⟨rfl, ow⟩
  ·have h8 := ifF c5 h4
   refine WP.seqI (fun l V' => ∃ (x9 : Bool), l = [(6, .int .i64 p0), (11, .bool x9)] ∧ V.le V' ∧ Ow V' (Rs) ∧ ir_shape_k1 p0 x9 = some r) ?_ ?_
   ·rintro _ V10 ⟨x9, rfl, le11, ow12, h13⟩
    unfold ir_shape_k1 at h13
    refine WP.cond _ (L 1 Z Z) Z (fun c14 => ?_) (fun c14 => ?_)
    ·have h15 := ifT c14 h13
     refine WP.usreg Z ?_
     refine U.p Z Z (.inl Z) (S.assign Z K) ?_
     refine U.p Z Z (.inl Z) (S.assign Z K) ?_
     refine U.p Z Z (.inl Z) (S.assign Z K) ?_
     refine U.p Z Z (.inl Z) (S.assign Z K) ?_
     refine U.done (nr Z) ?_
     refine WP.ret ?_
     refine blkR (sqR ?_)
     refine fin.slots' (.inr Z) (fsC (L 3 Z Z) (fsC (L 2 Z Z) (fsC (L 1 Z Z) (fsC (L 0 Z Z) fsN)))) Z ⟨V10, Z, le11, ?_⟩
     have e16 := Option.some.inj h15
     subst e16
     exact ⟨rfl, ow12⟩
    ·have h17 := ifF c14 h13
     refine WP.usreg Z ?_
     refine U.p Z Z (.inl Z) (S.eqlI Z (L 0 Z Z) K) ?_
     refine U.p Z Z (.inl Z) (S.assign Z (L 0 Z Z)) ?_
     refine U.done (nr Z) ?_
     refine WP.cond _ (L 0 Z Z) Z (fun c18 => ?_) (fun c18 => ?_)
     ·have h19 := ifT c18 h17
      refine WP.usreg Z ?_
      refine U.p Z Z (.inl Z) (S.assign Z K) ?_
      refine U.p Z Z (.inl Z) (S.assign Z K) ?_
      refine U.p Z Z (.inl Z) (S.assign Z K) ?_
      refine U.p Z Z (.inl Z) (S.assign Z K) ?_
      refine U.done (nr Z) ?_
      refine WP.ret ?_
      refine blkR (sqR ?_)
      refine fin.slots' (.inr Z) (fsC (L 3 Z Z) (fsC (L 2 Z Z) (fsC (L 1 Z Z) (fsC (L 0 Z Z) fsN)))) Z ⟨V10, Z, le11, ?_⟩
      have e20 := Option.some.inj h19
      subst e20
      exact ⟨rfl, ow12⟩
     ·have h21 := ifF c18 h17
      refine WP.usreg Z ?_
      refine U.p Z Z (.inl Z) (S.eqlI Z (L 2 Z Z) K) ?_
      refine U.p Z Z (.inl Z) (S.assign Z (L 0 Z Z)) ?_
      refine U.done (nr Z) ?_
      refine WP.cond _ (L 0 Z Z) Z (fun c22 => ?_) (fun c22 => ?_)
      ·have h23 := ifT c22 h21
       refine WP.usreg Z ?_
       refine U.p Z Z (.inl Z) (S.assign Z K) ?_
       refine U.p Z Z (.inl Z) (S.assign Z K) ?_
       refine U.p Z Z (.inl Z) (S.assign Z K) ?_
       refine U.p Z Z (.inl Z) (S.assign Z K) ?_
       refine U.done (nr Z) ?_
       refine WP.ret ?_
       refine blkR (sqR ?_)
       refine fin.slots' (.inr Z) (fsC (L 3 Z Z) (fsC (L 2 Z Z) (fsC (L 1 Z Z) (fsC (L 0 Z Z) fsN)))) Z ⟨V10, Z, le11, ?_⟩
       have e24 := Option.some.inj h23
       subst e24
       exact ⟨rfl, ow12⟩
      ·have h25 := ifF c22 h21
       refine WP.seqI (fun l V' => ∃ (x26 : Bool), l = [(6, .int .i64 p0), (22, .bool x26)] ∧ V10.le V' ∧ Ow V' (Rs) ∧ ir_shape_k2 p0 x26 = some r) ?_ ?_
       ·rintro _ V27 ⟨x26, rfl, le28, ow29, h30⟩
        unfold ir_shape_k2 at h30
        refine WP.cond _ (L 1 Z Z) Z (fun c31 => ?_) (fun c31 => ?_)
        ·have h32 := ifT c31 h30
         refine WP.usreg Z ?_
         refine U.p Z Z (.inl Z) (S.assign Z K) ?_
         refine U.p Z Z (.inl Z) (S.assign Z K) ?_
         refine U.p Z Z (.inl Z) (S.assign Z K) ?_
         refine U.p Z Z (.inl Z) (S.assign Z K) ?_
         refine U.done (nr Z) ?_
         refine WP.ret ?_
         refine blkR (sqR ?_)
         refine fin.slots' (.inr Z) (fsC (L 3 Z Z) (fsC (L 2 Z Z) (fsC (L 1 Z Z) (fsC (L 0 Z Z) fsN)))) Z ⟨V27, Z, (le11.trans le28), ?_⟩
         have e33 := Option.some.inj h32
         subst e33
         exact ⟨rfl, ow29⟩
        ·have h34 := ifF c31 h30
         refine WP.usreg Z ?_
         refine U.p Z Z (.inl Z) (S.eqlI Z (L 0 Z Z) K) ?_
         refine U.p Z Z (.inl Z) (S.assign Z (L 0 Z Z)) ?_
         refine U.done (nr Z) ?_
         refine WP.cond _ (L 0 Z Z) Z (fun c35 => ?_) (fun c35 => ?_)
         ·have h36 := ifT c35 h34
          refine WP.usreg Z ?_
          refine U.p Z Z (.inl Z) (S.assign Z K) ?_
          refine U.p Z Z (.inl Z) (S.assign Z K) ?_
          refine U.p Z Z (.inl Z) (S.assign Z K) ?_
          refine U.p Z Z (.inl Z) (S.assign Z K) ?_
          refine U.done (nr Z) ?_
          refine WP.ret ?_
          refine blkR (sqR ?_)
          refine fin.slots' (.inr Z) (fsC (L 3 Z Z) (fsC (L 2 Z Z) (fsC (L 1 Z Z) (fsC (L 0 Z Z) fsN)))) Z ⟨V27, Z, (le11.trans le28), ?_⟩
          have e37 := Option.some.inj h36
          subst e37
          exact ⟨rfl, ow29⟩
         ·have h38 := ifF c35 h34
          refine WP.usreg Z ?_
          refine U.p Z Z (.inl Z) (S.eqlI Z (L 2 Z Z) K) ?_
          refine U.p Z Z (.inl Z) (S.assign Z (L 0 Z Z)) ?_
          refine U.done (nr Z) ?_
          refine WP.cond _ (L 0 Z Z) Z (fun c39 => ?_) (fun c39 => ?_)
          ·have h40 := ifT c39 h38
           refine WP.usreg Z ?_
           refine U.p Z Z (.inl Z) (S.assign Z K) ?_
           refine U.p Z Z (.inl Z) (S.assign Z K) ?_
           refine U.p Z Z (.inl Z) (S.assign Z K) ?_
           refine U.p Z Z (.inl Z) (S.assign Z K) ?_
           refine U.done (nr Z) ?_
           refine WP.ret ?_
           refine blkR (sqR ?_)
           refine fin.slots' (.inr Z) (fsC (L 3 Z Z) (fsC (L 2 Z Z) (fsC (L 1 Z Z) (fsC (L 0 Z Z) fsN)))) Z ⟨V27, Z, (le11.trans le28), ?_⟩
           have e41 := Option.some.inj h40
           subst e41
           exact ⟨rfl, ow29⟩
          ·have h42 := ifF c39 h38
           refine WP.usreg Z ?_
           refine U.p Z Z (.inl Z) (S.eqlI Z (L 4 Z Z) K) ?_
           refine U.p Z Z (.inl Z) (S.assign Z (L 0 Z Z)) ?_
           refine U.done (nr Z) ?_
           refine WP.cond _ (L 0 Z Z) Z (fun c43 => ?_) (fun c43 => ?_)
           ·have h44 := ifT c43 h42
            refine WP.usreg Z ?_
            refine U.p Z Z (.inl Z) (S.assign Z K) ?_
            refine U.p Z Z (.inl Z) (S.assign Z K) ?_
            refine U.p Z Z (.inl Z) (S.assign Z K) ?_
            refine U.p Z Z (.inl Z) (S.assign Z K) ?_
            refine U.done (nr Z) ?_
            refine WP.ret ?_
            refine blkR (sqR ?_)
            refine fin.slots' (.inr Z) (fsC (L 3 Z Z) (fsC (L 2 Z Z) (fsC (L 1 Z Z) (fsC (L 0 Z Z) fsN)))) Z ⟨V27, Z, (le11.trans le28), ?_⟩
            have e45 := Option.some.inj h44
            subst e45
            exact ⟨rfl, ow29⟩
           ·have h46 := ifF c43 h42
            refine WP.seqI (fun l V' => ∃ (x47 : Bool), l = [(31, .bool x47)] ∧ V27.le V' ∧ Ow V' (Rs) ∧ ir_shape_k3 x47 = some r) ?_ ?_
            ·rintro _ V48 ⟨x47, rfl, le49, ow50, h51⟩
             unfold ir_shape_k3 at h51
             refine WP.cond _ (L 0 Z Z) Z (fun c52 => ?_) (fun c52 => ?_)
             ·have h53 := ifT c52 h51
              refine WP.usreg Z ?_
              refine U.p Z Z (.inl Z) (S.assign Z K) ?_
              refine U.p Z Z (.inl Z) (S.assign Z K) ?_
              refine U.p Z Z (.inl Z) (S.assign Z K) ?_
              refine U.p Z Z (.inl Z) (S.assign Z K) ?_
              refine U.done (nr Z) ?_
              refine WP.ret ?_
              refine blkR (sqR ?_)
              refine fin.slots' (.inr Z) (fsC (L 3 Z Z) (fsC (L 2 Z Z) (fsC (L 1 Z Z) (fsC (L 0 Z Z) fsN)))) Z ⟨V48, Z, ((le11.trans le28).trans le49), ?_⟩
              have e54 := Option.some.inj h53
              subst e54
              exact ⟨rfl, ow50⟩
             ·have h55 := ifF c52 h51
              refine WP.skip ?_
              refine blkN (sqN ?_)
              refine WP.usreg Z ?_
              refine U.p Z Z (.inl Z) (S.assign Z K) ?_
              refine U.p Z Z (.inl Z) (S.assign Z K) ?_
              refine U.p Z Z (.inl Z) (S.assign Z K) ?_
              refine U.p Z Z (.inl Z) (S.assign Z K) ?_
              refine U.done (nr Z) ?_
              refine WP.ret ?_
              refine fin.slots' (.inr Z) (fsC (L 3 Z Z) (fsC (L 2 Z Z) (fsC (L 1 Z Z) (fsC (L 0 Z Z) fsN)))) Z ⟨V48, Z, ((le11.trans le28).trans le49), ?_⟩
              have e56 := Option.some.inj h55
              subst e56
              exact ⟨rfl, ow50⟩
            ·skip
             refine WP.usreg Z ?_
             refine U.p Z Z (.inl Z) (S.eqlI Z (L 6 Z Z) K) ?_
             refine U.p Z Z (.inl Z) (S.assign Z (L 0 Z Z)) ?_
             refine U.done (nr Z) ?_
             refine WP.cond _ (L 0 Z Z) Z (fun c57 => ?_) (fun c57 => ?_)
             ·have h58 := ifT c57 h46
              refine WP.skip ?_
              refine sqN ?_
              exact ⟨_, V27, Z, ⟨true, Z, (.refl _), ow29, h58⟩, (allCons ((L 0 Z Z).trans (cB c57)) allNil)⟩
             ·have h59 := ifF c57 h46
              refine WP.usreg Z ?_
              refine U.p Z Z (.inl Z) (S.eqlI Z (L 8 Z Z) K) ?_
              refine U.p Z Z (.inl Z) (S.assign Z (L 0 Z Z)) ?_
              refine U.done (nr Z) ?_
              refine WP.cond _ (L 0 Z Z) Z (fun c60 => ?_) (fun c60 => ?_)
              ·have h61 := ifT c60 h59
               refine WP.skip ?_
               refine sqN ?_
               exact ⟨_, V27, Z, ⟨true, Z, (.refl _), ow29, h61⟩, (allCons ((L 0 Z Z).trans (cB c60)) allNil)⟩
              ·have h62 := ifF c60 h59
               refine WP.usreg Z ?_
               refine U.p Z Z (.inl Z) (S.eqlI Z (L 10 Z Z) K) ?_
               refine U.p Z Z (.inl Z) (S.assign Z (L 0 Z Z)) ?_
               refine U.done (nr Z) ?_
               refine WP.cond _ (L 0 Z Z) Z (fun c63 => ?_) (fun c63 => ?_)
               ·have h64 := ifT c63 h62
                refine WP.skip ?_
                refine sqN ?_
                exact ⟨_, V27, Z, ⟨true, Z, (.refl _), ow29, h64⟩, (allCons ((L 0 Z Z).trans (cB c63)) allNil)⟩
               ·have h65 := ifF c63 h62
                refine WP.ureg Z ?_
                refine U.p Z Z (.inl Z) (S.eqlI Z (L 12 Z Z) K) ?_
                refine U.p Z Z (.inl Z) (S.assign Z (L 0 Z Z)) ?_
                refine U.done (nr Z) ?_
                refine sqN ?_
                exact ⟨_, V27, Z, ⟨decide (p0 = 20), Z, (.refl _), ow29, h65⟩, (allCons (L 0 Z Z) allNil)⟩
       ·skip
        refine WP.usreg Z ?_
        refine U.p Z Z (.inl Z) (S.eqlI Z (L 4 Z Z) K) ?_
        refine U.p Z Z (.inl Z) (S.assign Z (L 0 Z Z)) ?_
        refine U.done (nr Z) ?_
        refine WP.cond _ (L 0 Z Z) Z (fun c66 => ?_) (fun c66 => ?_)
        ·have h67 := ifT c66 h25
         refine WP.skip ?_
         refine sqN ?_
         exact ⟨_, V10, Z, ⟨true, Z, (.refl _), ow12, h67⟩, (allCons (L 6 Z Z) (allCons ((L 0 Z Z).trans (cB c66)) allNil))⟩
        ·have h68 := ifF c66 h25
         refine WP.ureg Z ?_
         refine U.p Z Z (.inl Z) (S.eqlI Z (L 6 Z Z) K) ?_
         refine U.p Z Z (.inl Z) (S.assign Z (L 0 Z Z)) ?_
         refine U.done (nr Z) ?_
         refine sqN ?_
         exact ⟨_, V10, Z, ⟨decide (p0 = 12), Z, (.refl _), ow12, h68⟩, (allCons (L 8 Z Z) (allCons (L 0 Z Z) allNil))⟩
   ·skip
    refine WP.usreg Z ?_
    refine U.p Z Z (.inl Z) (S.eqlI Z (L 4 Z Z) K) ?_
    refine U.p Z Z (.inl Z) (S.assign Z (L 0 Z Z)) ?_
    refine U.done (nr Z) ?_
    refine WP.cond _ (L 0 Z Z) Z (fun c69 => ?_) (fun c69 => ?_)
    ·have h70 := ifT c69 h8
     refine WP.skip ?_
     refine sqN ?_
     exact ⟨_, V, Z, ⟨true, Z, (.refl _), ow, h70⟩, (allCons (L 6 Z Z) (allCons ((L 0 Z Z).trans (cB c69)) allNil))⟩
    ·have h71 := ifF c69 h8
     refine WP.usreg Z ?_
     refine U.p Z Z (.inl Z) (S.eqlI Z (L 6 Z Z) K) ?_
     refine U.p Z Z (.inl Z) (S.assign Z (L 0 Z Z)) ?_
     refine U.done (nr Z) ?_
     refine WP.cond _ (L 0 Z Z) Z (fun c72 => ?_) (fun c72 => ?_)
     ·have h73 := ifT c72 h71
      refine WP.skip ?_
      refine sqN ?_
      exact ⟨_, V, Z, ⟨true, Z, (.refl _), ow, h73⟩, (allCons (L 8 Z Z) (allCons ((L 0 Z Z).trans (cB c72)) allNil))⟩
     ·have h74 := ifF c72 h71
      refine WP.usreg Z ?_
      refine U.p Z Z (.inl Z) (S.eqlI Z (L 8 Z Z) K) ?_
      refine U.p Z Z (.inl Z) (S.assign Z (L 0 Z Z)) ?_
      refine U.done (nr Z) ?_
      refine WP.cond _ (L 0 Z Z) Z (fun c75 => ?_) (fun c75 => ?_)
      ·have h76 := ifT c75 h74
       refine WP.skip ?_
       refine sqN ?_
       exact ⟨_, V, Z, ⟨true, Z, (.refl _), ow, h76⟩, (allCons (L 10 Z Z) (allCons ((L 0 Z Z).trans (cB c75)) allNil))⟩
      ·have h77 := ifF c75 h74
       refine WP.usreg Z ?_
       refine U.p Z Z (.inl Z) (S.eqlI Z (L 10 Z Z) K) ?_
       refine U.p Z Z (.inl Z) (S.assign Z (L 0 Z Z)) ?_
       refine U.done (nr Z) ?_
       refine WP.cond _ (L 0 Z Z) Z (fun c78 => ?_) (fun c78 => ?_)
       ·have h79 := ifT c78 h77
        refine WP.skip ?_
        refine sqN ?_
        exact ⟨_, V, Z, ⟨true, Z, (.refl _), ow, h79⟩, (allCons (L 12 Z Z) (allCons ((L 0 Z Z).trans (cB c78)) allNil))⟩
       ·have h80 := ifF c78 h77
        refine WP.usreg Z ?_
        refine U.p Z Z (.inl Z) (S.eqlI Z (L 12 Z Z) K) ?_
        refine U.p Z Z (.inl Z) (S.assign Z (L 0 Z Z)) ?_
        refine U.done (nr Z) ?_
        refine WP.cond _ (L 0 Z Z) Z (fun c81 => ?_) (fun c81 => ?_)
        ·have h82 := ifT c81 h80
         refine WP.skip ?_
         refine sqN ?_
         exact ⟨_, V, Z, ⟨true, Z, (.refl _), ow, h82⟩, (allCons (L 14 Z Z) (allCons ((L 0 Z Z).trans (cB c81)) allNil))⟩
        ·have h83 := ifF c81 h80
         refine WP.ureg Z ?_
         refine U.p Z Z (.inl Z) (S.eqlI Z (L 14 Z Z) K) ?_
         refine U.p Z Z (.inl Z) (S.assign Z (L 0 Z Z)) ?_
         refine U.done (nr Z) ?_
         refine sqN ?_
         exact ⟨_, V, Z, ⟨decide (p0 = 8), Z, (.refl _), ow, h83⟩, (allCons (L 16 Z Z) (allCons (L 0 Z Z) allNil))⟩
theorem wk_ir_reg (V : Vw) (Rs : List At) (gl : Glb V) (p0 : Bool) (p1 : Bool) (p2 : Int) (p3 : Int) (ow : Ow V (Rs)) (r : Bool) (h : ir_reg p0 p1 p2 p3 = some r) : ∃ v V', Cl Tryd.prog NG 34 #[.bool p0, .bool p1, .int .i64 p2, .int .i64 p3] V.H v V'.H ∧ V.le V' ∧ (v = .bool r ∧ Ow V' (Rs)) := by
 refine Ct.of gl.lo Tryd.func34 Z (nr Z) ?_
 unfold ir_reg at h
 refine WP.usreg Z ?_
 refine U.p Z Z (.inl Z) (S.assign Z K) ?_
 refine U.done (nr Z) ?_
 refine WP.seq ?_
 refine WP.usreg Z ?_
 refine U.p Z Z (.inl Z) (S.move Z (L 1 Z Z)) ?_
 refine U.p Z Z (.inl Z) (S.not Z (L 0 Z Z)) ?_
 refine U.p Z Z (.inl Z) (S.move Z (L 0 Z Z)) ?_
 refine U.joinX 9 (fun e H => ∃ (u1 u2 u3 u4 u5 : Value), H = V.H ∧ e = [(17, .bool ((!p0) || (p1 && (decide (p2 = (-1)))))), (16, u1), (15, u2), (14, u3), (13, u4), (12, u5)]) ?_ ?_
 ·rintro _ _ ⟨u1, u2, u3, u4, u5, rfl, rfl⟩
  refine U.done (nr Z) ?_
  refine WP.cond _ (L 0 Z Z) Z (fun c9 => ?_) (fun c9 => ?_)
  ·have h10 := ifT c9 h
   refine WP.usreg Z ?_
   refine U.p Z Z (.inl Z) (S.move Z (L 12 Z Z)) ?_
   refine U.p Z Z (.inl Z) (S.eqlI Z (L 0 Z Z) K) ?_
   refine U.p Z Z (.inl Z) (S.assign Z (L 0 Z Z)) ?_
   refine U.done (nr Z) ?_
   refine WP.ret ?_
   refine sqR ?_
   refine fin.slot (.inr Z) Z (L 0 Z Z) ⟨V, Z, (.refl _), ?_⟩
   have e11 := Option.some.inj h10
   subst e11
   exact ⟨rfl, ow⟩
  ·have h12 := ifF c9 h
   refine WP.skip ?_
   refine sqN ?_
   refine WP.usreg Z ?_
   refine U.p Z Z (.inl Z) (S.move Z (L 12 Z Z)) ?_
   refine U.p Z Z (.inl Z) (S.geq Z (L 0 Z Z) K) ?_
   refine U.p Z Z (.inl Z) (S.move Z (L 0 Z Z)) ?_
   refine U.joinX 7 (fun e H => ∃ (u13 u14 u15 : Value), H = V.H ∧ e = [(26, .bool ((decide (0 ≤ p2)) && (decide (p2 < p3)))), (25, u13), (24, u14), (23, u15)]) ?_ ?_
   ·rintro _ _ ⟨u13, u14, u15, rfl, rfl⟩
    refine U.p Z Z (.inl Z) (S.assign Z (L 0 Z Z)) ?_
    refine U.done (nr Z) ?_
    refine WP.ret ?_
    refine fin.slot (.inr Z) Z (L 0 Z Z) ⟨V, Z, (.refl _), ?_⟩
    have e19 := Option.some.inj h12
    subst e19
    exact ⟨rfl, ow⟩
   ·intro kk
    refine bcase (b := decide (0 ≤ p2)) (fun g20 => ?_) (fun g20 => ?_)
    ·skip
     refine U.p Z Z (.inr ⟨_, _, _, Z, Z, ((L 0 Z Z).trans (cB g20))⟩) (S.move Z (L 15 Z Z)) ?_
     refine U.p Z Z (.inr ⟨_, _, _, Z, Z, ((L 1 Z Z).trans (cB g20))⟩) (S.move Z (L 17 Z Z)) ?_
     refine U.p Z Z (.inr ⟨_, _, _, Z, Z, ((L 2 Z Z).trans (cB g20))⟩) (S.lss Z (L 1 Z Z) (L 0 Z Z)) ?_
     refine U.p Z Z (.inl Z) (S.pickT Z ((L 3 Z Z).trans (cB g20)) (L 0 Z Z)) ?_
     exact kk [(26, .bool (decide (p2 < p3))), (25, .bool (decide (p2 < p3))), (24, .int .i64 p3), (23, .int .i64 p2)] _ ⟨.bool (decide (p2 < p3)), .int .i64 p3, .int .i64 p2, Z, (by rw [g20, Bool.true_and])⟩
    ·skip
     refine U.x Z Z Z Z ((L 0 Z Z).trans (cB g20)) (by decide) ?_
     refine U.x Z Z Z Z ((L 1 Z Z).trans (cB g20)) (by decide) ?_
     refine U.x Z Z Z Z ((L 2 Z Z).trans (cB g20)) (by decide) ?_
     refine U.p Z Z (.inl Z) (S.pickF Z ((L 3 Z Z).trans (cB g20)) K) ?_
     exact kk [(26, .bool false), (25, .tuple #[]), (24, .tuple #[]), (23, .tuple #[])] _ ⟨.tuple #[], .tuple #[], .tuple #[], Z, (by rw [g20, Bool.false_and])⟩
 ·intro kk
  refine bcase (b := !p0) (fun g21 => ?_) (fun g21 => ?_)
  ·skip
   have k22 : p0 = false := nT g21
   refine U.x Z Z Z Z ((L 0 Z Z).trans (cB g21)) (by decide) ?_
   refine U.x Z Z Z Z ((L 1 Z Z).trans (cB g21)) (by decide) ?_
   refine U.z Z Z Z Z (L 0 Z Z) ?_
   refine U.z Z Z Z Z (L 1 Z Z) ?_
   refine U.x Z Z Z Z ((L 4 Z Z).trans (cB g21)) (by decide) ?_
   refine U.p Z Z (.inl Z) (S.pickT Z ((L 5 Z Z).trans (cB g21)) K) ?_
   exact kk [(17, .bool true), (16, .tuple #[]), (15, .tuple #[]), (14, .tuple #[]), (13, .tuple #[]), (12, .tuple #[])] _ ⟨.tuple #[], .tuple #[], .tuple #[], .tuple #[], .tuple #[], Z, (by rw [g21, Bool.true_or])⟩
  ·skip
   have k23 : p0 = true := nF g21
   refine U.p Z Z (.inr ⟨_, _, _, Z, Z, ((L 0 Z Z).trans (cB g21))⟩) (S.move Z (L 5 Z Z)) ?_
   refine U.p Z Z (.inr ⟨_, _, _, Z, Z, ((L 1 Z Z).trans (cB g21))⟩) (S.move Z (L 0 Z Z)) ?_
   refine U.joinX 8 (fun e H => ∃ (u24 u25 : Value), H = V.H ∧ e = [(16, .bool (p1 && (decide (p2 = (-1))))), (15, u24), (14, u25)]) ?_ ?_
   ·rintro _ _ ⟨u24, u25, rfl, rfl⟩
    refine U.p Z Z (.inl Z) (S.pickF Z ((L 5 Z Z).trans (cB g21)) (L 0 Z Z)) ?_
    exact kk [(17, .bool (p1 && (decide (p2 = (-1))))), (16, .bool (p1 && (decide (p2 = (-1))))), (15, u24), (14, u25), (13, .bool p1), (12, .bool p1)] _ ⟨.bool (p1 && (decide (p2 = (-1)))), u24, u25, .bool p1, .bool p1, Z, (by rw [g21, Bool.false_or])⟩
   ·intro kk
    refine bcase (b := p1) (fun g29 => ?_) (fun g29 => ?_)
    ·skip
     refine U.p Z Z (.inr ⟨_, _, _, Z, Z, ((L 0 Z Z).trans (cB g29))⟩) (S.move Z (L 8 Z Z)) ?_
     refine U.p Z Z (.inr ⟨_, _, _, Z, Z, ((L 1 Z Z).trans (cB g29))⟩) (S.eqlI Z (L 0 Z Z) K) ?_
     refine U.p Z Z (.inr ⟨_, _, _, Z, Z, ((L 4 Z Z).trans (cB g21))⟩) (S.pickT Z ((L 2 Z Z).trans (cB g29)) (L 0 Z Z)) ?_
     exact kk [(16, .bool (decide (p2 = (-1)))), (15, .bool (decide (p2 = (-1)))), (14, .int .i64 p2)] _ ⟨.bool (decide (p2 = (-1))), .int .i64 p2, Z, (by rw [g29, Bool.true_and])⟩
    ·skip
     refine U.x Z Z Z Z ((L 0 Z Z).trans (cB g29)) (by decide) ?_
     refine U.x Z Z Z Z ((L 1 Z Z).trans (cB g29)) (by decide) ?_
     refine U.p Z Z (.inr ⟨_, _, _, Z, Z, ((L 4 Z Z).trans (cB g21))⟩) (S.pickF Z ((L 2 Z Z).trans (cB g29)) K) ?_
     exact kk [(16, .bool false), (15, .tuple #[]), (14, .tuple #[])] _ ⟨.tuple #[], .tuple #[], Z, (by rw [g29, Bool.false_and])⟩
theorem wk_slices_Index (V : Vw) (Rs : List At) (gl : Glb V) (p0 : List Int) (p1 : Int) (v1 : Value) (ow : Ow V (.os (RT.int .i64) v1 p0 :: Rs)) (r : Int) (h : slices_Index p0 p1 = some r) : ∃ v V', Cl Tryd.prog NG 51 #[v1, .int .i64 p1] V.H v V'.H ∧ V.le V' ∧ (v = .int .i64 r ∧ Ow V' (.os (RT.int .i64) v1 p0 :: Rs)) := by
 refine Ct.of gl.lo Tryd.func51 Z (nr Z) ?_
 unfold slices_Index at h
 refine WP.usreg Z ?_
 refine U.p Z Z (.inl Z) (S.assign Z K) ?_
 refine U.done (nr Z) ?_
 refine WP.seq ?_
 refine WP.usreg Z ?_
 refine U.p Z Z (.inl Z) (S.move Z (L 1 Z Z)) ?_
 refine U.p Z Z (.inl Z) (ow.oslen (k := 0) Z Z (L 0 Z Z) Tryd.underlying28) ?_
 refine U.p Z Z (.inl Z) (S.move Z K) ?_
 refine U.done (nr Z) ?_
 refine WP.blk ?_
 unfold slices_Index_l1 at h
 obtain ⟨n5, hn4⟩ := loopO_some.1 h
 refine WP.loopI2 (fun n l V' => ∃ (x3 : Int), l = [(0, v1), (1, .int .i64 p1), (7, .int .i64 (p0.length : Int)), (8, .int .i64 x3)] ∧ V.le V' ∧ Ow V' (.os (RT.int .i64) v1 p0 :: Rs) ∧ itO (fun s => slices_Index_l1b p0 p1 s) n x3 = some r) n5 _ ⟨0, Z, .refl _, ow, hn4⟩ (allCons (L 4 Z Z) (allCons (L 5 Z Z) (allCons (L 1 Z Z) (allCons (L 0 Z Z) allNil)))) ?_
 rintro _ _ V6 ⟨x3, rfl, le7, ow8, h12⟩
 obtain ⟨m9, q10, rfl, h13, e11⟩ := itS h12
 replace h13 : slices_Index_l1b p0 p1 x3 = some q10 := h13
 unfold slices_Index_l1b at h13
 refine WP.usreg Z ?_
 refine U.p Z Z (.inl Z) (S.lss Z (L 3 Z Z) (L 2 Z Z)) ?_
 refine U.done (nr Z) ?_
 refine WP.seq ?_
 refine WP.cond _ (L 0 Z Z) Z (fun c14 => ?_) (fun c14 => ?_)
 ·have h15 := ifT c14 h13
  refine WP.skip ?_
  refine sqN ?_
  refine WP.seq ?_
  refine WP.blk ?_
  refine WP.usreg Z ?_
  refine U.p Z Z (.inl Z) (S.move Z (L 4 Z Z)) ?_
  refine U.p Z Z (.inl Z) (S.assign Z (L 0 Z Z)) ?_
  refine U.done (nr Z) ?_
  refine WP.usreg Z ?_
  refine U.p Z Z (.inl Z) (S.move Z (L 4 Z Z)) ?_
  refine U.p Z Z (.inl Z) (S.move Z (L 4 Z Z)) ?_
  refine U.p Z Z (.inl Z) (S.move Z (L 2 Z Z)) ?_
  obtain ⟨x16, hx17, h18⟩ := bindS h15
  obtain ⟨b19, o20, n21, c22, hv23⟩ := ow8.ospt (k := 0) Z hx17
  obtain ⟨_, hv24, _⟩ := ow8.osel (k := 0) Z hv23 hx17
  refine U.p Z Z (.inl Z) (S.index Z ((L 1 Z Z).trans hv24) (L 0 Z Z) Tryd.underlying28 ti3 (ix_ge hx17) (ix_lt hx17)) ?_
  obtain ⟨cs25, hv26, hlt27, hr28, hc29⟩ := ow8.osel (k := 0) Z hv23 hx17
  obtain rfl : cs25 = [.int .i64 x16] := hr28
  refine U.k Z Z (.inl Z) (S.load Z (L 0 Z Z) Tryd.underlying3 Z (hc29 0 _ Z)) nd ?_
  refine U.p Z Z (.inl Z) (S.eqlI Z (L 4 Z Z) (L 0 Z Z)) ?_
  refine U.done (nr Z) ?_
  refine WP.cond _ (L 0 Z Z) Z (fun c30 => ?_) (fun c30 => ?_)
  ·have h31 := ifT c30 h18
   refine WP.usreg Z ?_
   refine U.p Z Z (.inl Z) (S.move Z (L 6 Z Z)) ?_
   refine U.p Z Z (.inl Z) (S.assign Z (L 0 Z Z)) ?_
   refine U.done (nr Z) ?_
   refine WP.ret ?_
   refine blkR (sqR (sqR (blkR (sqR ?_))))
   have h32 := exitS h31 e11
   refine fin.slot (.inr Z) Z (L 0 Z Z) ⟨V6, Z, le7, ?_⟩
   have e33 := Option.some.inj h32
   subst e33
   exact ⟨rfl, ow8⟩
  ·have h34 := ifF c30 h18
   refine WP.skip ?_
   refine blkN (sqN ?_)
   refine WP.ureg Z ?_
   refine U.p Z Z (.inl Z) (S.add Z (L 12 Z Z) K) ?_
   refine U.p Z Z (.inl Z) (S.move Z (L 0 Z Z)) ?_
   refine U.done (nr Z) ?_
   refine sqN ?_
   exact ⟨_, V6, Z, ⟨m9, Nat.lt_succ_self _, w64 (x3 + 1), Z, le7, ow8, backS h34 e11⟩, (allCons (L 11 Z Z) (allCons (L 12 Z Z) (allCons (L 13 Z Z) (allCons (L 0 Z Z) allNil))))⟩
 ·have h35 := ifF c14 h13
  refine WP.exit ?_
  refine sqE (sqE (blkE (sqN ?_)))
  have h36 := exitS h35 e11
  refine WP.usreg Z ?_
  refine U.p Z Z (.inl Z) (S.assign Z K) ?_
  refine U.done (nr Z) ?_
  refine WP.ret ?_
  refine fin.slot (.inr Z) Z (L 0 Z Z) ⟨V6, Z, le7, ?_⟩
  have e37 := Option.some.inj h36
  subst e37
  exact ⟨rfl, ow8⟩
theorem wk_slices_Contains (V : Vw) (Rs : List At) (gl : Glb V) (p0 : List Int) (p1 : Int) (v1 : Value) (ow : Ow V (.os (RT.int .i64) v1 p0 :: Rs)) (r : Bool) (h : slices_Contains p0 p1 = some r) : ∃ v V', Cl Tryd.prog NG 35 #[v1, .int .i64 p1] V.H v V'.H ∧ V.le V' ∧ (v = .bool r ∧ Ow V' (.os (RT.int .i64) v1 p0 :: Rs)) := by
 refine Ct.of gl.lo Tryd.func35 Z (nr Z) ?_
 unfold slices_Contains at h
 refine WP.usreg Z ?_
 refine U.p Z Z (.inl Z) (S.assign Z K) ?_
 refine U.done (nr Z) ?_
 refine WP.usreg Z ?_
 refine U.p Z Z (.inl Z) (S.move Z (L 1 Z Z)) ?_
 refine U.p Z Z (.inl Z) (S.move Z (L 3 Z Z)) ?_
 obtain ⟨x3, hx4, h5⟩ := bindS h
 refine O.call (V := V) Z Z (.inl Z) Z en51 (aC (L 1 Z Z) (aC (L 0 Z Z) aN)) (wk_slices_Index V _ gl p0 p1 v1 ow _ hx4) (fun _ _ _ _ => nd) (fun v6 V7 le8 hp9 => ?_)
 obtain ⟨rfl, ow10⟩ := hp9
 refine U.p Z Z (.inl Z) (S.geq Z (L 0 Z Z) K) ?_
 refine U.p Z Z (.inl Z) (S.assign Z (L 0 Z Z)) ?_
 refine U.done (nr Z) ?_
 refine WP.ret ?_
 refine fin.slot (.inr Z) Z (L 0 Z Z) ⟨V7, Z, le8, ?_⟩
 have e11 := Option.some.inj h5
 subst e11
 exact ⟨rfl, ow10⟩
theorem wk_ir_good_c1 (V : Vw) (Rs : List At) (gl : Glb V) (p0 : Int) (p1 : TFunc) (b1 : Nat) (z2 : Nat) (v4 : Value) (f5 : Fz RT_TIns V v4 p1.code) (ow : Ow V (.pt b1 (.cells z2 [.string p1.name, .int .i64 p1.params, .int .i64 p1.regs, v4]) :: Rs)) (r : Bool) (h : ir_good_c1 p0 p1 = some r) : ∃ v V', Cl Tryd.prog NG 36 #[.int .i64 p0, .pointer (some ⟨b1, 0, none⟩)] V.H v V'.H ∧ V.le V' ∧ (v = .bool r ∧ Ow V' (.pt b1 (.cells z2 [.string p1.name, .int .i64 p1.params, .int .i64 p1.regs, v4]) :: Rs)) := by
 refine Ct.of gl.lo Tryd.func36 Z (nr Z) ?_
 unfold ir_good_c1 at h
 refine WP.usreg Z ?_
 refine U.p Z Z (.inl Z) (S.assign Z K) ?_
 refine U.done (nr Z) ?_
 refine WP.usreg Z ?_
 refine U.p Z Z (.inl Z) (S.move Z (L 1 Z Z)) ?_
 refine U.p Z Z (.inl Z) (S.lss Z (L 0 Z Z) K) ?_
 refine U.p Z Z (.inl Z) (S.move Z (L 0 Z Z)) ?_
 refine U.joinX 8 (fun e H => ∃ (u6 u7 u8 u9 : Value), H = V.H ∧ e = [(11, .bool ((decide (p0 < 0)) || (decide (p1.regs ≤ p0)))), (10, u6), (9, u7), (8, u8), (7, u9)]) ?_ ?_
 ·rintro _ _ ⟨u6, u7, u8, u9, rfl, rfl⟩
  refine U.p Z Z (.inl Z) (S.assign Z (L 0 Z Z)) ?_
  refine U.done (nr Z) ?_
  refine WP.ret ?_
  refine fin.slot (.inr Z) Z (L 0 Z Z) ⟨V, Z, (.refl _), ?_⟩
  have e13 := Option.some.inj h
  subst e13
  exact ⟨rfl, ow⟩
 ·intro kk
  refine bcase (b := decide (p0 < 0)) (fun g14 => ?_) (fun g14 => ?_)
  ·skip
   refine U.x Z Z Z Z ((L 0 Z Z).trans (cB g14)) (by decide) ?_
   refine U.x Z Z Z Z ((L 1 Z Z).trans (cB g14)) (by decide) ?_
   refine U.x Z Z Z Z ((L 2 Z Z).trans (cB g14)) (by decide) ?_
   refine U.x Z Z Z Z ((L 3 Z Z).trans (cB g14)) (by decide) ?_
   refine U.p Z Z (.inl Z) (S.pickT Z ((L 4 Z Z).trans (cB g14)) K) ?_
   exact kk [(11, .bool true), (10, .tuple #[]), (9, .tuple #[]), (8, .tuple #[]), (7, .tuple #[])] _ ⟨.tuple #[], .tuple #[], .tuple #[], .tuple #[], Z, (by rw [g14, Bool.true_or])⟩
  ·skip
   refine U.p Z Z (.inr ⟨_, _, _, Z, Z, ((L 0 Z Z).trans (cB g14))⟩) (S.move Z (L 4 Z Z)) ?_
   refine U.p (v := .pointer (some ⟨b1, 2, none⟩)) Z Z (.inr ⟨_, _, _, Z, Z, ((L 1 Z Z).trans (cB g14))⟩) (S.fieldAddr Z (L 6 Z Z) Tryd.underlying24 Z ti3 Z Z) ?_
   refine U.k Z Z (.inr ⟨_, _, _, Z, Z, ((L 2 Z Z).trans (cB g14))⟩) (S.load Z (L 0 Z Z) Tryd.underlying3 Z ((ow.own (k := 0) Z).cell Z)) nd ?_
   refine U.p Z Z (.inr ⟨_, _, _, Z, Z, ((L 3 Z Z).trans (cB g14))⟩) (S.geq Z (L 2 Z Z) (L 0 Z Z)) ?_
   refine U.p Z Z (.inl Z) (S.pickF Z ((L 4 Z Z).trans (cB g14)) (L 0 Z Z)) ?_
   exact kk [(11, .bool (decide (p1.regs ≤ p0))), (10, .bool (decide (p1.regs ≤ p0))), (9, .int .i64 p1.regs), (8, .pointer (some ⟨b1, 2, none⟩)), (7, .int .i64 p0)] _ ⟨.bool (decide (p1.regs ≤ p0)), .int .i64 p1.regs, .pointer (some ⟨b1, 2, none⟩), .int .i64 p0, Z, (by rw [g14, Bool.false_or])⟩
theorem wk_slices_IndexFunc_2 (V : Vw) (Rs : List At) (gl : Glb V) (p0 : List Int) (p1_10 : TFunc) (v1 : Value) (b3 : Nat) (z4 : Nat) (v6 : Value) (f2 : Fz (RT.int .i64) V v1 p0) (f7 : Fz RT_TIns V v6 p1_10.code) (ow : Ow V (.pt b3 (.cells z4 [.string p1_10.name, .int .i64 p1_10.params, .int .i64 p1_10.regs, v6]) :: Rs)) (r : Int) (h : slices_IndexFunc_2 p0 p1_10 = some r) : ∃ v V', Cl Tryd.prog NG 28 #[v1, .func (.func 36) #[] #[.pointer (some ⟨b3, 0, none⟩)]] V.H v V'.H ∧ V.le V' ∧ (v = .int .i64 r ∧ Ow V' (.pt b3 (.cells z4 [.string p1_10.name, .int .i64 p1_10.params, .int .i64 p1_10.regs, v6]) :: Rs)) := by
 refine Ct.of gl.lo Tryd.func28 Z (nr Z) ?_
 unfold slices_IndexFunc_2 at h
 refine WP.usreg Z ?_
 refine U.p Z Z (.inl Z) (S.assign Z K) ?_
 refine U.done (nr Z) ?_
 refine WP.seq ?_
 refine WP.usreg Z ?_
 refine U.p Z Z (.inl Z) (S.move Z (L 1 Z Z)) ?_
 refine U.p Z Z (.inl Z) (f2.1.len Z (L 0 Z Z) Tryd.underlying28) ?_
 refine U.p Z Z (.inl Z) (S.move Z K) ?_
 refine U.done (nr Z) ?_
 refine WP.blk ?_
 unfold slices_IndexFunc_2_l1 at h
 obtain ⟨n10, hn9⟩ := loopO_some.1 h
 refine WP.loopI2 (fun n l V' => ∃ (x8 : Int), l = [(0, v1), (1, .func (.func 36) #[] #[.pointer (some ⟨b3, 0, none⟩)]), (7, .int .i64 (p0.length : Int)), (8, .int .i64 x8)] ∧ V.le V' ∧ Ow V' (.pt b3 (.cells z4 [.string p1_10.name, .int .i64 p1_10.params, .int .i64 p1_10.regs, v6]) :: Rs) ∧ itO (fun s => slices_IndexFunc_2_l1b p0 p1_10 s) n x8 = some r) n10 _ ⟨0, Z, .refl _, ow, hn9⟩ (allCons (L 4 Z Z) (allCons (L 5 Z Z) (allCons (L 1 Z Z) (allCons (L 0 Z Z) allNil)))) ?_
 rintro _ _ V11 ⟨x8, rfl, le12, ow13, h17⟩
 obtain ⟨m14, q15, rfl, h18, e16⟩ := itS h17
 replace h18 : slices_IndexFunc_2_l1b p0 p1_10 x8 = some q15 := h18
 unfold slices_IndexFunc_2_l1b at h18
 refine WP.usreg Z ?_
 refine U.p Z Z (.inl Z) (S.lss Z (L 3 Z Z) (L 2 Z Z)) ?_
 refine U.done (nr Z) ?_
 refine WP.seq ?_
 refine WP.cond _ (L 0 Z Z) Z (fun c19 => ?_) (fun c19 => ?_)
 ·have h20 := ifT c19 h18
  refine WP.skip ?_
  refine sqN ?_
  refine WP.seq ?_
  refine WP.blk ?_
  refine WP.usreg Z ?_
  refine U.p Z Z (.inl Z) (S.move Z (L 4 Z Z)) ?_
  refine U.p Z Z (.inl Z) (S.assign Z (L 0 Z Z)) ?_
  refine U.done (nr Z) ?_
  refine WP.usreg Z ?_
  refine U.p Z Z (.inl Z) (S.move Z (L 4 Z Z)) ?_
  refine U.p Z Z (.inl Z) (S.move Z (L 4 Z Z)) ?_
  refine U.p Z Z (.inl Z) (S.move Z (L 2 Z Z)) ?_
  obtain ⟨x21, hx22, h23⟩ := bindS h20
  obtain ⟨b24, o25, c26, cs27, hv28, hf29, hr30, hc31⟩ := f2.at hx22
  obtain rfl : cs27 = [.int .i64 x21] := hr30
  refine U.p Z Z (.inl Z) (S.index Z ((L 1 Z Z).trans hv28) (L 0 Z Z) Tryd.underlying28 ti3 (ix_ge hx22) (ix_lt hx22)) ?_
  refine U.k Z Z (.inl Z) (S.load Z (L 0 Z Z) Tryd.underlying3 Z (le12.cell hf29 (hc31 0 _ Z))) nd ?_
  have f32 := f7.up le12
  obtain ⟨x33, hx34, h35⟩ := bindS h23
  refine O.callv (V := V11) Z Z (.inl Z) Z (L 4 Z Z) en36 (aC (L 0 Z Z) aN) (wk_ir_good_c1 V11 _ (gl.up le12) x21 p1_10 b3 z4 v6 f32 ow13 _ hx34) (fun _ _ _ _ => nd) (fun v36 V37 le38 hp39 => ?_)
  obtain ⟨rfl, ow40⟩ := hp39
  refine U.done (nr Z) ?_
  refine WP.cond _ (L 0 Z Z) Z (fun c41 => ?_) (fun c41 => ?_)
  ·have h42 := ifT c41 h35
   refine WP.usreg Z ?_
   refine U.p Z Z (.inl Z) (S.move Z (L 6 Z Z)) ?_
   refine U.p Z Z (.inl Z) (S.assign Z (L 0 Z Z)) ?_
   refine U.done (nr Z) ?_
   refine WP.ret ?_
   refine blkR (sqR (sqR (blkR (sqR ?_))))
   have h43 := exitS h42 e16
   refine fin.slot (.inr Z) Z (L 0 Z Z) ⟨V37, Z, (le12.trans le38), ?_⟩
   have e44 := Option.some.inj h43
   subst e44
   exact ⟨rfl, ow40⟩
  ·have h45 := ifF c41 h35
   refine WP.skip ?_
   refine blkN (sqN ?_)
   refine WP.ureg Z ?_
   refine U.p Z Z (.inl Z) (S.add Z (L 12 Z Z) K) ?_
   refine U.p Z Z (.inl Z) (S.move Z (L 0 Z Z)) ?_
   refine U.done (nr Z) ?_
   refine sqN ?_
   exact ⟨_, V37, Z, ⟨m14, Nat.lt_succ_self _, w64 (x8 + 1), Z, (le12.trans le38), ow40, backS h45 e16⟩, (allCons (L 11 Z Z) (allCons (L 12 Z Z) (allCons (L 13 Z Z) (allCons (L 0 Z Z) allNil))))⟩
 ·have h46 := ifF c19 h18
  refine WP.exit ?_
  refine sqE (sqE (blkE (sqN ?_)))
  have h47 := exitS h46 e16
  refine WP.usreg Z ?_
  refine U.p Z Z (.inl Z) (S.assign Z K) ?_
  refine U.done (nr Z) ?_
  refine WP.ret ?_
  refine fin.slot (.inr Z) Z (L 0 Z Z) ⟨V11, Z, le12, ?_⟩
  have e48 := Option.some.inj h47
  subst e48
  exact ⟨rfl, ow13⟩
theorem wk_slices_ContainsFunc_2 (V : Vw) (Rs : List At) (gl : Glb V) (p0 : List Int) (p1_10 : TFunc) (v1 : Value) (b3 : Nat) (z4 : Nat) (v6 : Value) (f2 : Fz (RT.int .i64) V v1 p0) (f7 : Fz RT_TIns V v6 p1_10.code) (ow : Ow V (.pt b3 (.cells z4 [.string p1_10.name, .int .i64 p1_10.params, .int .i64 p1_10.regs, v6]) :: Rs)) (r : Bool) (h : slices_ContainsFunc_2 p0 p1_10 = some r) : ∃ v V', Cl Tryd.prog NG 16 #[v1, .func (.func 36) #[] #[.pointer (some ⟨b3, 0, none⟩)]] V.H v V'.H ∧ V.le V' ∧ (v = .bool r ∧ Ow V' (.pt b3 (.cells z4 [.string p1_10.name, .int .i64 p1_10.params, .int .i64 p1_10.regs, v6]) :: Rs)) := by
 refine Ct.of gl.lo Tryd.func16 Z (nr Z) ?_
 unfold slices_ContainsFunc_2 at h
 refine WP.usreg Z ?_
 refine U.p Z Z (.inl Z) (S.assign Z K) ?_
 refine U.done (nr Z) ?_
 refine WP.usreg Z ?_
 refine U.p Z Z (.inl Z) (S.move Z (L 1 Z Z)) ?_
 refine U.p Z Z (.inl Z) (S.move Z (L 3 Z Z)) ?_
 obtain ⟨x8, hx9, h10⟩ := bindS h
 refine O.call (V := V) Z Z (.inl Z) Z en28 (aC (L 1 Z Z) (aC (L 0 Z Z) aN)) (wk_slices_IndexFunc_2 V _ gl p0 p1_10 v1 b3 z4 v6 f2 f7 ow _ hx9) (fun _ _ _ _ => nd) (fun v11 V12 le13 hp14 => ?_)
 obtain ⟨rfl, ow15⟩ := hp14
 refine U.p Z Z (.inl Z) (S.geq Z (L 0 Z Z) K) ?_
 refine U.p Z Z (.inl Z) (S.assign Z (L 0 Z Z)) ?_
 refine U.done (nr Z) ?_
 refine WP.ret ?_
 refine fin.slot (.inr Z) Z (L 0 Z Z) ⟨V12, Z, le13, ?_⟩
 have e16 := Option.some.inj h10
 subst e16
 exact ⟨rfl, ow15⟩
theorem wk_ir_good (V : Vw) (Rs : List At) (gl : Glb V) (p0 : TFunc) (p1 : TIns) (p2 : List Int) (v1 : Value) (v3 : Value) (v5 : Value) (f2 : Fz RT_TIns V v1 p0.code) (f4 : Fz (RT.int .i64) V v3 p1.args) (ow : Ow V (.os (RT.int .i64) v5 p2 :: Rs)) (r : Bool) (h : ir_good p0 p1 p2 = some r) : ∃ v V', Cl Tryd.prog NG 24 #[.agg #[.string p0.name, .int .i64 p0.params, .int .i64 p0.regs, v1], .agg #[.int .i64 p1.op, .int .i64 p1.d, .int .i64 p1.a, .int .i64 p1.b, .int .i64 p1.imm, v3, .int .i64 p1.what, .bool p1.volatile, .bool p1.final], v5] V.H v V'.H ∧ V.le V' ∧ (v = .bool r ∧ Ow V' (.os (RT.int .i64) v5 p2 :: Rs)) := by
 refine Ct.of gl.lo Tryd.func24 Z (nr Z) ?_
 unfold ir_good at h
 refine WP.usreg Z ?_
 refine O.box ow Z Z (.inl Z) Z (L 0 Z Z) (by simp [topV]) Z nd (fun b7 V8 le9 ow10 => ?_)
 refine O.box ow10 Z Z (.inl Z) Z (L 2 Z Z) (by simp [topV]) Z nd (fun b12 V13 le14 ow15 => ?_)
 refine U.p Z Z (.inl Z) (S.assign Z K) ?_
 refine U.done (nr Z) ?_
 refine WP.seq ?_
 refine WP.usreg Z ?_
 refine U.p (v := .pointer (some ⟨b12, 0, none⟩)) Z Z (.inl Z) (S.fieldAddr Z (L 1 Z Z) Tryd.underlying30 Z ti3 Z Z) ?_
 refine U.k Z Z (.inl Z) (S.load Z (L 0 Z Z) Tryd.underlying3 Z ((ow15.own (k := 0) Z).cell Z)) nd ?_
 refine U.p Z Z (.inl Z) (S.lss Z (L 0 Z Z) K) ?_
 refine U.p Z Z (.inl Z) (S.move Z (L 0 Z Z)) ?_
 refine U.joinX 8 (fun e H => ∃ (u17 u18 u19 : Value), H = V13.H ∧ e = [(18, .bool ((decide (p1.op < 1)) || (decide (22 < p1.op)))), (17, u17), (16, u18), (15, u19)]) ?_ ?_
 ·rintro _ _ ⟨u17, u18, u19, rfl, rfl⟩
  refine U.p Z Z (.inl Z) (S.move Z (L 0 Z Z)) ?_
  obtain ⟨y23, hy24, h25⟩ := bindS h
  refine U.joinX 13 (fun e H => ∃ (u26 u27 u28 : Value), ∃ V' : Vw, H = V'.H ∧ V13.le V' ∧ e = [(23, .bool y23), (22, u26), (21, u27), (20, u28)] ∧ Ow V' (.pt b12 (.cells 0 [.int .i64 p1.op, .int .i64 p1.d, .int .i64 p1.a, .int .i64 p1.b, .int .i64 p1.imm, v3, .int .i64 p1.what, .bool p1.volatile, .bool p1.final]) :: .pt b7 (.cells 0 [.string p0.name, .int .i64 p0.params, .int .i64 p0.regs, v1]) :: .os (RT.int .i64) v5 p2 :: Rs)) ?_ ?_
  ·rintro _ _ ⟨u26, u27, u28, V29, rfl, le30, rfl, ow31⟩
   refine U.done (nr Z) ?_
   refine WP.cond _ (L 0 Z Z) Z (fun c32 => ?_) (fun c32 => ?_)
   ·have h33 := ifT c32 h25
    refine WP.usreg Z ?_
    refine U.p Z Z (.inl Z) (S.assign Z K) ?_
    refine U.done (nr Z) ?_
    refine WP.ret ?_
    refine sqR ?_
    refine fin.slot (.inr Z) Z (L 0 Z Z) ⟨V29, Z, ((le9.trans le14).trans le30), ?_⟩
    have ow34 := ow31.drop 0 Z
    have ow35 := ow34.drop 0 Z
    have e36 := Option.some.inj h33
    subst e36
    exact ⟨rfl, ow35⟩
   ·have h37 := ifF c32 h25
    refine WP.skip ?_
    refine sqN ?_
    refine WP.usreg Z ?_
    refine U.p (v := .pointer (some ⟨b12, 0, none⟩)) Z Z (.inl Z) (S.fieldAddr Z (L 14 Z Z) Tryd.underlying30 Z ti3 Z Z) ?_
    refine U.k Z Z (.inl Z) (S.load Z (L 0 Z Z) Tryd.underlying3 Z ((ow31.own (k := 0) Z).cell Z)) nd ?_
    obtain ⟨x38, hx39, h40⟩ := bindS h37
    refine O.call (V := V29) Z Z (.inl Z) Z en33 (aC (L 0 Z Z) aN) (wk_ir_shape V29 _ (gl.up ((le9.trans le14).trans le30)) p1.op ow31 _ hx39) (fun _ _ _ _ => nd) (fun v41 V42 le43 hp44 => ?_)
    obtain ⟨rfl, ow45⟩ := hp44
    refine U.p Z Z (.inl Z) (S.move Z (L 0 Z Z)) ?_
    refine U.p Z Z (.inl Z) (S.extract Z (L 0 Z Z) Z (nr Z)) ?_
    refine U.p Z Z (.inl Z) (S.extract Z (L 1 Z Z) Z (nr Z)) ?_
    refine U.p Z Z (.inl Z) (S.extract Z (L 2 Z Z) Z (nr Z)) ?_
    refine U.p Z Z (.inl Z) (S.extract Z (L 3 Z Z) Z (nr Z)) ?_
    refine U.p Z Z (.inl Z) (S.assign Z (L 3 Z Z)) ?_
    refine U.p Z Z (.inl Z) (S.assign Z (L 3 Z Z)) ?_
    refine U.p Z Z (.inl Z) (S.assign Z (L 3 Z Z)) ?_
    refine U.p Z Z (.inl Z) (S.assign Z (L 3 Z Z)) ?_
    refine U.done (nr Z) ?_
    refine WP.seqI (fun l V' => ∃ (x46 : Bool), l = [(2, v5), (3, .pointer (some ⟨b7, 0, none⟩)), (4, .pointer (some ⟨b12, 0, none⟩)), (7, .bool x38.1), (8, .bool x46), (9, .bool x38.2.2.1), (10, .bool x38.2.2.2)] ∧ V42.le V' ∧ Ow V' (.os (RT.int .i64) v5 p2 :: .pt b7 (.cells 0 [.string p0.name, .int .i64 p0.params, .int .i64 p0.regs, v1]) :: .pt b12 (.cells 0 [.int .i64 p1.op, .int .i64 p1.d, .int .i64 p1.a, .int .i64 p1.b, .int .i64 p1.imm, v3, .int .i64 p1.what, .bool p1.volatile, .bool p1.final]) :: Rs) ∧ ir_good_k1 p0 p1 p2 x38 x46 = some r) ?_ ?_
    ·rintro _ V47 ⟨x46, rfl, le48, ow49, h50⟩
     unfold ir_good_k1 at h50
     refine WP.seq ?_
     refine WP.usreg Z ?_
     refine U.p Z Z (.inl Z) (S.move Z (L 3 Z Z)) ?_
     refine U.p (v := .pointer (some ⟨b12, 0, none⟩)) Z Z (.inl Z) (S.fieldAddr Z (L 3 Z Z) Tryd.underlying30 Z ti3 Z Z) ?_
     refine U.k Z Z (.inl Z) (S.load Z (L 0 Z Z) Tryd.underlying3 Z ((ow49.own (k := 2) Z).cell Z)) nd ?_
     refine U.p Z Z (.inl Z) (S.eqlI Z (L 0 Z Z) K) ?_
     refine U.p (v := .pointer (some ⟨b12, 1, none⟩)) Z Z (.inl Z) (S.fieldAddr Z (L 6 Z Z) Tryd.underlying30 Z ti3 Z Z) ?_
     refine U.k Z Z (.inl Z) (S.load Z (L 0 Z Z) Tryd.underlying3 Z ((ow49.own (k := 2) Z).cell Z)) nd ?_
     refine U.p (v := .pointer (some ⟨b7, 2, none⟩)) Z Z (.inl Z) (S.fieldAddr Z (L 7 Z Z) Tryd.underlying24 Z ti3 Z Z) ?_
     refine U.k Z Z (.inl Z) (S.load Z (L 0 Z Z) Tryd.underlying3 Z ((ow49.own (k := 1) Z).cell Z)) nd ?_
     obtain ⟨x51, hx52, h53⟩ := bindS h50
     refine O.call (V := V47) Z Z (.inl Z) Z en34 (aC (L 7 Z Z) (aC (L 4 Z Z) (aC (L 2 Z Z) (aC (L 0 Z Z) aN)))) (wk_ir_reg V47 _ (gl.up ((((le9.trans le14).trans le30).trans le43).trans le48)) x38.1 (decide (p1.op = 14)) p1.d p0.regs ow49 _ hx52) (fun _ _ _ _ => nd) (fun v54 V55 le56 hp57 => ?_)
     obtain ⟨rfl, ow58⟩ := hp57
     refine U.p Z Z (.inl Z) (S.not Z (L 0 Z Z)) ?_
     refine U.p Z Z (.inl Z) (S.move Z (L 0 Z Z)) ?_
     obtain ⟨y59, hy60, h61⟩ := bindS h53
     refine U.joinX 32 (fun e H => ∃ (u62 u63 u64 u65 u66 u67 u68 u69 u70 u71 u72 u73 u74 u75 u76 u77 u78 u79 u80 u81 : Value), ∃ V' : Vw, H = V'.H ∧ V55.le V' ∧ e = [(69, .bool y59), (68, u62), (67, u63), (66, u64), (65, u65), (64, u66), (63, u67), (62, u68), (61, u69), (60, u70), (59, u71), (58, u72), (57, u73), (56, u74), (55, u75), (54, u76), (53, u77), (52, u78), (51, u79), (50, u80), (49, u81)] ∧ Ow V' (.os (RT.int .i64) v5 p2 :: .pt b7 (.cells 0 [.string p0.name, .int .i64 p0.params, .int .i64 p0.regs, v1]) :: .pt b12 (.cells 0 [.int .i64 p1.op, .int .i64 p1.d, .int .i64 p1.a, .int .i64 p1.b, .int .i64 p1.imm, v3, .int .i64 p1.what, .bool p1.volatile, .bool p1.final]) :: Rs)) ?_ ?_
     ·rintro _ _ ⟨u62, u63, u64, u65, u66, u67, u68, u69, u70, u71, u72, u73, u74, u75, u76, u77, u78, u79, u80, u81, V82, rfl, le83, rfl, ow84⟩
      refine U.p Z Z (.inl Z) (S.move Z (L 0 Z Z)) ?_
      obtain ⟨y85, hy86, h87⟩ := bindS h61
      refine U.joinX 41 (fun e H => ∃ (u88 u89 u90 u91 u92 u93 u94 : Value), ∃ V' : Vw, H = V'.H ∧ V82.le V' ∧ e = [(78, .bool y85), (77, u88), (76, u89), (75, u90), (74, u91), (73, u92), (72, u93), (71, u94)] ∧ Ow V' (.os (RT.int .i64) v5 p2 :: .pt b7 (.cells 0 [.string p0.name, .int .i64 p0.params, .int .i64 p0.regs, v1]) :: .pt b12 (.cells 0 [.int .i64 p1.op, .int .i64 p1.d, .int .i64 p1.a, .int .i64 p1.b, .int .i64 p1.imm, v3, .int .i64 p1.what, .bool p1.volatile, .bool p1.final]) :: Rs)) ?_ ?_
      ·rintro _ _ ⟨u88, u89, u90, u91, u92, u93, u94, V95, rfl, le96, rfl, ow97⟩
       refine U.done (nr Z) ?_
       refine WP.cond _ (L 0 Z Z) Z (fun c98 => ?_) (fun c98 => ?_)
       ·have h99 := ifT c98 h87
        refine WP.usreg Z ?_
        refine U.p Z Z (.inl Z) (S.assign Z K) ?_
        refine U.done (nr Z) ?_
        refine WP.ret ?_
        refine sqR ?_
        refine fin.slot (.inr Z) Z (L 0 Z Z) ⟨V95, Z, (((((((le9.trans le14).trans le30).trans le43).trans le48).trans le56).trans le83).trans le96), ?_⟩
        have ow100 := ow97.drop 1 Z
        have ow101 := ow100.drop 1 Z
        have e102 := Option.some.inj h99
        subst e102
        exact ⟨rfl, ow101⟩
       ·have h103 := ifF c98 h87
        refine WP.skip ?_
        refine sqN ?_
        refine WP.seq ?_
        refine WP.usreg Z ?_
        refine U.p Z Z (.inl Z) (S.move Z (L 47 Z Z)) ?_
        refine U.p Z Z (.inl Z) (S.move Z (L 0 Z Z)) ?_
        obtain ⟨y104, hy105, h106⟩ := bindS h103
        refine U.joinX 8 (fun e H => ∃ (u107 u108 u109 u110 u111 : Value), ∃ V' : Vw, H = V'.H ∧ V95.le V' ∧ e = [(86, .bool y104), (85, u107), (84, u108), (83, u109), (82, u110), (81, u111)] ∧ Ow V' (.os (RT.int .i64) v5 p2 :: .pt b7 (.cells 0 [.string p0.name, .int .i64 p0.params, .int .i64 p0.regs, v1]) :: .pt b12 (.cells 0 [.int .i64 p1.op, .int .i64 p1.d, .int .i64 p1.a, .int .i64 p1.b, .int .i64 p1.imm, v3, .int .i64 p1.what, .bool p1.volatile, .bool p1.final]) :: Rs)) ?_ ?_
        ·rintro _ _ ⟨u107, u108, u109, u110, u111, V112, rfl, le113, rfl, ow114⟩
         refine U.done (nr Z) ?_
         refine WP.cond _ (L 0 Z Z) Z (fun c115 => ?_) (fun c115 => ?_)
         ·have h116 := ifT c115 h106
          refine WP.usreg Z ?_
          refine U.p Z Z (.inl Z) (S.assign Z K) ?_
          refine U.done (nr Z) ?_
          refine WP.ret ?_
          refine sqR ?_
          refine fin.slot (.inr Z) Z (L 0 Z Z) ⟨V112, Z, ((((((((le9.trans le14).trans le30).trans le43).trans le48).trans le56).trans le83).trans le96).trans le113), ?_⟩
          have ow117 := ow114.drop 1 Z
          have ow118 := ow117.drop 1 Z
          have e119 := Option.some.inj h116
          subst e119
          exact ⟨rfl, ow118⟩
         ·have h120 := ifF c115 h106
          refine WP.skip ?_
          refine sqN ?_
          refine WP.usreg Z ?_
          refine U.p (v := .pointer (some ⟨b12, 5, none⟩)) Z Z (.inl Z) (S.fieldAddr Z (L 51 Z Z) Tryd.underlying30 Z ti28 Z Z) ?_
          refine U.k Z Z (.inl Z) (S.load Z (L 0 Z Z) Tryd.underlying28 Z ((ow114.own (k := 2) Z).cell Z)) nd ?_
          refine U.p (v := .func (.func 36) #[] #[.pointer (some ⟨b7, 0, none⟩)]) Z Z (.inl Z) (S.makeFunc' Z (amN) (am1 (L 52 Z Z))) ?_
          have f121 := f4.up ((((((((le9.trans le14).trans le30).trans le43).trans le48).trans le56).trans le83).trans le96).trans le113)
          have f122 := f2.up ((((((((le9.trans le14).trans le30).trans le43).trans le48).trans le56).trans le83).trans le96).trans le113)
          have ow123 := ow114.pick 1 Z
          obtain ⟨x124, hx125, h126⟩ := bindS h120
          refine O.call (V := V112) Z Z (.inl Z) Z en16 (aC (L 1 Z Z) (aC (L 0 Z Z) aN)) (wk_slices_ContainsFunc_2 V112 _ (gl.up ((((((((le9.trans le14).trans le30).trans le43).trans le48).trans le56).trans le83).trans le96).trans le113)) p1.args p0 v3 b7 0 v1 f121 f122 ow123 _ hx125) (fun _ _ _ _ => nd) (fun v127 V128 le129 hp130 => ?_)
          obtain ⟨rfl, ow131⟩ := hp130
          refine U.p Z Z (.inl Z) (S.not Z (L 0 Z Z)) ?_
          refine U.p Z Z (.inl Z) (S.assign Z (L 0 Z Z)) ?_
          refine U.done (nr Z) ?_
          refine WP.ret ?_
          refine fin.slot (.inr Z) Z (L 0 Z Z) ⟨V128, Z, (((((((((le9.trans le14).trans le30).trans le43).trans le48).trans le56).trans le83).trans le96).trans le113).trans le129), ?_⟩
          have ow132 := ow131.drop 0 Z
          have ow133 := ow132.drop 1 Z
          have e134 := Option.some.inj h126
          subst e134
          exact ⟨rfl, ow133⟩
        ·intro kk
         refine bcase (b := x38.2.2.2) (fun g135 => ?_) (fun g135 => ?_)
         ·have h136 := ifT g135 hy105
          refine U.p Z Z (.inr ⟨_, _, _, Z, Z, ((L 0 Z Z).trans (cB g135))⟩) (S.move Z (L 43 Z Z)) ?_
          refine U.p (v := .pointer (some ⟨b12, 4, none⟩)) Z Z (.inr ⟨_, _, _, Z, Z, ((L 1 Z Z).trans (cB g135))⟩) (S.fieldAddr Z (L 46 Z Z) Tryd.underlying30 Z ti3 Z Z) ?_
          refine U.k Z Z (.inr ⟨_, _, _, Z, Z, ((L 2 Z Z).trans (cB g135))⟩) (S.load Z (L 0 Z Z) Tryd.underlying3 Z ((ow97.own (k := 2) Z).cell Z)) nd ?_
          obtain ⟨x137, hx138, h139⟩ := bindS h136
          refine O.call (V := V95) Z Z (.inr ⟨_, _, _, Z, Z, ((L 3 Z Z).trans (cB g135))⟩) Z en35 (aC (L 2 Z Z) (aC (L 0 Z Z) aN)) (wk_slices_Contains V95 _ (gl.up (((((((le9.trans le14).trans le30).trans le43).trans le48).trans le56).trans le83).trans le96)) p2 p1.imm v5 ow97 _ hx138) (fun _ _ _ _ => nd) (fun v140 V141 le142 hp143 => ?_)
          obtain ⟨rfl, ow144⟩ := hp143
          refine U.p Z Z (.inr ⟨_, _, _, Z, Z, ((L 4 Z Z).trans (cB g135))⟩) (S.not Z (L 0 Z Z)) ?_
          refine U.p Z Z (.inl Z) (S.pickT Z ((L 5 Z Z).trans (cB g135)) (L 0 Z Z)) ?_
          have e145 := Option.some.inj h139
          subst e145
          exact kk [(86, .bool (!x137)), (85, .bool (!x137)), (84, .bool x137), (83, .int .i64 p1.imm), (82, .pointer (some ⟨b12, 4, none⟩)), (81, v5)] _ ⟨.bool (!x137), .bool x137, .int .i64 p1.imm, .pointer (some ⟨b12, 4, none⟩), v5, V141, Z, le142, Z, ow144⟩
         ·have h146 := ifF g135 hy105
          refine U.x Z Z Z Z ((L 0 Z Z).trans (cB g135)) (by decide) ?_
          refine U.x Z Z Z Z ((L 1 Z Z).trans (cB g135)) (by decide) ?_
          refine U.x Z Z Z Z ((L 2 Z Z).trans (cB g135)) (by decide) ?_
          refine U.x Z Z Z Z ((L 3 Z Z).trans (cB g135)) (by decide) ?_
          refine U.x Z Z Z Z ((L 4 Z Z).trans (cB g135)) (by decide) ?_
          refine U.p Z Z (.inl Z) (S.pickF Z ((L 5 Z Z).trans (cB g135)) K) ?_
          have e147 := Option.some.inj h146
          subst e147
          exact kk [(86, .bool false), (85, .tuple #[]), (84, .tuple #[]), (83, .tuple #[]), (82, .tuple #[]), (81, .tuple #[])] _ ⟨.tuple #[], .tuple #[], .tuple #[], .tuple #[], .tuple #[], V95, Z, (.refl _), Z, ow97⟩
      ·intro kk
       refine bcase (b := y59) (fun g148 => ?_) (fun g148 => ?_)
       ·have h149 := ifT g148 hy86
        refine U.x Z Z Z Z ((L 0 Z Z).trans (cB g148)) (by decide) ?_
        refine U.x Z Z Z Z ((L 1 Z Z).trans (cB g148)) (by decide) ?_
        refine U.x Z Z Z Z ((L 2 Z Z).trans (cB g148)) (by decide) ?_
        refine U.x Z Z Z Z ((L 3 Z Z).trans (cB g148)) (by decide) ?_
        refine U.x Z Z Z Z ((L 4 Z Z).trans (cB g148)) (by decide) ?_
        refine U.x Z Z Z Z ((L 5 Z Z).trans (cB g148)) (by decide) ?_
        refine U.x Z Z Z Z ((L 6 Z Z).trans (cB g148)) (by decide) ?_
        refine U.p Z Z (.inl Z) (S.pickT Z ((L 7 Z Z).trans (cB g148)) K) ?_
        have e150 := Option.some.inj h149
        subst e150
        exact kk [(78, .bool true), (77, .tuple #[]), (76, .tuple #[]), (75, .tuple #[]), (74, .tuple #[]), (73, .tuple #[]), (72, .tuple #[]), (71, .tuple #[])] _ ⟨.tuple #[], .tuple #[], .tuple #[], .tuple #[], .tuple #[], .tuple #[], .tuple #[], V82, Z, (.refl _), Z, ow84⟩
       ·have h151 := ifF g148 hy86
        refine U.p Z Z (.inr ⟨_, _, _, Z, Z, ((L 0 Z Z).trans (cB g148))⟩) (S.move Z (L 38 Z Z)) ?_
        refine U.p (v := .pointer (some ⟨b12, 3, none⟩)) Z Z (.inr ⟨_, _, _, Z, Z, ((L 1 Z Z).trans (cB g148))⟩) (S.fieldAddr Z (L 36 Z Z) Tryd.underlying30 Z ti3 Z Z) ?_
        refine U.k Z Z (.inr ⟨_, _, _, Z, Z, ((L 2 Z Z).trans (cB g148))⟩) (S.load Z (L 0 Z Z) Tryd.underlying3 Z ((ow84.own (k := 2) Z).cell Z)) nd ?_
        refine U.p (v := .pointer (some ⟨b7, 2, none⟩)) Z Z (.inr ⟨_, _, _, Z, Z, ((L 3 Z Z).trans (cB g148))⟩) (S.fieldAddr Z (L 37 Z Z) Tryd.underlying24 Z ti3 Z Z) ?_
        refine U.k Z Z (.inr ⟨_, _, _, Z, Z, ((L 4 Z Z).trans (cB g148))⟩) (S.load Z (L 0 Z Z) Tryd.underlying3 Z ((ow84.own (k := 1) Z).cell Z)) nd ?_
        obtain ⟨x152, hx153, h154⟩ := bindS h151
        refine O.call (V := V82) Z Z (.inr ⟨_, _, _, Z, Z, ((L 5 Z Z).trans (cB g148))⟩) Z en34 (aC (L 4 Z Z) (aC K (aC (L 2 Z Z) (aC (L 0 Z Z) aN)))) (wk_ir_reg V82 _ (gl.up ((((((le9.trans le14).trans le30).trans le43).trans le48).trans le56).trans le83)) x38.2.2.1 false p1.b p0.regs ow84 _ hx153) (fun _ _ _ _ => nd) (fun v155 V156 le157 hp158 => ?_)
        obtain ⟨rfl, ow159⟩ := hp158
        refine U.p Z Z (.inr ⟨_, _, _, Z, Z, ((L 6 Z Z).trans (cB g148))⟩) (S.not Z (L 0 Z Z)) ?_
        refine U.p Z Z (.inl Z) (S.pickF Z ((L 7 Z Z).trans (cB g148)) (L 0 Z Z)) ?_
        have e160 := Option.some.inj h154
        subst e160
        exact kk [(78, .bool (!x152)), (77, .bool (!x152)), (76, .bool x152), (75, .int .i64 p0.regs), (74, .pointer (some ⟨b7, 2, none⟩)), (73, .int .i64 p1.b), (72, .pointer (some ⟨b12, 3, none⟩)), (71, .bool x38.2.2.1)] _ ⟨.bool (!x152), .bool x152, .int .i64 p0.regs, .pointer (some ⟨b7, 2, none⟩), .int .i64 p1.b, .pointer (some ⟨b12, 3, none⟩), .bool x38.2.2.1, V156, Z, le157, Z, ow159⟩
     ·intro kk
      refine bcase (b := !x51) (fun g161 => ?_) (fun g161 => ?_)
      ·have h162 := ifT g161 hy60
       have k163 : x51 = false := nT g161
       refine U.x Z Z Z Z ((L 0 Z Z).trans (cB g161)) (by decide) ?_
       refine U.x Z Z Z Z ((L 1 Z Z).trans (cB g161)) (by decide) ?_
       refine U.x Z Z Z Z ((L 2 Z Z).trans (cB g161)) (by decide) ?_
       refine U.x Z Z Z Z ((L 3 Z Z).trans (cB g161)) (by decide) ?_
       refine U.x Z Z Z Z ((L 4 Z Z).trans (cB g161)) (by decide) ?_
       refine U.z Z Z Z Z (L 0 Z Z) ?_
       refine U.z Z Z Z Z (L 1 Z Z) ?_
       refine U.z Z Z Z Z (L 2 Z Z) ?_
       refine U.x Z Z Z Z ((L 8 Z Z).trans (cB g161)) (by decide) ?_
       refine U.x Z Z Z Z ((L 9 Z Z).trans (cB g161)) (by decide) ?_
       refine U.z Z Z Z Z (L 0 Z Z) ?_
       refine U.z Z Z Z Z (L 1 Z Z) ?_
       refine U.z Z Z Z Z (L 2 Z Z) ?_
       refine U.x Z Z Z Z ((L 13 Z Z).trans (cB g161)) (by decide) ?_
       refine U.x Z Z Z Z ((L 14 Z Z).trans (cB g161)) (by decide) ?_
       refine U.x Z Z Z Z ((L 15 Z Z).trans (cB g161)) (by decide) ?_
       refine U.x Z Z Z Z ((L 16 Z Z).trans (cB g161)) (by decide) ?_
       refine U.x Z Z Z Z ((L 17 Z Z).trans (cB g161)) (by decide) ?_
       refine U.x Z Z Z Z ((L 18 Z Z).trans (cB g161)) (by decide) ?_
       refine U.x Z Z Z Z ((L 19 Z Z).trans (cB g161)) (by decide) ?_
       refine U.p Z Z (.inl Z) (S.pickT Z ((L 20 Z Z).trans (cB g161)) K) ?_
       have e164 := Option.some.inj h162
       subst e164
       exact kk [(69, .bool true), (68, .tuple #[]), (67, .tuple #[]), (66, .tuple #[]), (65, .tuple #[]), (64, .tuple #[]), (63, .tuple #[]), (62, .tuple #[]), (61, .tuple #[]), (60, .tuple #[]), (59, .tuple #[]), (58, .tuple #[]), (57, .tuple #[]), (56, .tuple #[]), (55, .tuple #[]), (54, .tuple #[]), (53, .tuple #[]), (52, .tuple #[]), (51, .tuple #[]), (50, .tuple #[]), (49, .tuple #[])] _ ⟨.tuple #[], .tuple #[], .tuple #[], .tuple #[], .tuple #[], .tuple #[], .tuple #[], .tuple #[], .tuple #[], .tuple #[], .tuple #[], .tuple #[], .tuple #[], .tuple #[], .tuple #[], .tuple #[], .tuple #[], .tuple #[], .tuple #[], .tuple #[], V55, Z, (.refl _), Z, ow58⟩
      ·have h165 := ifF g161 hy60
       have k166 : x51 = true := nF g161
       refine U.p Z Z (.inr ⟨_, _, _, Z, Z, ((L 0 Z Z).trans (cB g161))⟩) (S.move Z (L 15 Z Z)) ?_
       refine U.p (v := .pointer (some ⟨b12, 0, none⟩)) Z Z (.inr ⟨_, _, _, Z, Z, ((L 1 Z Z).trans (cB g161))⟩) (S.fieldAddr Z (L 14 Z Z) Tryd.underlying30 Z ti3 Z Z) ?_
       refine U.k Z Z (.inr ⟨_, _, _, Z, Z, ((L 2 Z Z).trans (cB g161))⟩) (S.load Z (L 0 Z Z) Tryd.underlying3 Z ((ow58.own (k := 2) Z).cell Z)) nd ?_
       refine U.p Z Z (.inr ⟨_, _, _, Z, Z, ((L 3 Z Z).trans (cB g161))⟩) (S.eqlI Z (L 0 Z Z) K) ?_
       refine U.p Z Z (.inr ⟨_, _, _, Z, Z, ((L 4 Z Z).trans (cB g161))⟩) (S.move Z (L 0 Z Z)) ?_
       refine U.joinX 20 (fun e H => ∃ (u167 u168 u169 : Value), H = V55.H ∧ e = [(57, .bool ((decide (p1.op = 9)) || (decide (p1.op = 10)))), (56, u167), (55, u168), (54, u169)]) ?_ ?_
       ·rintro _ _ ⟨u167, u168, u169, rfl, rfl⟩
        refine U.p Z Z (.inr ⟨_, _, _, Z, Z, ((L 9 Z Z).trans (cB g161))⟩) (S.move Z (L 0 Z Z)) ?_
        refine U.joinX 25 (fun e H => ∃ (u173 u174 u175 : Value), H = V55.H ∧ e = [(62, .bool (((decide (p1.op = 9)) || (decide (p1.op = 10))) || (decide (p1.op = 15)))), (61, u173), (60, u174), (59, u175)]) ?_ ?_
        ·rintro _ _ ⟨u173, u174, u175, rfl, rfl⟩
         refine U.p (v := .pointer (some ⟨b12, 2, none⟩)) Z Z (.inr ⟨_, _, _, Z, Z, ((L 14 Z Z).trans (cB g161))⟩) (S.fieldAddr Z (L 27 Z Z) Tryd.underlying30 Z ti3 Z Z) ?_
         refine U.k Z Z (.inr ⟨_, _, _, Z, Z, ((L 15 Z Z).trans (cB g161))⟩) (S.load Z (L 0 Z Z) Tryd.underlying3 Z ((ow58.own (k := 2) Z).cell Z)) nd ?_
         refine U.p (v := .pointer (some ⟨b7, 2, none⟩)) Z Z (.inr ⟨_, _, _, Z, Z, ((L 16 Z Z).trans (cB g161))⟩) (S.fieldAddr Z (L 28 Z Z) Tryd.underlying24 Z ti3 Z Z) ?_
         refine U.k Z Z (.inr ⟨_, _, _, Z, Z, ((L 17 Z Z).trans (cB g161))⟩) (S.load Z (L 0 Z Z) Tryd.underlying3 Z ((ow58.own (k := 1) Z).cell Z)) nd ?_
         obtain ⟨x179, hx180, h181⟩ := bindS h165
         refine O.call (V := V55) Z Z (.inr ⟨_, _, _, Z, Z, ((L 18 Z Z).trans (cB g161))⟩) Z en34 (aC (L 17 Z Z) (aC (L 4 Z Z) (aC (L 2 Z Z) (aC (L 0 Z Z) aN)))) (wk_ir_reg V55 _ (gl.up (((((le9.trans le14).trans le30).trans le43).trans le48).trans le56)) x46 (((decide (p1.op = 9)) || (decide (p1.op = 10))) || (decide (p1.op = 15))) p1.a p0.regs ow58 _ hx180) (fun _ _ _ _ => nd) (fun v182 V183 le184 hp185 => ?_)
         obtain ⟨rfl, ow186⟩ := hp185
         refine U.p Z Z (.inr ⟨_, _, _, Z, Z, ((L 19 Z Z).trans (cB g161))⟩) (S.not Z (L 0 Z Z)) ?_
         refine U.p Z Z (.inl Z) (S.pickF Z ((L 20 Z Z).trans (cB g161)) (L 0 Z Z)) ?_
         have e187 := Option.some.inj h181
         subst e187
         exact kk [(69, .bool (!x179)), (68, .bool (!x179)), (67, .bool x179), (66, .int .i64 p0.regs), (65, .pointer (some ⟨b7, 2, none⟩)), (64, .int .i64 p1.a), (63, .pointer (some ⟨b12, 2, none⟩)), (62, .bool (((decide (p1.op = 9)) || (decide (p1.op = 10))) || (decide (p1.op = 15)))), (61, u173), (60, u174), (59, u175), (58, .bool ((decide (p1.op = 9)) || (decide (p1.op = 10)))), (57, .bool ((decide (p1.op = 9)) || (decide (p1.op = 10)))), (56, u167), (55, u168), (54, u169), (53, .bool (decide (p1.op = 9))), (52, .bool (decide (p1.op = 9))), (51, .int .i64 p1.op), (50, .pointer (some ⟨b12, 0, none⟩)), (49, .bool x46)] _ ⟨.bool (!x179), .bool x179, .int .i64 p0.regs, .pointer (some ⟨b7, 2, none⟩), .int .i64 p1.a, .pointer (some ⟨b12, 2, none⟩), .bool (((decide (p1.op = 9)) || (decide (p1.op = 10))) || (decide (p1.op = 15))), u173, u174, u175, .bool ((decide (p1.op = 9)) || (decide (p1.op = 10))), .bool ((decide (p1.op = 9)) || (decide (p1.op = 10))), u167, u168, u169, .bool (decide (p1.op = 9)), .bool (decide (p1.op = 9)), .int .i64 p1.op, .pointer (some ⟨b12, 0, none⟩), .bool x46, V183, Z, le184, Z, ow186⟩
        ·intro kk
         refine bcase (b := (decide (p1.op = 9)) || (decide (p1.op = 10))) (fun g188 => ?_) (fun g188 => ?_)
         ·skip
          refine U.x Z Z Z Z ((L 0 Z Z).trans (cB g188)) (by decide) ?_
          refine U.x Z Z Z Z ((L 1 Z Z).trans (cB g188)) (by decide) ?_
          refine U.x Z Z Z Z ((L 2 Z Z).trans (cB g188)) (by decide) ?_
          refine U.p Z Z (.inr ⟨_, _, _, Z, Z, ((L 13 Z Z).trans (cB g161))⟩) (S.pickT Z ((L 3 Z Z).trans (cB g188)) K) ?_
          exact kk [(62, .bool true), (61, .tuple #[]), (60, .tuple #[]), (59, .tuple #[])] _ ⟨.tuple #[], .tuple #[], .tuple #[], Z, (by rw [g188, Bool.true_or])⟩
         ·skip
          refine U.p (v := .pointer (some ⟨b12, 0, none⟩)) Z Z (.inr ⟨_, _, _, Z, Z, ((L 0 Z Z).trans (cB g188))⟩) (S.fieldAddr Z (L 23 Z Z) Tryd.underlying30 Z ti3 Z Z) ?_
          refine U.k Z Z (.inr ⟨_, _, _, Z, Z, ((L 1 Z Z).trans (cB g188))⟩) (S.load Z (L 0 Z Z) Tryd.underlying3 Z ((ow58.own (k := 2) Z).cell Z)) nd ?_
          refine U.p Z Z (.inr ⟨_, _, _, Z, Z, ((L 2 Z Z).trans (cB g188))⟩) (S.eqlI Z (L 0 Z Z) K) ?_
          refine U.p Z Z (.inr ⟨_, _, _, Z, Z, ((L 13 Z Z).trans (cB g161))⟩) (S.pickF Z ((L 3 Z Z).trans (cB g188)) (L 0 Z Z)) ?_
          exact kk [(62, .bool (decide (p1.op = 15))), (61, .bool (decide (p1.op = 15))), (60, .int .i64 p1.op), (59, .pointer (some ⟨b12, 0, none⟩))] _ ⟨.bool (decide (p1.op = 15)), .int .i64 p1.op, .pointer (some ⟨b12, 0, none⟩), Z, (by rw [g188, Bool.false_or])⟩
       ·intro kk
        refine bcase (b := decide (p1.op = 9)) (fun g189 => ?_) (fun g189 => ?_)
        ·skip
         refine U.x Z Z Z Z ((L 0 Z Z).trans (cB g189)) (by decide) ?_
         refine U.x Z Z Z Z ((L 1 Z Z).trans (cB g189)) (by decide) ?_
         refine U.x Z Z Z Z ((L 2 Z Z).trans (cB g189)) (by decide) ?_
         refine U.p Z Z (.inr ⟨_, _, _, Z, Z, ((L 8 Z Z).trans (cB g161))⟩) (S.pickT Z ((L 3 Z Z).trans (cB g189)) K) ?_
         exact kk [(57, .bool true), (56, .tuple #[]), (55, .tuple #[]), (54, .tuple #[])] _ ⟨.tuple #[], .tuple #[], .tuple #[], Z, (by rw [g189, Bool.true_or])⟩
        ·skip
         refine U.p (v := .pointer (some ⟨b12, 0, none⟩)) Z Z (.inr ⟨_, _, _, Z, Z, ((L 0 Z Z).trans (cB g189))⟩) (S.fieldAddr Z (L 18 Z Z) Tryd.underlying30 Z ti3 Z Z) ?_
         refine U.k Z Z (.inr ⟨_, _, _, Z, Z, ((L 1 Z Z).trans (cB g189))⟩) (S.load Z (L 0 Z Z) Tryd.underlying3 Z ((ow58.own (k := 2) Z).cell Z)) nd ?_
         refine U.p Z Z (.inr ⟨_, _, _, Z, Z, ((L 2 Z Z).trans (cB g189))⟩) (S.eqlI Z (L 0 Z Z) K) ?_
         refine U.p Z Z (.inr ⟨_, _, _, Z, Z, ((L 8 Z Z).trans (cB g161))⟩) (S.pickF Z ((L 3 Z Z).trans (cB g189)) (L 0 Z Z)) ?_
         exact kk [(57, .bool (decide (p1.op = 10))), (56, .bool (decide (p1.op = 10))), (55, .int .i64 p1.op), (54, .pointer (some ⟨b12, 0, none⟩))] _ ⟨.bool (decide (p1.op = 10)), .int .i64 p1.op, .pointer (some ⟨b12, 0, none⟩), Z, (by rw [g189, Bool.false_or])⟩
    ·skip
     refine WP.usreg Z ?_
     refine U.p (v := .pointer (some ⟨b12, 0, none⟩)) Z Z (.inl Z) (S.fieldAddr Z (L 26 Z Z) Tryd.underlying30 Z ti3 Z Z) ?_
     refine U.k Z Z (.inl Z) (S.load Z (L 0 Z Z) Tryd.underlying3 Z ((ow45.own (k := 0) Z).cell Z)) nd ?_
     refine U.p Z Z (.inl Z) (S.eqlI Z (L 0 Z Z) K) ?_
     refine U.done (nr Z) ?_
     refine WP.cond _ (L 0 Z Z) Z (fun c190 => ?_) (fun c190 => ?_)
     ·have h191 := ifT c190 h40
      refine WP.ureg Z ?_
      refine U.p (v := .pointer (some ⟨b12, 4, none⟩)) Z Z (.inl Z) (S.fieldAddr Z (L 29 Z Z) Tryd.underlying30 Z ti3 Z Z) ?_
      refine U.k Z Z (.inl Z) (S.load Z (L 0 Z Z) Tryd.underlying3 Z ((ow45.own (k := 0) Z).cell Z)) nd ?_
      refine U.p Z Z (.inl Z) (S.eqlI Z (L 0 Z Z) K) ?_
      refine U.p Z Z (.inl Z) (S.assign Z (L 0 Z Z)) ?_
      refine U.done (nr Z) ?_
      refine sqN ?_
      have ow192 := ow45.pick 0 Z
      have ow193 := ow192.pick 1 Z
      have ow194 := ow193.pick 2 Z
      exact ⟨_, V42, Z, ⟨decide (p1.imm = 3), Z, (.refl _), ow194, h191⟩, (allCons (L 37 Z Z) (allCons (L 34 Z Z) (allCons (L 33 Z Z) (allCons (L 10 Z Z) (allCons (L 0 Z Z) (allCons (L 8 Z Z) (allCons (L 7 Z Z) allNil)))))))⟩
     ·have h195 := ifF c190 h40
      refine WP.skip ?_
      refine sqN ?_
      have ow196 := ow45.pick 0 Z
      have ow197 := ow196.pick 1 Z
      have ow198 := ow197.pick 2 Z
      exact ⟨_, V42, Z, ⟨x38.2.1, Z, (.refl _), ow198, h195⟩, (allCons (L 33 Z Z) (allCons (L 30 Z Z) (allCons (L 29 Z Z) (allCons (L 6 Z Z) (allCons (L 5 Z Z) (allCons (L 4 Z Z) (allCons (L 3 Z Z) allNil)))))))⟩
  ·intro kk
   refine bcase (b := (decide (p1.op < 1)) || (decide (22 < p1.op))) (fun g199 => ?_) (fun g199 => ?_)
   ·have h200 := ifT g199 hy24
    refine U.x Z Z Z Z ((L 0 Z Z).trans (cB g199)) (by decide) ?_
    refine U.x Z Z Z Z ((L 1 Z Z).trans (cB g199)) (by decide) ?_
    refine U.x Z Z Z Z ((L 2 Z Z).trans (cB g199)) (by decide) ?_
    refine U.p Z Z (.inl Z) (S.pickT Z ((L 3 Z Z).trans (cB g199)) K) ?_
    have e201 := Option.some.inj h200
    subst e201
    exact kk [(23, .bool true), (22, .tuple #[]), (21, .tuple #[]), (20, .tuple #[])] _ ⟨.tuple #[], .tuple #[], .tuple #[], V13, Z, (.refl _), Z, ow15⟩
   ·have h202 := ifF g199 hy24
    refine U.k Z Z (.inr ⟨_, _, _, Z, Z, ((L 0 Z Z).trans (cB g199))⟩) (S.loadB Z (L 10 Z Z) Tryd.underlying30 Z ti30 (ow15.own (k := 0) Z).get Z) nd ?_
    have f203 := f4.up (le9.trans le14)
    obtain ⟨x204, hx205, h206⟩ := bindS h202
    refine O.call (V := V13) Z Z (.inr ⟨_, _, _, Z, Z, ((L 1 Z Z).trans (cB g199))⟩) Z en32 (aC (L 0 Z Z) aN) (wk_ir_bare V13 _ (gl.up (le9.trans le14)) p1 v3 f203 ow15 _ hx205) (fun _ _ _ _ => nd) (fun v207 V208 le209 hp210 => ?_)
    obtain ⟨rfl, ow211⟩ := hp210
    refine U.p Z Z (.inr ⟨_, _, _, Z, Z, ((L 2 Z Z).trans (cB g199))⟩) (S.not Z (L 0 Z Z)) ?_
    refine U.p Z Z (.inl Z) (S.pickF Z ((L 3 Z Z).trans (cB g199)) (L 0 Z Z)) ?_
    have e212 := Option.some.inj h206
    subst e212
    exact kk [(23, .bool (!x204)), (22, .bool (!x204)), (21, .bool x204), (20, .agg #[.int .i64 p1.op, .int .i64 p1.d, .int .i64 p1.a, .int .i64 p1.b, .int .i64 p1.imm, v3, .int .i64 p1.what, .bool p1.volatile, .bool p1.final])] _ ⟨.bool (!x204), .bool x204, .agg #[.int .i64 p1.op, .int .i64 p1.d, .int .i64 p1.a, .int .i64 p1.b, .int .i64 p1.imm, v3, .int .i64 p1.what, .bool p1.volatile, .bool p1.final], V208, Z, le209, Z, ow211⟩
 ·intro kk
  refine bcase (b := decide (p1.op < 1)) (fun g213 => ?_) (fun g213 => ?_)
  ·skip
   refine U.x Z Z Z Z ((L 0 Z Z).trans (cB g213)) (by decide) ?_
   refine U.x Z Z Z Z ((L 1 Z Z).trans (cB g213)) (by decide) ?_
   refine U.x Z Z Z Z ((L 2 Z Z).trans (cB g213)) (by decide) ?_
   refine U.p Z Z (.inl Z) (S.pickT Z ((L 3 Z Z).trans (cB g213)) K) ?_
   exact kk [(18, .bool true), (17, .tuple #[]), (16, .tuple #[]), (15, .tuple #[])] _ ⟨.tuple #[], .tuple #[], .tuple #[], Z, (by rw [g213, Bool.true_or])⟩
  ·skip
   refine U.p (v := .pointer (some ⟨b12, 0, none⟩)) Z Z (.inr ⟨_, _, _, Z, Z, ((L 0 Z Z).trans (cB g213))⟩) (S.fieldAddr Z (L 5 Z Z) Tryd.underlying30 Z ti3 Z Z) ?_
   refine U.k Z Z (.inr ⟨_, _, _, Z, Z, ((L 1 Z Z).trans (cB g213))⟩) (S.load Z (L 0 Z Z) Tryd.underlying3 Z ((ow15.own (k := 0) Z).cell Z)) nd ?_
   refine U.p Z Z (.inr ⟨_, _, _, Z, Z, ((L 2 Z Z).trans (cB g213))⟩) (S.gtr Z (L 0 Z Z) K) ?_
   refine U.p Z Z (.inl Z) (S.pickF Z ((L 3 Z Z).trans (cB g213)) (L 0 Z Z)) ?_
   exact kk [(18, .bool (decide (22 < p1.op))), (17, .bool (decide (22 < p1.op))), (16, .int .i64 p1.op), (15, .pointer (some ⟨b12, 0, none⟩))] _ ⟨.bool (decide (22 < p1.op)), .int .i64 p1.op, .pointer (some ⟨b12, 0, none⟩), Z, (by rw [g213, Bool.false_or])⟩
theorem wk_ir_Good_c1 (V : Vw) (Rs : List At) (gl : Glb V) (p0 : TIns) (p1 : TFunc) (p2 : List Int) (v1 : Value) (b3 : Nat) (z4 : Nat) (v6 : Value) (b8 : Nat) (z9 : Nat) (v11 : Value) (f2 : Fz (RT.int .i64) V v1 p0.args) (f7 : Fz RT_TIns V v6 p1.code) (ow : Ow V (.pt b3 (.cells z4 [.string p1.name, .int .i64 p1.params, .int .i64 p1.regs, v6]) :: .pt b8 (.cells z9 [v11]) :: .os (RT.int .i64) v11 p2 :: Rs)) (r : Bool) (h : ir_Good_c1 p0 p1 p2 = some r) : ∃ v V', Cl Tryd.prog NG 23 #[.agg #[.int .i64 p0.op, .int .i64 p0.d, .int .i64 p0.a, .int .i64 p0.b, .int .i64 p0.imm, v1, .int .i64 p0.what, .bool p0.volatile, .bool p0.final], .pointer (some ⟨b3, 0, none⟩), .pointer (some ⟨b8, 0, none⟩)] V.H v V'.H ∧ V.le V' ∧ (v = .bool r ∧ Ow V' (.pt b3 (.cells z4 [.string p1.name, .int .i64 p1.params, .int .i64 p1.regs, v6]) :: .pt b8 (.cells z9 [v11]) :: .os (RT.int .i64) v11 p2 :: Rs)) := by
 refine Ct.of gl.lo Tryd.func23 Z (nr Z) ?_
 unfold ir_Good_c1 at h
 refine WP.usreg Z ?_
 refine O.box ow Z Z (.inl Z) Z (L 0 Z Z) (by simp [topV]) Z nd (fun b13 V14 le15 ow16 => ?_)
 refine U.p Z Z (.inl Z) (S.assign Z K) ?_
 refine U.done (nr Z) ?_
 refine WP.usreg Z ?_
 refine U.k Z Z (.inl Z) (S.loadB Z (L 3 Z Z) Tryd.underlying24 Z ti24 (ow16.own (k := 1) Z).get Z) nd ?_
 refine U.k Z Z (.inl Z) (S.loadB Z (L 2 Z Z) Tryd.underlying30 Z ti30 (ow16.own (k := 0) Z).get Z) nd ?_
 refine U.k Z Z (.inl Z) (S.load Z (L 6 Z Z) Tryd.underlying28 Z ((ow16.own (k := 2) Z).cell Z)) nd ?_
 have f18 := f7.up le15
 have f19 := f2.up le15
 have ow20 := ow16.pick 3 Z
 obtain ⟨x21, hx22, h23⟩ := bindS h
 refine O.call (V := V14) Z Z (.inl Z) Z en24 (aC (L 2 Z Z) (aC (L 1 Z Z) (aC (L 0 Z Z) aN))) (wk_ir_good V14 _ (gl.up le15) p1 p0 p2 v6 v1 v11 f18 f19 ow20 _ hx22) (fun _ _ _ _ => nd) (fun v24 V25 le26 hp27 => ?_)
 obtain ⟨rfl, ow28⟩ := hp27
 refine U.p Z Z (.inl Z) (S.not Z (L 0 Z Z)) ?_
 refine U.p Z Z (.inl Z) (S.assign Z (L 0 Z Z)) ?_
 refine U.done (nr Z) ?_
 refine WP.ret ?_
 refine fin.slot (.inr Z) Z (L 0 Z Z) ⟨V25, Z, (le15.trans le26), ?_⟩
 have ow29 := ow28.drop 1 Z
 have ow30 := ow29.pick 0 Z
 have ow31 := ow30.pick 2 Z
 have ow32 := ow31.pick 2 Z
 have e33 := Option.some.inj h23
 subst e33
 exact ⟨rfl, ow32⟩
theorem wk_slices_IndexFunc (V : Vw) (Rs : List At) (gl : Glb V) (p0 : List TIns) (p1_10 : TFunc) (p1_11 : List Int) (v1 : Value) (b3 : Nat) (z4 : Nat) (v6 : Value) (b8 : Nat) (z9 : Nat) (v11 : Value) (f2 : Fz RT_TIns V v1 p0) (f7 : Fz RT_TIns V v6 p1_10.code) (ow : Ow V (.pt b3 (.cells z4 [.string p1_10.name, .int .i64 p1_10.params, .int .i64 p1_10.regs, v6]) :: .pt b8 (.cells z9 [v11]) :: .os (RT.int .i64) v11 p1_11 :: Rs)) (r : Int) (h : slices_IndexFunc p0 p1_10 p1_11 = some r) : ∃ v V', Cl Tryd.prog NG 31 #[v1, .func (.func 23) #[] #[.pointer (some ⟨b3, 0, none⟩), .pointer (some ⟨b8, 0, none⟩)]] V.H v V'.H ∧ V.le V' ∧ (v = .int .i64 r ∧ Ow V' (.pt b3 (.cells z4 [.string p1_10.name, .int .i64 p1_10.params, .int .i64 p1_10.regs, v6]) :: .pt b8 (.cells z9 [v11]) :: .os (RT.int .i64) v11 p1_11 :: Rs)) := by
 refine Ct.of gl.lo Tryd.func31 Z (nr Z) ?_
 unfold slices_IndexFunc at h
 refine WP.usreg Z ?_
 refine U.p Z Z (.inl Z) (S.assign Z K) ?_
 refine U.done (nr Z) ?_
 refine WP.seq ?_
 refine WP.usreg Z ?_
 refine U.p Z Z (.inl Z) (S.move Z (L 1 Z Z)) ?_
 refine U.p Z Z (.inl Z) (f2.1.len Z (L 0 Z Z) Tryd.underlying22) ?_
 refine U.p Z Z (.inl Z) (S.move Z K) ?_
 refine U.done (nr Z) ?_
 refine WP.blk ?_
 unfold slices_IndexFunc_l1 at h
 obtain ⟨n15, hn14⟩ := loopO_some.1 h
 refine WP.loopI2 (fun n l V' => ∃ (x13 : Int), l = [(0, v1), (1, .func (.func 23) #[] #[.pointer (some ⟨b3, 0, none⟩), .pointer (some ⟨b8, 0, none⟩)]), (7, .int .i64 (p0.length : Int)), (8, .int .i64 x13)] ∧ V.le V' ∧ Ow V' (.pt b3 (.cells z4 [.string p1_10.name, .int .i64 p1_10.params, .int .i64 p1_10.regs, v6]) :: .pt b8 (.cells z9 [v11]) :: .os (RT.int .i64) v11 p1_11 :: Rs) ∧ itO (fun s => slices_IndexFunc_l1b p0 p1_10 p1_11 s) n x13 = some r) n15 _ ⟨0, Z, .refl _, ow, hn14⟩ (allCons (L 4 Z Z) (allCons (L 5 Z Z) (allCons (L 1 Z Z) (allCons (L 0 Z Z) allNil)))) ?_
 rintro _ _ V16 ⟨x13, rfl, le17, ow18, h22⟩
 obtain ⟨m19, q20, rfl, h23, e21⟩ := itS h22
 replace h23 : slices_IndexFunc_l1b p0 p1_10 p1_11 x13 = some q20 := h23
 unfold slices_IndexFunc_l1b at h23
 refine WP.usreg Z ?_
 refine U.p Z Z (.inl Z) (S.lss Z (L 3 Z Z) (L 2 Z Z)) ?_
 refine U.done (nr Z) ?_
 refine WP.seq ?_
 refine WP.cond _ (L 0 Z Z) Z (fun c24 => ?_) (fun c24 => ?_)
 ·have h25 := ifT c24 h23
  refine WP.skip ?_
  refine sqN ?_
  refine WP.seq ?_
  refine WP.blk ?_
  refine WP.usreg Z ?_
  refine U.p Z Z (.inl Z) (S.move Z (L 4 Z Z)) ?_
  refine U.p Z Z (.inl Z) (S.assign Z (L 0 Z Z)) ?_
  refine U.done (nr Z) ?_
  refine WP.usreg Z ?_
  refine U.p Z Z (.inl Z) (S.move Z (L 4 Z Z)) ?_
  refine U.p Z Z (.inl Z) (S.move Z (L 4 Z Z)) ?_
  refine U.p Z Z (.inl Z) (S.move Z (L 2 Z Z)) ?_
  obtain ⟨x26, hx27, h28⟩ := bindS h25
  obtain ⟨b29, o30, c31, cs32, hv33, hf34, hr35, hc36⟩ := f2.at hx27
  obtain ⟨v37, rfl, f38⟩ := hr35
  refine U.p Z Z (.inl Z) (S.index Z ((L 1 Z Z).trans hv33) (L 0 Z Z) Tryd.underlying22 ti30 (ix_ge hx27) (ix_lt hx27)) ?_
  refine U.k Z Z (.inl Z) (S.loadN (cs := [.int .i64 x26.op, .int .i64 x26.d, .int .i64 x26.a, .int .i64 x26.b, .int .i64 x26.imm, v37, .int .i64 x26.what, .bool x26.volatile, .bool x26.final]) Z (L 0 Z Z) Tryd.underlying30 Z ti30 Z (fun j v hj => le17.cell hf34 (hc36 j v hj))) nd ?_
  have f39 := f38.up le17
  have f40 := f7.up le17
  have ow41 := ow18.pick 2 Z
  have ow42 := ow41.pick 2 Z
  have ow43 := ow42.pick 2 Z
  obtain ⟨x44, hx45, h46⟩ := bindS h28
  refine O.callv (V := V16) Z Z (.inl Z) Z (L 4 Z Z) en23 (aC (L 0 Z Z) aN) (wk_ir_Good_c1 V16 _ (gl.up le17) x26 p1_10 p1_11 v37 b3 z4 v6 b8 z9 v11 f39 f40 ow43 _ hx45) (fun _ _ _ _ => nd) (fun v47 V48 le49 hp50 => ?_)
  obtain ⟨rfl, ow51⟩ := hp50
  refine U.done (nr Z) ?_
  refine WP.cond _ (L 0 Z Z) Z (fun c52 => ?_) (fun c52 => ?_)
  ·have h53 := ifT c52 h46
   refine WP.usreg Z ?_
   refine U.p Z Z (.inl Z) (S.move Z (L 6 Z Z)) ?_
   refine U.p Z Z (.inl Z) (S.assign Z (L 0 Z Z)) ?_
   refine U.done (nr Z) ?_
   refine WP.ret ?_
   refine blkR (sqR (sqR (blkR (sqR ?_))))
   have h54 := exitS h53 e21
   refine fin.slot (.inr Z) Z (L 0 Z Z) ⟨V48, Z, (le17.trans le49), ?_⟩
   have e55 := Option.some.inj h54
   subst e55
   exact ⟨rfl, ow51⟩
  ·have h56 := ifF c52 h46
   refine WP.skip ?_
   refine blkN (sqN ?_)
   refine WP.ureg Z ?_
   refine U.p Z Z (.inl Z) (S.add Z (L 12 Z Z) K) ?_
   refine U.p Z Z (.inl Z) (S.move Z (L 0 Z Z)) ?_
   refine U.done (nr Z) ?_
   refine sqN ?_
   exact ⟨_, V48, Z, ⟨m19, Nat.lt_succ_self _, w64 (x13 + 1), Z, (le17.trans le49), ow51, backS h56 e21⟩, (allCons (L 11 Z Z) (allCons (L 12 Z Z) (allCons (L 13 Z Z) (allCons (L 0 Z Z) allNil))))⟩
 ·have h57 := ifF c24 h23
  refine WP.exit ?_
  refine sqE (sqE (blkE (sqN ?_)))
  have h58 := exitS h57 e21
  refine WP.usreg Z ?_
  refine U.p Z Z (.inl Z) (S.assign Z K) ?_
  refine U.done (nr Z) ?_
  refine WP.ret ?_
  refine fin.slot (.inr Z) Z (L 0 Z Z) ⟨V16, Z, le17, ?_⟩
  have e59 := Option.some.inj h58
  subst e59
  exact ⟨rfl, ow18⟩
theorem wk_slices_ContainsFunc (V : Vw) (Rs : List At) (gl : Glb V) (p0 : List TIns) (p1_10 : TFunc) (p1_11 : List Int) (v1 : Value) (b3 : Nat) (z4 : Nat) (v6 : Value) (b8 : Nat) (z9 : Nat) (v11 : Value) (f2 : Fz RT_TIns V v1 p0) (f7 : Fz RT_TIns V v6 p1_10.code) (ow : Ow V (.pt b3 (.cells z4 [.string p1_10.name, .int .i64 p1_10.params, .int .i64 p1_10.regs, v6]) :: .pt b8 (.cells z9 [v11]) :: .os (RT.int .i64) v11 p1_11 :: Rs)) (r : Bool) (h : slices_ContainsFunc p0 p1_10 p1_11 = some r) : ∃ v V', Cl Tryd.prog NG 22 #[v1, .func (.func 23) #[] #[.pointer (some ⟨b3, 0, none⟩), .pointer (some ⟨b8, 0, none⟩)]] V.H v V'.H ∧ V.le V' ∧ (v = .bool r ∧ Ow V' (.pt b3 (.cells z4 [.string p1_10.name, .int .i64 p1_10.params, .int .i64 p1_10.regs, v6]) :: .pt b8 (.cells z9 [v11]) :: .os (RT.int .i64) v11 p1_11 :: Rs)) := by
 refine Ct.of gl.lo Tryd.func22 Z (nr Z) ?_
 unfold slices_ContainsFunc at h
 refine WP.usreg Z ?_
 refine U.p Z Z (.inl Z) (S.assign Z K) ?_
 refine U.done (nr Z) ?_
 refine WP.usreg Z ?_
 refine U.p Z Z (.inl Z) (S.move Z (L 1 Z Z)) ?_
 refine U.p Z Z (.inl Z) (S.move Z (L 3 Z Z)) ?_
 have ow13 := ow.pick 2 Z
 have ow14 := ow13.pick 2 Z
 have ow15 := ow14.pick 2 Z
 obtain ⟨x16, hx17, h18⟩ := bindS h
 refine O.call (V := V) Z Z (.inl Z) Z en31 (aC (L 1 Z Z) (aC (L 0 Z Z) aN)) (wk_slices_IndexFunc V _ gl p0 p1_10 p1_11 v1 b3 z4 v6 b8 z9 v11 f2 f7 ow15 _ hx17) (fun _ _ _ _ => nd) (fun v19 V20 le21 hp22 => ?_)
 obtain ⟨rfl, ow23⟩ := hp22
 refine U.p Z Z (.inl Z) (S.geq Z (L 0 Z Z) K) ?_
 refine U.p Z Z (.inl Z) (S.assign Z (L 0 Z Z)) ?_
 refine U.done (nr Z) ?_
 refine WP.ret ?_
 refine fin.slot (.inr Z) Z (L 0 Z Z) ⟨V20, Z, le21, ?_⟩
 have e24 := Option.some.inj h18
 subst e24
 exact ⟨rfl, ow23⟩
end Go.Vm.G08
