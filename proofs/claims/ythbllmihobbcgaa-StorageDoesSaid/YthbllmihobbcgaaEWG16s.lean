/-
  What the functions compute is what the plain ones say, for all inputs at which those answer.
-/
import Derived.Test.YthbllmihobbcgaaEDG16s
import Derived.Test.YthbllmihobbcgaaProg
set_option linter.unusedSimpArgs false
set_option linter.unusedVariables false
namespace Go.Vm.G16s
open Go Go.Proofs
set_option maxHeartbeats 4000000
set_option maxRecDepth 10000
theorem ti3 : tinfo Try.prog 3 (.int .i64 0) 1 8 := by unfold tinfo; kernel_rfl
theorem ti4 : tinfo Try.prog 4 (.bool false) 1 1 := by unfold tinfo; kernel_rfl
theorem ti26 : tinfo Try.prog 26 (.slice none 0 0) 1 24 := by unfold tinfo; kernel_rfl
theorem ti35 : tinfo Try.prog 35 (.agg #[.int .i64 0, .int .i64 0, .int .i64 0, .int .i64 0, .int .i64 0]) 5 40 := by unfold tinfo; kernel_rfl
theorem ti39 : tinfo Try.prog 39 (.agg #[.int .i64 0, .bool false, .int .i64 0, .int .i64 0]) 4 32 := by unfold tinfo; kernel_rfl
theorem ti43 : tinfo Try.prog 43 (.slice none 0 0) 1 24 := by unfold tinfo; kernel_rfl
theorem ti44 : tinfo Try.prog 44 (.slice none 0 0) 1 24 := by unfold tinfo; kernel_rfl
theorem ti46 : tinfo Try.prog 46 (.agg #[.int .i64 0, .slice none 0 0, .slice none 0 0]) 3 56 := by unfold tinfo; kernel_rfl
theorem ti53 : tinfo Try.prog 53 (.slice none 0 0) 1 24 := by unfold tinfo; kernel_rfl
theorem ti55 : tinfo Try.prog 55 (.agg #[.int .i64 0, .bool false, .int .i64 0, .int .i64 0]) 4 32 := by unfold tinfo; kernel_rfl
theorem ti58 : tinfo Try.prog 58 (.map none) 1 8 := by unfold tinfo; kernel_rfl
theorem ti59 : tinfo Try.prog 59 (.slice none 0 0) 1 24 := by unfold tinfo; kernel_rfl
theorem ti60 : tinfo Try.prog 60 (.slice none 0 0) 1 24 := by unfold tinfo; kernel_rfl
theorem ti62 : tinfo Try.prog 62 (.agg #[.slice none 0 0, .slice none 0 0, .slice none 0 0, .slice none 0 0, .map none]) 5 104 := by unfold tinfo; kernel_rfl
theorem ti63 : tinfo Try.prog 63 (.map none) 1 8 := by unfold tinfo; kernel_rfl
theorem pl39 : placesAre Try.prog 39 #[(0, 1), (1, 1), (2, 1), (3, 1)] := ⟨_, Try.underlying39, by kernel_rfl⟩
theorem pl46 : placesAre Try.prog 46 #[(0, 1), (1, 1), (2, 1)] := ⟨_, Try.underlying46, by kernel_rfl⟩
theorem pl55 : placesAre Try.prog 55 #[(0, 1), (1, 1), (2, 1), (3, 1)] := ⟨_, Try.underlying55, by kernel_rfl⟩
theorem pl62 : placesAre Try.prog 62 #[(0, 1), (1, 1), (2, 1), (3, 1), (4, 1)] := ⟨_, Try.underlying62, by kernel_rfl⟩
theorem en9 : enterable Try.prog 9 := ⟨Try.f9, Try.func9, by kernel_rfl, Z⟩
theorem en10 : enterable Try.prog 10 := ⟨Try.f10, Try.func10, by kernel_rfl, Z⟩
theorem en11 : enterable Try.prog 11 := ⟨Try.f11, Try.func11, by kernel_rfl, Z⟩
theorem en13 : enterable Try.prog 13 := ⟨Try.f13, Try.func13, by kernel_rfl, Z⟩
theorem en14 : enterable Try.prog 14 := ⟨Try.f14, Try.func14, by kernel_rfl, Z⟩
theorem en15 : enterable Try.prog 15 := ⟨Try.f15, Try.func15, by kernel_rfl, Z⟩
theorem en16 : enterable Try.prog 16 := ⟨Try.f16, Try.func16, by kernel_rfl, Z⟩
theorem en17 : enterable Try.prog 17 := ⟨Try.f17, Try.func17, by kernel_rfl, Z⟩
theorem en18 : enterable Try.prog 18 := ⟨Try.f18, Try.func18, by kernel_rfl, Z⟩
theorem en20 : enterable Try.prog 20 := ⟨Try.f20, Try.func20, by kernel_rfl, Z⟩
theorem en21 : enterable Try.prog 21 := ⟨Try.f21, Try.func21, by kernel_rfl, Z⟩
theorem en22 : enterable Try.prog 22 := ⟨Try.f22, Try.func22, by kernel_rfl, Z⟩
theorem en23 : enterable Try.prog 23 := ⟨Try.f23, Try.func23, by kernel_rfl, Z⟩
theorem en24 : enterable Try.prog 24 := ⟨Try.f24, Try.func24, by kernel_rfl, Z⟩
theorem en25 : enterable Try.prog 25 := ⟨Try.f25, Try.func25, by kernel_rfl, Z⟩
theorem en26 : enterable Try.prog 26 := ⟨Try.f26, Try.func26, by kernel_rfl, Z⟩
theorem en27 : enterable Try.prog 27 := ⟨Try.f27, Try.func27, by kernel_rfl, Z⟩
theorem en28 : enterable Try.prog 28 := ⟨Try.f28, Try.func28, by kernel_rfl, Z⟩
theorem en29 : enterable Try.prog 29 := ⟨Try.f29, Try.func29, by kernel_rfl, Z⟩
theorem en30 : enterable Try.prog 30 := ⟨Try.f30, Try.func30, by kernel_rfl, Z⟩
theorem en31 : enterable Try.prog 31 := ⟨Try.f31, Try.func31, by kernel_rfl, Z⟩
theorem en32 : enterable Try.prog 32 := ⟨Try.f32, Try.func32, by kernel_rfl, Z⟩
theorem en33 : enterable Try.prog 33 := ⟨Try.f33, Try.func33, by kernel_rfl, Z⟩
theorem en34 : enterable Try.prog 34 := ⟨Try.f34, Try.func34, by kernel_rfl, Z⟩
theorem en35 : enterable Try.prog 35 := ⟨Try.f35, Try.func35, by kernel_rfl, Z⟩
theorem en36 : enterable Try.prog 36 := ⟨Try.f36, Try.func36, by kernel_rfl, Z⟩
theorem en37 : enterable Try.prog 37 := ⟨Try.f37, Try.func37, by kernel_rfl, Z⟩
theorem en38 : enterable Try.prog 38 := ⟨Try.f38, Try.func38, by kernel_rfl, Z⟩
theorem en39 : enterable Try.prog 39 := ⟨Try.f39, Try.func39, by kernel_rfl, Z⟩
theorem en41 : enterable Try.prog 41 := ⟨Try.f41, Try.func41, by kernel_rfl, Z⟩
theorem wk_storage_New (V : Vw) (Rs : List At) (p0 : Int) (ow : Ow V (Rs)) (r : Tstorage_Storage) (h : storage_New p0 = some r) : ∃ v V', Cl Try.prog 0 10 #[.int .i64 p0] V.H v V'.H ∧ V.le V' ∧ (∃ (b1 : Nat) (z2 : Nat) (v4 : Value) (v6 : Value) (hs7 : List Value) (v9 : Value) (hs10 : List Value) (v12 : Value) (hs13 : List Value) (v15 : Value), v = .pointer (some ⟨b1, 0, none⟩) ∧ Ow V' (.pt b1 (.cells z2 [v4, v6, v9, v12, v15]) :: .os RT_Tref16_Event v4 r.events :: .oss (RO.os (RT.int .i64)) v6 hs7 r.seen :: .oss (RO.om RT.bool false) v9 hs10 r.has :: .oss (RO.om (RT.int .i64) false) v12 hs13 r.now :: .om (RT.int .i64) false v15 r.last :: Rs)) := by
 refine Ct.of (Nat.zero_le _) Try.func10 Z (nr Z) ?_
 unfold storage_New at h
 refine WP.usreg Z ?_
 refine U.p Z Z (.inl Z) (S.assign Z K) ?_
 refine U.done (nr Z) ?_
 refine WP.usreg Z ?_
 refine O.makeMap (RT.int .i64) false ow Z Z (.inl Z) Z (fun _ => nd) (fun v17 V18 le19 ow20 => ?_)
 refine U.p (v := .agg #[.slice none 0 0, .slice none 0 0, .slice none 0 0, .slice none 0 0, v17]) Z Z (.inl Z) (S.build (vs := [v17]) Z ti62 Z pl62 (aC (L 0 Z Z) aN) (allC (ow20.omne (k := 0) Z) allN) (fill1 Z (ow20.omcells (k := 0) Z) (nr Z) Z)) ?_
 refine O.box ow20 Z Z (.inl Z) Z (L 0 Z Z) (by simp [topV]) Z nd (fun b22 V23 le24 ow25 => ?_)
 refine U.p Z Z (.inl Z) (S.assign Z (L 0 Z Z)) ?_
 refine U.done (nr Z) ?_
 refine WP.seq ?_
 refine WP.usreg Z ?_
 refine U.p Z Z (.inl Z) (S.move Z (L 5 Z Z)) ?_
 refine U.p Z Z (.inl Z) (S.maxI Z (L 0 Z Z) K) ?_
 refine U.p Z Z (.inl Z) (S.minI Z (L 0 Z Z) K) ?_
 refine U.p Z Z (.inl Z) (S.move Z K) ?_
 refine U.done (nr Z) ?_
 refine WP.blk ?_
 have ow40 := ow25.ssnil (RO.os (RT.int .i64))
 have ow42 := ow40.ssnil (RO.om RT.bool false)
 have ow44 := ow42.ssnil (RO.om (RT.int .i64) false)
 have ow46 := ow44.pick 4 Z
 have ow47 := ow46.pick 1 Z
 have ow48 := ow47.pick 2 Z
 have ow49 := ow48.pick 3 Z
 have ow50 := ow49.pick 4 Z
 unfold storage_New_l1 at h
 obtain ⟨n52, hn51⟩ := loopO_some.1 h
 refine WP.loopI2 (fun n l V' => ∃ (v28 : Value) (hs29 : List Value) (xs30 : List (List Int)) (v32 : Value) (hs33 : List Value) (xs34 : List (List (Int × Bool))) (v36 : Value) (hs37 : List Value) (xs38 : List (List (Int × Int))) (x39 : Int), l = [(3, .pointer (some ⟨b22, 0, none⟩)), (9, .int .i64 (min (max p0 0) 8)), (10, .int .i64 x39)] ∧ V23.le V' ∧ Ow V' (.pt b22 (.cells 0 [.slice none 0 0, v28, v32, v36, v17]) :: .oss (RO.os (RT.int .i64)) v28 hs29 xs30 :: .oss (RO.om RT.bool false) v32 hs33 xs34 :: .oss (RO.om (RT.int .i64) false) v36 hs37 xs38 :: .om (RT.int .i64) false v17 [] :: Rs) ∧ itO (fun s => storage_New_l1b p0 s.1 s.2.1 s.2.2.1 s.2.2.2) n (xs30, xs34, xs38, x39) = some r) n52 _ ⟨(.slice none 0 0), [], [], (.slice none 0 0), [], [], (.slice none 0 0), [], [], 0, Z, .refl _, ow50, hn51⟩ (allCons (L 4 Z Z) (allCons (L 1 Z Z) (allCons (L 0 Z Z) allNil))) ?_
 rintro _ _ V53 ⟨v28, hs29, xs30, v32, hs33, xs34, v36, hs37, xs38, x39, rfl, le54, ow55, h59⟩
 obtain ⟨m56, q57, rfl, h60, e58⟩ := itS h59
 replace h60 : storage_New_l1b p0 xs30 xs34 xs38 x39 = some q57 := h60
 unfold storage_New_l1b at h60
 refine WP.usreg Z ?_
 refine U.p Z Z (.inl Z) (S.lss Z (L 2 Z Z) (L 1 Z Z)) ?_
 refine U.done (nr Z) ?_
 refine WP.seq ?_
 refine WP.cond _ (L 0 Z Z) Z (fun c61 => ?_) (fun c61 => ?_)
 ·have h62 := ifT c61 h60
  refine WP.skip ?_
  refine sqN ?_
  refine WP.seq ?_
  refine WP.blk ?_
  refine WP.udreg Z Z Z ?_
  refine U.p Z Z (.inl Z) (S.move Z (L 1 Z Z)) ?_
  refine U.p Z Z (.inl Z) (S.move Z (L 2 Z Z)) ?_
  refine U.p Z Z (.inl Z) (S.move Z (L 3 Z Z)) ?_
  refine U.p Z Z (.inl Z) (S.move Z (L 4 Z Z)) ?_
  refine U.p Z Z (.inl Z) (S.nilCheck Z (L 0 Z Z)) ?_
  refine U.p (v := .pointer (some ⟨b22, 1, none⟩)) Z Z (.inl Z) (S.fieldAddr Z (L 0 Z Z) Try.underlying62 Z ti44 Z Z) ?_
  refine U.k Z Z (.inl Z) (S.load Z (L 0 Z Z) Try.underlying44 Z ((ow55.own (k := 0) Z).cell Z)) (fun _ => (okH.nil (fun r h => by cases h; exact (ow55.own (k := 0) Z).lt))) ?_
  have ow63 := ow55.nil (RT.int .i64)
  refine O.litS (RI := (RO.os (RT.int .i64))) (Bs := [.os (RT.int .i64) (.slice none 0 0) []]) (As := .pt b22 (.cells 0 [.slice none 0 0, v28, v32, v36, v17]) :: .oss (RO.os (RT.int .i64)) v28 hs29 xs30 :: .oss (RO.om RT.bool false) v32 hs33 xs34 :: .oss (RO.om (RT.int .i64) false) v36 hs37 xs38 :: .om (RT.int .i64) false v17 [] :: Rs) (us := ([(.slice none 0 0)] : List Value)) (ys := [[]]) ow63 Z Z (.inl Z) Z Try.underlying44 ti26 Z Z (nr Z) Z (aC K aN) (fun p hp => all1 hp) (fun _ => (fun _ => (okH.cons trivial (okH.nil (fun r h => nomatch h))))) (fun v65 V66 le67 ow68 => ?_)
  have ow70 := ow68.pick 2 Z
  obtain ⟨xs71, hx72, h73⟩ := bindS h62
  refine O.appendS ow70 Z Z (.inl Z) Z (L 1 Z Z) (L 0 Z Z) Try.underlying44 ti26 Z (nr Z) Try.underlying44 hx72 (by simp) (fun V1 hs => (fun _ => (okH.cons (Or.inl Z) (okH.cons (Or.inl Z) (okH.nil (fun r h => nomatch h)))))) (fun v74 V75 le76 ow77 => ?_)
  refine U.p Z Z (.inl Z) (S.move Z (L 10 Z Z)) ?_
  refine U.p Z Z (.inl Z) (S.nilCheck Z (L 0 Z Z)) ?_
  refine U.p (v := .pointer (some ⟨b22, 2, none⟩)) Z Z (.inl Z) (S.fieldAddr Z (L 0 Z Z) Try.underlying62 Z ti59 Z Z) ?_
  refine U.k Z Z (.inl Z) (S.load Z (L 0 Z Z) Try.underlying59 Z ((ow77.own (k := 1) Z).cell Z)) (fun _ => (okH.cons (Or.inr (Or.inl ((ow77.own (k := 1) Z).get.trans (ow70.own (k := 2) Z).get.symm))) (okH.cons trivial (okH.cons trivial (okH.nil (fun r h => by cases h; exact (ow77.own (k := 1) Z).lt)))))) ?_
  refine O.makeMap RT.bool false ow77 Z Z (.inl Z) Z (fun _ => (fun _ => (okH.cons trivial (okH.cons trivial (okH.cons trivial (okH.cons trivial (okH.nil (fun r h => nomatch h)))))))) (fun v79 V80 le81 ow82 => ?_)
  refine O.litS (RI := (RO.om RT.bool false)) (Bs := [.om RT.bool false v79 []]) (As := .oss (RO.os (RT.int .i64)) v74 (hs29 ++ ([(.slice none 0 0)] : List Value)) xs71 :: .pt b22 (.cells 0 [.slice none 0 0, v28, v32, v36, v17]) :: .oss (RO.om RT.bool false) v32 hs33 xs34 :: .oss (RO.om (RT.int .i64) false) v36 hs37 xs38 :: .om (RT.int .i64) false v17 [] :: Rs) (us := ([v79] : List Value)) (ys := [[]]) ow82 Z Z (.inl Z) Z Try.underlying59 ti63 Z Z (nr Z) Z (aC (L 0 Z Z) aN) (fun p hp => all1 hp) (fun _ => (fun _ => (okH.cons trivial (okH.cons trivial (okH.cons trivial (okH.cons trivial (okH.cons trivial (okH.nil (fun r h => nomatch h))))))))) (fun v84 V85 le86 ow87 => ?_)
  have ow89 := ow87.pick 3 Z
  obtain ⟨xs90, hx91, h92⟩ := bindS h73
  refine O.appendS ow89 Z Z (.inl Z) Z (L 2 Z Z) (L 0 Z Z) Try.underlying59 ti63 Z (nr Z) Try.underlying59 hx91 (by simp) (fun V1 hs => (fun _ => (okH.cons (Or.inl Z) (okH.cons (Or.inl Z) (okH.cons (Or.inl Z) (okH.cons Z (okH.cons (Or.inl Z) (okH.cons (Or.inl Z) (okH.nil (fun r h => nomatch h)))))))))) (fun v93 V94 le95 ow96 => ?_)
  refine U.p Z Z (.inl Z) (S.move Z (L 17 Z Z)) ?_
  refine U.p Z Z (.inl Z) (S.nilCheck Z (L 0 Z Z)) ?_
  refine U.p (v := .pointer (some ⟨b22, 3, none⟩)) Z Z (.inl Z) (S.fieldAddr Z (L 0 Z Z) Try.underlying62 Z ti60 Z Z) ?_
  refine U.k Z Z (.inl Z) (S.load Z (L 0 Z Z) Try.underlying60 Z ((ow96.own (k := 2) Z).cell Z)) (fun _ => (okH.cons (Or.inr (Or.inl ((ow96.own (k := 2) Z).get.trans (ow89.own (k := 3) Z).get.symm))) (okH.cons trivial (okH.cons trivial (okH.cons trivial (okH.cons (Or.inr (Or.inl ((ow77.own (k := 1) Z).get.trans (ow70.own (k := 2) Z).get.symm))) (okH.cons trivial (okH.cons trivial (okH.nil (fun r h => by cases h; exact (ow96.own (k := 2) Z).lt)))))))))) ?_
  refine O.makeMap (RT.int .i64) false ow96 Z Z (.inl Z) Z (fun _ => (fun _ => (okH.cons trivial (okH.cons trivial (okH.cons trivial (okH.cons trivial (okH.cons trivial (okH.cons trivial (okH.cons trivial (okH.cons trivial (okH.nil (fun r h => nomatch h)))))))))))) (fun v98 V99 le100 ow101 => ?_)
  refine O.litS (RI := (RO.om (RT.int .i64) false)) (Bs := [.om (RT.int .i64) false v98 []]) (As := .oss (RO.om RT.bool false) v93 (hs33 ++ ([v79] : List Value)) xs90 :: .oss (RO.os (RT.int .i64)) v74 (hs29 ++ ([(.slice none 0 0)] : List Value)) xs71 :: .pt b22 (.cells 0 [.slice none 0 0, v28, v32, v36, v17]) :: .oss (RO.om (RT.int .i64) false) v36 hs37 xs38 :: .om (RT.int .i64) false v17 [] :: Rs) (us := ([v98] : List Value)) (ys := [[]]) ow101 Z Z (.inl Z) Z Try.underlying60 ti58 Z Z (nr Z) Z (aC (L 0 Z Z) aN) (fun p hp => all1 hp) (fun _ => (fun _ => (okH.cons trivial (okH.cons trivial (okH.cons trivial (okH.cons trivial (okH.cons trivial (okH.cons trivial (okH.cons trivial (okH.cons trivial (okH.cons trivial (okH.nil (fun r h => nomatch h))))))))))))) (fun v103 V104 le105 ow106 => ?_)
  have ow108 := ow106.pick 4 Z
  obtain ⟨xs109, hx110, h111⟩ := bindS h92
  refine O.appendS ow108 Z Z (.inl Z) Z (L 2 Z Z) (L 0 Z Z) Try.underlying60 ti58 Z (nr Z) Try.underlying60 hx110 (by simp) (fun V1 hs => (fun _ => (okH.cons (Or.inl Z) (okH.cons (Or.inl Z) (okH.cons (Or.inl Z) (okH.cons Z (okH.cons (Or.inl Z) (okH.cons (Or.inl Z) (okH.cons (Or.inl Z) (okH.cons Z (okH.cons (Or.inl Z) (okH.cons (Or.inl Z) (okH.nil (fun r h => nomatch h)))))))))))))) (fun v112 V113 le114 ow115 => ?_)
  refine U.p Z Z (.inl Z) (S.nilCheck Z (L 22 Z Z)) ?_
  refine U.p (v := .pointer (some ⟨b22, 1, none⟩)) Z Z (.inl Z) (S.fieldAddr Z (L 0 Z Z) Try.underlying62 Z ti44 Z Z) ?_
  refine O.store (k := 3) (cs := [v74]) (c' := [.slice none 0 0, v74, v32, v36, v17]) ow115 Z Z Z (.inl Z) Z (L 0 Z Z) (L 16 Z Z) ti44 (ow115.ssne (k := 2) Z) (by rw [ow115.sscells (k := 2) rfl]) Z (nr Z) (by have q0 := (ow115.ssone (k := 2) Z); simp only [List.all_cons, List.all_nil, q0]; rfl) Z (fun _ => (okH.cons Z (okH.cons (Or.inl Z) (okH.cons (Or.inl Z) (okH.cons (Or.inl Z) (okH.cons Z (okH.cons (Or.inl Z) (okH.cons (Or.inl Z) (okH.cons (Or.inl Z) (okH.cons Z (okH.cons (Or.inl Z) (okH.cons (Or.inl Z) (okH.nil (fun r h => nomatch h)))))))))))))) (fun V117 le118 ow119 => ?_)
  refine U.p Z Z (.inl Z) (S.nilCheck Z (L 23 Z Z)) ?_
  refine U.p (v := .pointer (some ⟨b22, 2, none⟩)) Z Z (.inl Z) (S.fieldAddr Z (L 0 Z Z) Try.underlying62 Z ti59 Z Z) ?_
  refine O.store (k := 3) (cs := [v93]) (c' := [.slice none 0 0, v74, v93, v36, v17]) ow119 Z Z Z (.inl Z) Z (L 0 Z Z) (L 11 Z Z) ti59 (ow119.ssne (k := 1) Z) (by rw [ow119.sscells (k := 1) rfl]) Z (nr Z) (by have q0 := (ow119.ssone (k := 1) Z); simp only [List.all_cons, List.all_nil, q0]; rfl) Z (fun _ => (okH.cons Z (okH.cons Z (okH.cons (Or.inl Z) (okH.cons (Or.inl Z) (okH.cons (Or.inl Z) (okH.cons Z (okH.cons (Or.inl Z) (okH.cons (Or.inl Z) (okH.cons (Or.inl Z) (okH.cons Z (okH.cons (Or.inl Z) (okH.cons (Or.inl Z) (okH.nil (fun r h => nomatch h))))))))))))))) (fun V120 le121 ow122 => ?_)
  refine U.p Z Z (.inl Z) (S.nilCheck Z (L 24 Z Z)) ?_
  refine U.p (v := .pointer (some ⟨b22, 3, none⟩)) Z Z (.inl Z) (S.fieldAddr Z (L 0 Z Z) Try.underlying62 Z ti60 Z Z) ?_
  refine O.store (k := 3) (cs := [v112]) (c' := [.slice none 0 0, v74, v93, v112, v17]) ow122 Z Z Z (.inl Z) Z (L 0 Z Z) (L 6 Z Z) ti60 (ow122.ssne (k := 0) Z) (by rw [ow122.sscells (k := 0) rfl]) Z (nr Z) (by have q0 := (ow122.ssone (k := 0) Z); simp only [List.all_cons, List.all_nil, q0]; rfl) Z (fun _ => (okH.cons Z (okH.cons Z (okH.cons Z (okH.cons (Or.inl Z) (okH.cons (Or.inl Z) (okH.cons (Or.inl Z) (okH.cons Z (okH.cons (Or.inl Z) (okH.cons (Or.inl Z) (okH.cons (Or.inl Z) (okH.cons Z (okH.cons (Or.inl Z) (okH.cons (Or.inl Z) (okH.nil (fun r h => nomatch h)))))))))))))))) (fun V123 le124 ow125 => ?_)
  refine U.done (nr Z) ?_
  refine blkN (sqN ?_)
  refine WP.ureg Z ?_
  refine U.p Z Z (.inl Z) (S.add Z (L 32 Z Z) K) ?_
  refine U.p Z Z (.inl Z) (S.move Z (L 0 Z Z)) ?_
  refine U.done (nr Z) ?_
  refine sqN ?_
  have ow126 := ow125.pick 4 Z
  have ow127 := ow126.pick 1 Z
  have ow128 := ow127.pick 2 Z
  have ow129 := ow128.pick 3 Z
  have ow130 := ow129.pick 4 Z
  exact ⟨_, V123, Z, ⟨m56, Nat.lt_succ_self _, v74, hs29 ++ ([(.slice none 0 0)] : List Value), xs71, v93, hs33 ++ ([v79] : List Value), xs90, v112, hs37 ++ ([v98] : List Value), xs109, w64 (x39 + 1), Z, (((((((((((le54.trans le67).trans le76).trans le81).trans le86).trans le95).trans le100).trans le105).trans le114).trans le118).trans le121).trans le124), ow130, backS h111 e58⟩, (allCons (L 32 Z Z) (allCons (L 33 Z Z) (allCons (L 0 Z Z) allNil)))⟩
 ·have h131 := ifF c61 h60
  refine WP.exit ?_
  refine sqE (sqE (blkE (sqN ?_)))
  have h132 := exitS h131 e58
  refine WP.usreg Z ?_
  refine U.p Z Z (.inl Z) (S.move Z (L 1 Z Z)) ?_
  refine U.p Z Z (.inl Z) (S.assign Z (L 0 Z Z)) ?_
  refine U.done (nr Z) ?_
  refine WP.ret ?_
  have ow133 := ow55.nil RT_Tref16_Event
  refine fin.slot (.inr Z) Z (L 0 Z Z) ⟨V53, Z, ((le19.trans le24).trans le54), ?_⟩
  have ow135 := ow133.pick 5 Z
  have ow136 := ow135.pick 5 Z
  have ow137 := ow136.pick 5 Z
  have ow138 := ow137.pick 5 Z
  have ow139 := ow138.pick 4 Z
  have ow140 := ow139.pick 5 Z
  have e141 := Option.some.inj h132
  subst e141
  exact ⟨b22, 0, (.slice none 0 0), v28, hs29, v32, hs33, v36, hs37, v17, Z, ow140⟩
theorem wk_storage_Storage_thread (V : Vw) (Rs : List At) (p0 : Tstorage_Storage) (p1 : Int) (b1 : Nat) (z2 : Nat) (v4 : Value) (v6 : Value) (hs7 : List Value) (v9 : Value) (hs10 : List Value) (v12 : Value) (hs13 : List Value) (v15 : Value) (ow : Ow V (.pt b1 (.cells z2 [v4, v6, v9, v12, v15]) :: .os RT_Tref16_Event v4 p0.events :: .oss (RO.os (RT.int .i64)) v6 hs7 p0.seen :: .oss (RO.om RT.bool false) v9 hs10 p0.has :: .oss (RO.om (RT.int .i64) false) v12 hs13 p0.now :: .om (RT.int .i64) false v15 p0.last :: Rs)) (r : Bool) (h : storage_Storage_thread p0 p1 = some r) : ∃ v V', Cl Try.prog 0 29 #[.pointer (some ⟨b1, 0, none⟩), .int .i64 p1] V.H v V'.H ∧ V.le V' ∧ (v = .bool r ∧ Ow V' (.pt b1 (.cells z2 [v4, v6, v9, v12, v15]) :: .os RT_Tref16_Event v4 p0.events :: .oss (RO.os (RT.int .i64)) v6 hs7 p0.seen :: .oss (RO.om RT.bool false) v9 hs10 p0.has :: .oss (RO.om (RT.int .i64) false) v12 hs13 p0.now :: .om (RT.int .i64) false v15 p0.last :: Rs)) := by
 refine Ct.of (Nat.zero_le _) Try.func29 Z (nr Z) ?_
 unfold storage_Storage_thread at h
 refine WP.usreg Z ?_
 refine U.p Z Z (.inl Z) (S.assign Z K) ?_
 refine U.done (nr Z) ?_
 refine WP.usreg Z ?_
 refine U.p Z Z (.inl Z) (S.move Z (L 1 Z Z)) ?_
 refine U.p Z Z (.inl Z) (S.nilP Z (.inr Z) (L 0 Z Z) K Try.underlying24) ?_
 refine U.p Z Z (.inl Z) (S.move Z (L 0 Z Z)) ?_
 refine U.p Z Z (.inr ⟨_, _, _, Z, Z, (L 0 Z Z)⟩) (S.move Z (L 5 Z Z)) ?_
 refine U.p Z Z (.inr ⟨_, _, _, Z, Z, (L 1 Z Z)⟩) (S.geq Z (L 0 Z Z) K) ?_
 refine U.p Z Z (.inl Z) (S.pickT Z (L 2 Z Z) (L 0 Z Z)) ?_
 refine U.p Z Z (.inl Z) (S.move Z (L 0 Z Z)) ?_
 refine U.joinX 15 (fun e H => ∃ (u17 u18 u19 u20 u21 u22 u23 : Value), H = V.H ∧ e = [(19, .bool ((decide (0 ≤ p1)) && (decide (p1 < (p0.seen.length : Int))))), (18, u17), (17, u18), (16, u19), (15, u20), (14, u21), (13, u22), (12, u23)]) ?_ ?_
 ·rintro _ _ ⟨u17, u18, u19, u20, u21, u22, u23, rfl, rfl⟩
  refine U.p Z Z (.inl Z) (S.assign Z (L 0 Z Z)) ?_
  refine U.done (nr Z) ?_
  refine WP.ret ?_
  refine fin.slot (.inr Z) Z (L 0 Z Z) ⟨V, Z, (.refl _), ?_⟩
  have e27 := Option.some.inj h
  subst e27
  exact ⟨rfl, ow⟩
 ·intro kk
  refine bcase (b := decide (0 ≤ p1)) (fun g28 => ?_) (fun g28 => ?_)
  ·skip
   refine U.p Z Z (.inr ⟨_, _, _, Z, Z, ((L 0 Z Z).trans (cB g28))⟩) (S.move Z (L 9 Z Z)) ?_
   refine U.p Z Z (.inr ⟨_, _, _, Z, Z, ((L 1 Z Z).trans (cB g28))⟩) (S.move Z (L 9 Z Z)) ?_
   refine U.p Z Z (.inr ⟨_, _, _, Z, Z, ((L 2 Z Z).trans (cB g28))⟩) (S.nilCheck Z (L 0 Z Z)) ?_
   refine U.p (v := .pointer (some ⟨b1, 1, none⟩)) Z Z (.inr ⟨_, _, _, Z, Z, ((L 3 Z Z).trans (cB g28))⟩) (S.fieldAddr Z (L 0 Z Z) Try.underlying62 Z ti44 Z Z) ?_
   refine U.k Z Z (.inr ⟨_, _, _, Z, Z, ((L 4 Z Z).trans (cB g28))⟩) (S.load Z (L 0 Z Z) Try.underlying44 Z ((ow.own (k := 0) Z).cell Z)) nd ?_
   refine U.p Z Z (.inr ⟨_, _, _, Z, Z, ((L 5 Z Z).trans (cB g28))⟩) (ow.sslen (k := 2) Z Z (L 0 Z Z) Try.underlying44) ?_
   refine U.p Z Z (.inr ⟨_, _, _, Z, Z, ((L 6 Z Z).trans (cB g28))⟩) (S.lss Z (L 5 Z Z) (L 0 Z Z)) ?_
   refine U.p Z Z (.inl Z) (S.pickT Z ((L 7 Z Z).trans (cB g28)) (L 0 Z Z)) ?_
   exact kk [(19, .bool (decide (p1 < (p0.seen.length : Int)))), (18, .bool (decide (p1 < (p0.seen.length : Int)))), (17, .int .i64 (p0.seen.length : Int)), (16, v6), (15, .pointer (some ⟨b1, 1, none⟩)), (14, .pointer (some ⟨b1, 0, none⟩)), (13, .pointer (some ⟨b1, 0, none⟩)), (12, .int .i64 p1)] _ ⟨.bool (decide (p1 < (p0.seen.length : Int))), .int .i64 (p0.seen.length : Int), v6, .pointer (some ⟨b1, 1, none⟩), .pointer (some ⟨b1, 0, none⟩), .pointer (some ⟨b1, 0, none⟩), .int .i64 p1, Z, (by rw [g28, Bool.true_and])⟩
  ·skip
   refine U.x Z Z Z Z ((L 0 Z Z).trans (cB g28)) (by decide) ?_
   refine U.x Z Z Z Z ((L 1 Z Z).trans (cB g28)) (by decide) ?_
   refine U.x Z Z Z Z ((L 2 Z Z).trans (cB g28)) (by decide) ?_
   refine U.x Z Z Z Z ((L 3 Z Z).trans (cB g28)) (by decide) ?_
   refine U.x Z Z Z Z ((L 4 Z Z).trans (cB g28)) (by decide) ?_
   refine U.x Z Z Z Z ((L 5 Z Z).trans (cB g28)) (by decide) ?_
   refine U.x Z Z Z Z ((L 6 Z Z).trans (cB g28)) (by decide) ?_
   refine U.p Z Z (.inl Z) (S.pickF Z ((L 7 Z Z).trans (cB g28)) K) ?_
   exact kk [(19, .bool false), (18, .tuple #[]), (17, .tuple #[]), (16, .tuple #[]), (15, .tuple #[]), (14, .tuple #[]), (13, .tuple #[]), (12, .tuple #[])] _ ⟨.tuple #[], .tuple #[], .tuple #[], .tuple #[], .tuple #[], .tuple #[], .tuple #[], Z, (by rw [g28, Bool.false_and])⟩
theorem wk_storage_Storage_come (V : Vw) (Rs : List At) (p0 : Tstorage_Storage) (p1 : Int) (p2 : Int) (b1 : Nat) (z2 : Nat) (v4 : Value) (v6 : Value) (hs7 : List Value) (v9 : Value) (hs10 : List Value) (v12 : Value) (hs13 : List Value) (v15 : Value) (ow : Ow V (.pt b1 (.cells z2 [v4, v6, v9, v12, v15]) :: .os RT_Tref16_Event v4 p0.events :: .oss (RO.os (RT.int .i64)) v6 hs7 p0.seen :: .oss (RO.om RT.bool false) v9 hs10 p0.has :: .oss (RO.om (RT.int .i64) false) v12 hs13 p0.now :: .om (RT.int .i64) false v15 p0.last :: Rs)) (r : Tstorage_Storage) (h : storage_Storage_come p0 p1 p2 = some r) : ∃ v V', Cl Try.prog 0 31 #[.pointer (some ⟨b1, 0, none⟩), .int .i64 p1, .int .i64 p2] V.H v V'.H ∧ V.le V' ∧ (∃ (v17 : Value) (hs18 : List Value) (v20 : Value) (hs21 : List Value) (v23 : Value) (hs24 : List Value) (v26 : Value), Ow V' (.pt b1 (.cells z2 [v4, v17, v20, v23, v26]) :: .os RT_Tref16_Event v4 r.events :: .oss (RO.os (RT.int .i64)) v17 hs18 r.seen :: .oss (RO.om RT.bool false) v20 hs21 r.has :: .oss (RO.om (RT.int .i64) false) v23 hs24 r.now :: .om (RT.int .i64) false v26 r.last :: Rs)) := by
 refine Ct.of (Nat.zero_le _) Try.func31 Z (nr Z) ?_
 unfold storage_Storage_come at h
 refine WP.usdreg Z Z Z ?_
 refine U.p Z Z (.inl Z) (S.move Z (L 0 Z Z)) ?_
 refine U.p Z Z (.inl Z) (S.nilCheck Z (L 0 Z Z)) ?_
 refine U.p (v := .pointer (some ⟨b1, 1, none⟩)) Z Z (.inl Z) (S.fieldAddr Z (L 0 Z Z) Try.underlying62 Z ti44 Z Z) ?_
 refine U.k Z Z (.inl Z) (S.load Z (L 0 Z Z) Try.underlying44 Z ((ow.own (k := 0) Z).cell Z)) (fun _ => (okH.nil (fun r h => by cases h; exact (ow.own (k := 0) Z).lt))) ?_
 refine U.p Z Z (.inl Z) (S.move Z (L 5 Z Z)) ?_
 refine U.p Z Z (.inl Z) (S.move Z (L 5 Z Z)) ?_
 refine U.p Z Z (.inl Z) (S.nilCheck Z (L 0 Z Z)) ?_
 refine U.p (v := .pointer (some ⟨b1, 1, none⟩)) Z Z (.inl Z) (S.fieldAddr Z (L 0 Z Z) Try.underlying62 Z ti44 Z Z) ?_
 refine U.k Z Z (.inl Z) (S.load Z (L 0 Z Z) Try.underlying44 Z ((ow.own (k := 0) Z).cell Z)) (fun _ => (okH.cons trivial (okH.nil (fun r h => by cases h; exact (ow.own (k := 0) Z).lt)))) ?_
 refine U.p Z Z (.inl Z) (S.move Z (L 10 Z Z)) ?_
 obtain ⟨x28, hx29, h30⟩ := bindS h
 obtain ⟨b31, o32, n33, c34, hv35⟩ := ow.sspt (k := 2) Z hx29
 refine U.p Z Z (.inl Z) (S.index Z ((L 1 Z Z).trans (ow.sslen' (k := 2) Z hv35)) (L 0 Z Z) Try.underlying44 ti26 (ix_ge hx29) (ix_lt hx29)) ?_
 obtain ⟨h36, hh37, ow38⟩ := ow.ssopen (k := 2) Z hx29
 have hcl40 := ow38.shcell (k := 3) Z hv35 hh37
 refine U.k Z Z (.inl Z) (S.load Z (L 0 Z Z) Try.underlying26 Z hcl40.2) (fun _ => (okH.cons trivial (okH.cons trivial (okH.nil (fun r h => by cases h; exact hcl40.1))))) ?_
 refine U.p Z Z (.inl Z) (S.move Z (L 14 Z Z)) ?_
 refine O.lit (R := (RT.int .i64)) ow38 Z Z (.inl Z) Z Try.underlying26 ti3 Z Z Z (nr Z) Z (aC (L 0 Z Z) aN) (.cons _ _ p2 _ (by simp [topV]) Z .nil) (fun _ => (fun _ => (okH.cons trivial (okH.cons trivial (okH.cons trivial (okH.nil (fun r h => nomatch h))))))) (fun v41 V42 le43 ow44 => ?_)
 obtain ⟨xs46, hx47, h48⟩ := bindS h30
 refine O.append (k := 1) ow44 Z Z Z (.inl Z) Z (L 2 Z Z) (L 0 Z Z) Try.underlying26 ti3 Z Z (nr Z) (ow44.src (k := 0) Z Try.underlying26) hx47 (fun V1 hs => (fun _ => (okH.cons (Or.inl Z) (okH.cons (Or.inl Z) (okH.cons (Or.inl Z) (okH.cons (Or.inr (hs _ (ow44.own (k := 2) Z).lt (ow44.noos (j := 2) (k := 1) Z Z (by decide)))) (okH.nil (fun r h => nomatch h)))))))) (fun v49 V50 le51 ow52 => ?_)
 obtain ⟨x54, hx55, h56⟩ := bindS h48
 refine U.p Z Z (.inl Z) (S.index Z ((L 11 Z Z).trans (ow52.shlen' (k := 4) Z hv35)) (L 10 Z Z) Try.underlying44 ti26 (ix_ge hx55) (ix_lt hx55)) ?_
 refine O.storeH (k := 4) ow52 Z hv35 Z Z (.inl Z) Z (L 0 Z Z) (L 1 Z Z) ti26 (ow52.osne (k := 1) Z) (by rw [ow52.oscells (k := 1) rfl]) (ow52.osone (k := 1) Z) (fun H1 hs => (fun _ => (okH.cons Z (okH.cons (Or.inl Z) (okH.cons (Or.inl Z) (okH.cons (Or.inl Z) (okH.cons (Or.inl Z) (okH.nil (fun r h => nomatch h))))))))) (fun V57 le58 ow59 => ?_)
 have hh60 := ow59.shset (k := 4) Z
 refine U.done (nr Z) ?_
 refine WP.usreg Z ?_
 refine U.p Z Z (.inl Z) (S.move Z (L 16 Z Z)) ?_
 refine U.p Z Z (.inl Z) (S.nilCheck Z (L 0 Z Z)) ?_
 refine U.p (v := .pointer (some ⟨b1, 2, none⟩)) Z Z (.inl Z) (S.fieldAddr Z (L 0 Z Z) Try.underlying62 Z ti59 Z Z) ?_
 refine U.k Z Z (.inl Z) (S.load Z (L 0 Z Z) Try.underlying59 Z ((ow59.own (k := 2) Z).cell Z)) nd ?_
 refine U.p Z Z (.inl Z) (S.move Z (L 21 Z Z)) ?_
 obtain ⟨x61, hx62, h63⟩ := bindS h56
 obtain ⟨b64, o65, n66, c67, hv68⟩ := ow59.sspt (k := 5) Z hx62
 refine U.p Z Z (.inl Z) (S.index Z ((L 1 Z Z).trans (ow59.sslen' (k := 5) Z hv68)) (L 0 Z Z) Try.underlying59 ti63 (ix_ge hx62) (ix_lt hx62)) ?_
 obtain ⟨h69, hh70, ow71⟩ := ow59.ssopen (k := 5) Z hx62
 have hcl73 := ow71.shcell (k := 6) Z hv68 hh70
 refine U.k Z Z (.inl Z) (S.load Z (L 0 Z Z) Try.underlying63 Z hcl73.2) nd ?_
 refine U.p Z Z (.inl Z) (S.move Z (L 25 Z Z)) ?_
 refine O.mapUpdate (k := 0) (w := true) ow71 Z Z Z (.inl Z) Z (L 1 Z Z) (L 0 Z Z) K Try.underlying63 Try.underlying3 (cell_vrel Z) (fun _ _ => nd) (fun V74 le75 ow76 => ?_)
 refine U.done (nr Z) ?_
 refine WP.usreg Z ?_
 refine U.p Z Z (.inl Z) (S.move Z (L 24 Z Z)) ?_
 refine U.p Z Z (.inl Z) (S.nilCheck Z (L 0 Z Z)) ?_
 refine U.p (v := .pointer (some ⟨b1, 0, none⟩)) Z Z (.inl Z) (S.fieldAddr Z (L 0 Z Z) Try.underlying62 Z ti53 Z Z) ?_
 refine U.k Z Z (.inl Z) (S.load Z (L 0 Z Z) Try.underlying53 Z ((ow76.own (k := 3) Z).cell Z)) nd ?_
 refine U.p Z Z (.inl Z) (S.move Z (L 30 Z Z)) ?_
 refine U.p Z Z (.inl Z) (S.sub Z (L 0 Z Z) K) ?_
 obtain ⟨x77, hx78, h79⟩ := bindS h63
 obtain ⟨b80, o81, n82, c83, hv84⟩ := ow76.ospt (k := 4) Z hx78
 obtain ⟨_, hv85, _⟩ := ow76.osel (k := 4) Z hv84 hx78
 refine U.p Z Z (.inl Z) (S.index Z ((L 2 Z Z).trans hv85) (L 0 Z Z) Try.underlying53 ti55 (ix_ge hx78) (ix_lt hx78)) ?_
 obtain ⟨cs86, hv87, hlt88, hr89, hc90⟩ := ow76.osel (k := 4) Z hv84 hx78
 obtain rfl : cs86 = [.int .i64 x77.thread, .bool x77.bar, .int .i64 x77.at_, .int .i64 x77.val] := hr89
 refine U.k Z Z (.inl Z) (S.loadN (cs := [.int .i64 x77.thread, .bool x77.bar, .int .i64 x77.at_, .int .i64 x77.val]) Z (L 0 Z Z) Try.underlying55 Z ti55 Z hc90) nd ?_
 refine O.alloc ow76 Z Z (.inl Z) Z ti55 Z Z nd (fun b91 V92 le93 ow94 => ?_)
 refine O.store (k := 0) (cs := [.int .i64 x77.thread, .bool x77.bar, .int .i64 x77.at_, .int .i64 x77.val]) (c' := [.int .i64 x77.thread, .bool x77.bar, .int .i64 x77.at_, .int .i64 x77.val]) ow94 Z Z Z (.inl Z) Z (L 0 Z Z) (L 1 Z Z) ti55 (by simp [topV]) Z Z (nr Z) Z Z nd (fun V96 le97 ow98 => ?_)
 refine U.done (nr Z) ?_
 refine WP.usreg Z ?_
 refine U.p (v := .pointer (some ⟨b91, 1, none⟩)) Z Z (.inl Z) (S.fieldAddr Z (L 0 Z Z) Try.underlying55 Z ti4 Z Z) ?_
 refine U.k Z Z (.inl Z) (S.load Z (L 0 Z Z) Try.underlying4 Z ((ow98.own (k := 0) Z).cell Z)) nd ?_
 refine U.p Z Z (.inl Z) (S.not Z (L 0 Z Z)) ?_
 refine U.done (nr Z) ?_
 refine WP.cond _ (L 0 Z Z) Z (fun c99 => ?_) (fun c99 => ?_)
 ·have h100 := ifT c99 h79
  have k101 : x77.bar = false := nT c99
  refine WP.udreg Z Z Z ?_
  refine U.p Z Z (.inl Z) (S.move Z (L 36 Z Z)) ?_
  refine U.p Z Z (.inl Z) (S.nilCheck Z (L 0 Z Z)) ?_
  refine U.p (v := .pointer (some ⟨b1, 3, none⟩)) Z Z (.inl Z) (S.fieldAddr Z (L 0 Z Z) Try.underlying62 Z ti60 Z Z) ?_
  refine U.k Z Z (.inl Z) (S.load Z (L 0 Z Z) Try.underlying60 Z ((ow98.own (k := 4) Z).cell Z)) (fun _ => (okH.nil (fun r h => by cases h; exact (ow98.own (k := 4) Z).lt))) ?_
  refine U.p Z Z (.inl Z) (S.move Z (L 41 Z Z)) ?_
  obtain ⟨x102, hx103, h104⟩ := bindS h100
  obtain ⟨b105, o106, n107, c108, hv109⟩ := ow98.sspt (k := 8) Z hx103
  refine U.p Z Z (.inl Z) (S.index Z ((L 1 Z Z).trans (ow98.sslen' (k := 8) Z hv109)) (L 0 Z Z) Try.underlying60 ti58 (ix_ge hx103) (ix_lt hx103)) ?_
  obtain ⟨h110, hh111, ow112⟩ := ow98.ssopen (k := 8) Z hx103
  have hcl114 := ow112.shcell (k := 9) Z hv109 hh111
  refine U.k Z Z (.inl Z) (S.load Z (L 0 Z Z) Try.underlying58 Z hcl114.2) (fun _ => (okH.cons trivial (okH.nil (fun r h => by cases h; exact hcl114.1)))) ?_
  refine U.p (v := .pointer (some ⟨b91, 2, none⟩)) Z Z (.inl Z) (S.fieldAddr Z (L 10 Z Z) Try.underlying55 Z ti3 Z Z) ?_
  refine U.k Z Z (.inl Z) (S.load Z (L 0 Z Z) Try.underlying3 Z ((ow112.own (k := 1) Z).cell Z)) (fun _ => (okH.cons trivial (okH.cons trivial (okH.nil (fun r h => by cases h; exact (ow112.own (k := 1) Z).lt))))) ?_
  refine U.p Z Z (.inl Z) (S.move Z (L 47 Z Z)) ?_
  refine O.mapUpdate (k := 0) (w := p2) ow112 Z Z Z (.inl Z) Z (L 3 Z Z) (L 1 Z Z) (L 0 Z Z) Try.underlying58 Try.underlying3 (cell_vrel Z) (fun H1 hs => (fun _ => (okH.cons (Or.inl Z) (okH.cons (Or.inl Z) (okH.cons (Or.inl Z) (okH.nil (fun r h => nomatch h))))))) (fun V115 le116 ow117 => ?_)
  refine U.done (nr Z) ?_
  have ow118 := ow117.ssclose (k := 7) (j := 4) Z Z (by decide) hh60
  have ow119 := ow118.ssclose (k := 7) (j := 2) Z Z (by decide) hh70
  have ow120 := ow119.ssclose (k := 7) (j := 0) Z Z (by decide) hh111
  refine fin.slots' (.inl Z) fsN Z ⟨V115, Z, ((((((le43.trans le51).trans le58).trans le75).trans le93).trans le97).trans le116), ?_⟩
  have ow121 := ow120.drop 0 Z
  have ow122 := ow121.drop 0 Z
  have e123 := Option.some.inj h104
  subst e123
  exact ⟨v6, hs7.set (Int.toNat p1) v49, v9, hs10, v12, hs13, v15, ow122⟩
 ·have h124 := ifF c99 h79
  have k125 : x77.bar = true := nF c99
  refine WP.skip ?_
  have ow126 := ow98.ssclose (k := 6) (j := 3) Z Z (by decide) hh60
  have ow127 := ow126.ssclose (k := 6) (j := 1) Z Z (by decide) hh70
  refine fin.slots' (.inl Z) fsN Z ⟨V96, Z, (((((le43.trans le51).trans le58).trans le75).trans le93).trans le97), ?_⟩
  have ow128 := ow127.drop 0 Z
  have ow129 := ow128.drop 0 Z
  have e130 := Option.some.inj h124
  subst e130
  exact ⟨v6, hs7.set (Int.toNat p1) v49, v9, hs10, v12, hs13, v15, ow129⟩
theorem wk_storage_Storage_accept (V : Vw) (Rs : List At) (p0 : Tstorage_Storage) (p1 : Tref16_Event) (b1 : Nat) (z2 : Nat) (v4 : Value) (v6 : Value) (hs7 : List Value) (v9 : Value) (hs10 : List Value) (v12 : Value) (hs13 : List Value) (v15 : Value) (ow : Ow V (.pt b1 (.cells z2 [v4, v6, v9, v12, v15]) :: .os RT_Tref16_Event v4 p0.events :: .oss (RO.os (RT.int .i64)) v6 hs7 p0.seen :: .oss (RO.om RT.bool false) v9 hs10 p0.has :: .oss (RO.om (RT.int .i64) false) v12 hs13 p0.now :: .om (RT.int .i64) false v15 p0.last :: Rs)) (r : Int × Tstorage_Storage) (h : storage_Storage_accept p0 p1 = some r) : ∃ v V', Cl Try.prog 0 30 #[.pointer (some ⟨b1, 0, none⟩), .agg #[.int .i64 p1.thread, .bool p1.bar, .int .i64 p1.at_, .int .i64 p1.val]] V.H v V'.H ∧ V.le V' ∧ (∃ (v17 : Value) (v19 : Value) (hs20 : List Value) (v22 : Value) (hs23 : List Value) (v25 : Value) (hs26 : List Value) (v28 : Value), v = .int .i64 r.1 ∧ Ow V' (.pt b1 (.cells z2 [v17, v19, v22, v25, v28]) :: .os RT_Tref16_Event v17 r.2.events :: .oss (RO.os (RT.int .i64)) v19 hs20 r.2.seen :: .oss (RO.om RT.bool false) v22 hs23 r.2.has :: .oss (RO.om (RT.int .i64) false) v25 hs26 r.2.now :: .om (RT.int .i64) false v28 r.2.last :: Rs)) := by
 refine Ct.of (Nat.zero_le _) Try.func30 Z (nr Z) ?_
 unfold storage_Storage_accept at h
 refine WP.usreg Z ?_
 refine O.box ow Z Z (.inl Z) Z (L 1 Z Z) (by simp [topV]) Z nd (fun b30 V31 le32 ow33 => ?_)
 refine U.p Z Z (.inl Z) (S.assign Z K) ?_
 refine U.done (nr Z) ?_
 refine WP.usdreg Z Z Z ?_
 refine U.p Z Z (.inl Z) (S.move Z (L 2 Z Z)) ?_
 refine U.p Z Z (.inl Z) (S.move Z (L 3 Z Z)) ?_
 refine U.p Z Z (.inl Z) (S.nilCheck Z (L 0 Z Z)) ?_
 refine U.p (v := .pointer (some ⟨b1, 0, none⟩)) Z Z (.inl Z) (S.fieldAddr Z (L 0 Z Z) Try.underlying62 Z ti53 Z Z) ?_
 refine U.k Z Z (.inl Z) (S.load Z (L 0 Z Z) Try.underlying53 Z ((ow33.own (k := 1) Z).cell Z)) (fun _ => (okH.nil (fun r h => by cases h; exact (ow33.own (k := 1) Z).lt))) ?_
 refine U.k Z Z (.inl Z) (S.loadB Z (L 6 Z Z) Try.underlying55 Z ti55 (ow33.own (k := 0) Z).get Z) (fun _ => (okH.cons trivial (okH.nil (fun r h => by cases h; exact (ow33.own (k := 0) Z).lt)))) ?_
 refine O.lit (R := RT_Tref16_Event) ow33 Z Z (.inl Z) Z Try.underlying53 ti55 Z Z Z (nr Z) Z (aC (L 0 Z Z) aN) (.cons _ _ p1 _ (by simp [topV]) Z .nil) (fun _ => (fun _ => (okH.cons trivial (okH.cons trivial (okH.nil (fun r h => nomatch h)))))) (fun v35 V36 le37 ow38 => ?_)
 obtain ⟨xs40, hx41, h42⟩ := bindS h
 refine O.append (k := 3) ow38 Z Z Z (.inl Z) Z (L 2 Z Z) (L 0 Z Z) Try.underlying53 ti55 Z Z (nr Z) (ow38.src (k := 0) Z Try.underlying53) hx41 (fun V1 hs => (fun _ => (okH.cons (Or.inl Z) (okH.cons (Or.inl Z) (okH.cons (Or.inl Z) (okH.nil (fun r h => nomatch h))))))) (fun v43 V44 le45 ow46 => ?_)
 refine U.p Z Z (.inl Z) (S.nilCheck Z (L 7 Z Z)) ?_
 refine U.p (v := .pointer (some ⟨b1, 0, none⟩)) Z Z (.inl Z) (S.fieldAddr Z (L 0 Z Z) Try.underlying62 Z ti53 Z Z) ?_
 refine O.store (k := 2) (cs := [v43]) (c' := [v43, v6, v9, v12, v15]) ow46 Z Z Z (.inl Z) Z (L 0 Z Z) (L 2 Z Z) ti53 (ow46.osne (k := 3) Z) (by rw [ow46.oscells (k := 3) rfl]) Z (nr Z) (by have q0 := (ow46.osone (k := 3) Z); simp only [List.all_cons, List.all_nil, q0]; rfl) Z (fun _ => (okH.cons Z (okH.cons (Or.inl Z) (okH.cons (Or.inl Z) (okH.cons (Or.inl Z) (okH.nil (fun r h => nomatch h))))))) (fun V48 le49 ow50 => ?_)
 refine U.done (nr Z) ?_
 refine WP.usreg Z ?_
 refine U.p Z Z (.inl Z) (S.move Z (L 12 Z Z)) ?_
 refine U.p Z Z (.inl Z) (S.nilCheck Z (L 0 Z Z)) ?_
 refine U.p (v := .pointer (some ⟨b1, 0, none⟩)) Z Z (.inl Z) (S.fieldAddr Z (L 0 Z Z) Try.underlying62 Z ti53 Z Z) ?_
 refine U.k Z Z (.inl Z) (S.load Z (L 0 Z Z) Try.underlying53 Z ((ow50.own (k := 2) Z).cell Z)) nd ?_
 refine U.p Z Z (.inl Z) (ow50.oslen (k := 3) Z Z (L 0 Z Z) Try.underlying53) ?_
 refine U.p Z Z (.inl Z) (S.assign Z (L 0 Z Z)) ?_
 refine U.done (nr Z) ?_
 refine WP.seqI (fun l V' => ∃ (xs51 : List (Int × Int)), l = [(0, .pointer (some ⟨b1, 0, none⟩)), (3, .pointer (some ⟨b30, 0, none⟩)), (5, .int .i64 (xs40.length : Int))] ∧ V48.le V' ∧ Ow V' (.pt b1 (.cells z2 [v43, v6, v9, v12, v15]) :: .os RT_Tref16_Event v43 xs40 :: .oss (RO.os (RT.int .i64)) v6 hs7 p0.seen :: .oss (RO.om RT.bool false) v9 hs10 p0.has :: .oss (RO.om (RT.int .i64) false) v12 hs13 p0.now :: .om (RT.int .i64) false v15 xs51 :: .pt b30 (.cells 0 [.int .i64 p1.thread, .bool p1.bar, .int .i64 p1.at_, .int .i64 p1.val]) :: Rs) ∧ storage_Storage_accept_k1 p0 p1 xs40 xs51 = some r) ?_ ?_
 ·rintro _ V52 ⟨xs51, rfl, le53, ow54, h55⟩
  unfold storage_Storage_accept_k1 at h55
  refine WP.usreg Z ?_
  refine U.p Z Z (.inl Z) (S.move Z (L 0 Z Z)) ?_
  refine U.p (v := .pointer (some ⟨b30, 0, none⟩)) Z Z (.inl Z) (S.fieldAddr Z (L 2 Z Z) Try.underlying55 Z ti3 Z Z) ?_
  refine U.k Z Z (.inl Z) (S.load Z (L 0 Z Z) Try.underlying3 Z ((ow54.own (k := 6) Z).cell Z)) nd ?_
  refine U.p Z Z (.inl Z) (S.move Z (L 5 Z Z)) ?_
  have ow56 := ow54.pick 5 Z
  have ow57 := ow56.pick 5 Z
  have ow58 := ow57.pick 5 Z
  have ow59 := ow58.pick 5 Z
  have ow60 := ow59.pick 5 Z
  have ow61 := ow60.pick 5 Z
  obtain ⟨x62, hx63, h64⟩ := bindS h55
  refine O.call (V := V52) Z Z (.inl Z) Z en31 (aC (L 3 Z Z) (aC (L 1 Z Z) (aC (L 0 Z Z) aN))) (wk_storage_Storage_come V52 _ (⟨xs40, p0.seen, p0.has, p0.now, xs51⟩ : Tstorage_Storage) p1.thread (xs40.length : Int) b1 z2 v43 v6 hs7 v9 hs10 v12 hs13 v15 ow61 _ hx63) (fun _ _ _ _ => nd) (fun v65 V66 le67 hp68 => ?_)
  obtain ⟨v70, hs71, v73, hs74, v76, hs77, v79, ow69⟩ := hp68
  refine U.done (nr Z) ?_
  refine WP.usreg Z ?_
  refine U.p Z Z (.inl Z) (S.move Z (L 7 Z Z)) ?_
  refine U.p Z Z (.inl Z) (S.assign Z (L 0 Z Z)) ?_
  refine U.done (nr Z) ?_
  refine WP.ret ?_
  refine fin.slot (.inr Z) Z (L 0 Z Z) ⟨V66, Z, (((((le32.trans le37).trans le45).trans le49).trans le53).trans le67), ?_⟩
  have ow81 := ow69.drop 6 Z
  have e82 := Option.some.inj h64
  subst e82
  exact ⟨v43, v70, hs71, v73, hs74, v76, hs77, v79, Z, ow81⟩
 ·skip
  refine WP.usreg Z ?_
  refine U.p (v := .pointer (some ⟨b30, 1, none⟩)) Z Z (.inl Z) (S.fieldAddr Z (L 17 Z Z) Try.underlying55 Z ti4 Z Z) ?_
  refine U.k Z Z (.inl Z) (S.load Z (L 0 Z Z) Try.underlying4 Z ((ow50.own (k := 1) Z).cell Z)) nd ?_
  refine U.p Z Z (.inl Z) (S.not Z (L 0 Z Z)) ?_
  refine U.done (nr Z) ?_
  refine WP.cond _ (L 0 Z Z) Z (fun c83 => ?_) (fun c83 => ?_)
  ·have h84 := ifT c83 h42
   have k85 : p1.bar = false := nT c83
   refine WP.udreg Z Z Z ?_
   refine U.p Z Z (.inl Z) (S.move Z (L 21 Z Z)) ?_
   refine U.p Z Z (.inl Z) (S.nilCheck Z (L 0 Z Z)) ?_
   refine U.p (v := .pointer (some ⟨b1, 4, none⟩)) Z Z (.inl Z) (S.fieldAddr Z (L 0 Z Z) Try.underlying62 Z ti58 Z Z) ?_
   refine U.k Z Z (.inl Z) (S.load Z (L 0 Z Z) Try.underlying58 Z ((ow50.own (k := 2) Z).cell Z)) (fun _ => (okH.nil (fun r h => by cases h; exact (ow50.own (k := 2) Z).lt))) ?_
   refine U.p (v := .pointer (some ⟨b30, 2, none⟩)) Z Z (.inl Z) (S.fieldAddr Z (L 24 Z Z) Try.underlying55 Z ti3 Z Z) ?_
   refine U.k Z Z (.inl Z) (S.load Z (L 0 Z Z) Try.underlying3 Z ((ow50.own (k := 1) Z).cell Z)) (fun _ => (okH.cons trivial (okH.nil (fun r h => by cases h; exact (ow50.own (k := 1) Z).lt)))) ?_
   refine U.p Z Z (.inl Z) (S.move Z (L 9 Z Z)) ?_
   refine O.mapUpdate (k := 7) (w := (xs40.length : Int)) ow50 Z Z Z (.inl Z) Z (L 3 Z Z) (L 1 Z Z) (L 0 Z Z) Try.underlying58 Try.underlying3 (cell_vrel Z) (fun H1 hs => (fun _ => (okH.cons (Or.inl Z) (okH.cons (Or.inl Z) (okH.nil (fun r h => nomatch h)))))) (fun V86 le87 ow88 => ?_)
   refine U.done (nr Z) ?_
   refine sqN ?_
   have ow89 := ow88.drop 0 Z
   have ow90 := ow89.pick 0 Z
   have ow91 := ow90.pick 6 Z
   have ow92 := ow91.pick 6 Z
   have ow93 := ow92.pick 6 Z
   have ow94 := ow93.pick 6 Z
   have ow95 := ow94.pick 6 Z
   have ow96 := ow95.pick 6 Z
   exact ⟨_, V86, Z, ⟨mS p0.last p1.at_ (xs40.length : Int), Z, le87, ow96, h84⟩, (allCons (L 28 Z Z) (allCons (L 27 Z Z) (allCons (L 10 Z Z) allNil)))⟩
  ·have h97 := ifF c83 h42
   have k98 : p1.bar = true := nF c83
   refine WP.skip ?_
   refine sqN ?_
   have ow99 := ow50.drop 0 Z
   have ow100 := ow99.pick 0 Z
   have ow101 := ow100.pick 6 Z
   have ow102 := ow101.pick 6 Z
   have ow103 := ow102.pick 6 Z
   have ow104 := ow103.pick 6 Z
   have ow105 := ow104.pick 6 Z
   have ow106 := ow105.pick 6 Z
   exact ⟨_, V48, Z, ⟨p0.last, Z, (.refl _), ow106, h97⟩, (allCons (L 21 Z Z) (allCons (L 20 Z Z) (allCons (L 3 Z Z) allNil)))⟩
theorem wk_storage_Storage_Write (V : Vw) (Rs : List At) (p0 : Tstorage_Storage) (p1 : Int) (p2 : Int) (p3 : Int) (b1 : Nat) (z2 : Nat) (v4 : Value) (v6 : Value) (hs7 : List Value) (v9 : Value) (hs10 : List Value) (v12 : Value) (hs13 : List Value) (v15 : Value) (ow : Ow V (.pt b1 (.cells z2 [v4, v6, v9, v12, v15]) :: .os RT_Tref16_Event v4 p0.events :: .oss (RO.os (RT.int .i64)) v6 hs7 p0.seen :: .oss (RO.om RT.bool false) v9 hs10 p0.has :: .oss (RO.om (RT.int .i64) false) v12 hs13 p0.now :: .om (RT.int .i64) false v15 p0.last :: Rs)) (r : Int × Tstorage_Storage) (h : storage_Storage_Write p0 p1 p2 p3 = some r) : ∃ v V', Cl Try.prog 0 15 #[.pointer (some ⟨b1, 0, none⟩), .int .i64 p1, .int .i64 p2, .int .i64 p3] V.H v V'.H ∧ V.le V' ∧ (∃ (v17 : Value) (v19 : Value) (hs20 : List Value) (v22 : Value) (hs23 : List Value) (v25 : Value) (hs26 : List Value) (v28 : Value), v = .int .i64 r.1 ∧ Ow V' (.pt b1 (.cells z2 [v17, v19, v22, v25, v28]) :: .os RT_Tref16_Event v17 r.2.events :: .oss (RO.os (RT.int .i64)) v19 hs20 r.2.seen :: .oss (RO.om RT.bool false) v22 hs23 r.2.has :: .oss (RO.om (RT.int .i64) false) v25 hs26 r.2.now :: .om (RT.int .i64) false v28 r.2.last :: Rs)) := by
 refine Ct.of (Nat.zero_le _) Try.func15 Z (nr Z) ?_
 unfold storage_Storage_Write at h
 refine WP.usreg Z ?_
 refine U.p Z Z (.inl Z) (S.assign Z K) ?_
 refine U.done (nr Z) ?_
 refine WP.seq ?_
 refine WP.usreg Z ?_
 refine U.p Z Z (.inl Z) (S.move Z (L 1 Z Z)) ?_
 refine U.p Z Z (.inl Z) (S.move Z (L 3 Z Z)) ?_
 have ow30 := ow.pick 5 Z
 have ow31 := ow30.pick 5 Z
 have ow32 := ow31.pick 5 Z
 have ow33 := ow32.pick 5 Z
 have ow34 := ow33.pick 5 Z
 have ow35 := ow34.pick 5 Z
 obtain ⟨x36, hx37, h38⟩ := bindS h
 refine O.call (V := V) Z Z (.inl Z) Z en29 (aC (L 1 Z Z) (aC (L 0 Z Z) aN)) (wk_storage_Storage_thread V _ p0 p1 b1 z2 v4 v6 hs7 v9 hs10 v12 hs13 v15 ow35 _ hx37) (fun _ _ _ _ => nd) (fun v39 V40 le41 hp42 => ?_)
 obtain ⟨rfl, ow43⟩ := hp42
 refine U.p Z Z (.inl Z) (S.not Z (L 0 Z Z)) ?_
 refine U.done (nr Z) ?_
 refine WP.cond _ (L 0 Z Z) Z (fun c44 => ?_) (fun c44 => ?_)
 ·have h45 := ifT c44 h38
  have k46 : x36 = false := nT c44
  refine WP.usreg Z ?_
  refine U.p Z Z (.inl Z) (S.assign Z K) ?_
  refine U.done (nr Z) ?_
  refine WP.ret ?_
  refine sqR ?_
  refine fin.slot (.inr Z) Z (L 0 Z Z) ⟨V40, Z, le41, ?_⟩
  have e47 := Option.some.inj h45
  subst e47
  exact ⟨v4, v6, hs7, v9, hs10, v12, hs13, v15, Z, ow43⟩
 ·have h48 := ifF c44 h38
  have k49 : x36 = true := nF c44
  refine WP.skip ?_
  refine sqN ?_
  refine WP.usreg Z ?_
  refine U.p Z Z (.inl Z) (S.move Z (L 5 Z Z)) ?_
  refine U.p Z Z (.inl Z) (S.move Z (L 7 Z Z)) ?_
  refine U.p Z Z (.inl Z) (S.move Z (L 9 Z Z)) ?_
  refine U.p Z Z (.inl Z) (S.move Z (L 11 Z Z)) ?_
  refine U.p (v := .agg #[.int .i64 p1, .bool false, .int .i64 p2, .int .i64 p3]) Z Z (.inl Z) (S.build (vs := [.int .i64 p1, .int .i64 p2, .int .i64 p3]) Z ti55 Z pl55 (aC (L 2 Z Z) (aC (L 1 Z Z) (aC (L 0 Z Z) aN))) (allC (by simp [topV]) (allC (by simp [topV]) (allC (by simp [topV]) allN))) Z) ?_
  have ow50 := ow43.pick 5 Z
  have ow51 := ow50.pick 5 Z
  have ow52 := ow51.pick 5 Z
  have ow53 := ow52.pick 5 Z
  have ow54 := ow53.pick 5 Z
  have ow55 := ow54.pick 5 Z
  obtain ⟨x56, hx57, h58⟩ := bindS h48
  refine O.call (V := V40) Z Z (.inl Z) Z en30 (aC (L 4 Z Z) (aC (L 0 Z Z) aN)) (wk_storage_Storage_accept V40 _ p0 (⟨p1, false, p2, p3⟩ : Tref16_Event) b1 z2 v4 v6 hs7 v9 hs10 v12 hs13 v15 ow55 _ hx57) (fun _ _ _ _ => nd) (fun v59 V60 le61 hp62 => ?_)
  obtain ⟨v64, v66, hs67, v69, hs70, v72, hs73, v75, rfl, ow63⟩ := hp62
  refine U.p Z Z (.inl Z) (S.assign Z (L 0 Z Z)) ?_
  refine U.done (nr Z) ?_
  refine WP.ret ?_
  refine fin.slot (.inr Z) Z (L 0 Z Z) ⟨V60, Z, (le41.trans le61), ?_⟩
  have e77 := Option.some.inj h58
  subst e77
  exact ⟨v64, v66, hs67, v69, hs70, v72, hs73, v75, Z, ow63⟩
theorem wk_storage_Storage_Read (V : Vw) (Rs : List At) (p0 : Tstorage_Storage) (p1 : Int) (p2 : Int) (b1 : Nat) (z2 : Nat) (v4 : Value) (v6 : Value) (hs7 : List Value) (v9 : Value) (hs10 : List Value) (v12 : Value) (hs13 : List Value) (v15 : Value) (ow : Ow V (.pt b1 (.cells z2 [v4, v6, v9, v12, v15]) :: .os RT_Tref16_Event v4 p0.events :: .oss (RO.os (RT.int .i64)) v6 hs7 p0.seen :: .oss (RO.om RT.bool false) v9 hs10 p0.has :: .oss (RO.om (RT.int .i64) false) v12 hs13 p0.now :: .om (RT.int .i64) false v15 p0.last :: Rs)) (r : Int × Int) (h : storage_Storage_Read p0 p1 p2 = some r) : ∃ v V', Cl Try.prog 0 13 #[.pointer (some ⟨b1, 0, none⟩), .int .i64 p1, .int .i64 p2] V.H v V'.H ∧ V.le V' ∧ (v = .tuple #[.int .i64 r.1, .int .i64 r.2] ∧ Ow V' (.pt b1 (.cells z2 [v4, v6, v9, v12, v15]) :: .os RT_Tref16_Event v4 p0.events :: .oss (RO.os (RT.int .i64)) v6 hs7 p0.seen :: .oss (RO.om RT.bool false) v9 hs10 p0.has :: .oss (RO.om (RT.int .i64) false) v12 hs13 p0.now :: .om (RT.int .i64) false v15 p0.last :: Rs)) := by
 refine Ct.of (Nat.zero_le _) Try.func13 Z (nr Z) ?_
 unfold storage_Storage_Read at h
 refine WP.usreg Z ?_
 refine U.p Z Z (.inl Z) (S.assign Z K) ?_
 refine U.p Z Z (.inl Z) (S.assign Z K) ?_
 refine U.done (nr Z) ?_
 refine WP.seq ?_
 refine WP.usreg Z ?_
 refine U.p Z Z (.inl Z) (S.move Z (L 2 Z Z)) ?_
 refine U.p Z Z (.inl Z) (S.move Z (L 4 Z Z)) ?_
 have ow17 := ow.pick 5 Z
 have ow18 := ow17.pick 5 Z
 have ow19 := ow18.pick 5 Z
 have ow20 := ow19.pick 5 Z
 have ow21 := ow20.pick 5 Z
 have ow22 := ow21.pick 5 Z
 obtain ⟨x23, hx24, h25⟩ := bindS h
 refine O.call (V := V) Z Z (.inl Z) Z en29 (aC (L 1 Z Z) (aC (L 0 Z Z) aN)) (wk_storage_Storage_thread V _ p0 p1 b1 z2 v4 v6 hs7 v9 hs10 v12 hs13 v15 ow22 _ hx24) (fun _ _ _ _ => nd) (fun v26 V27 le28 hp29 => ?_)
 obtain ⟨rfl, ow30⟩ := hp29
 refine U.p Z Z (.inl Z) (S.not Z (L 0 Z Z)) ?_
 refine U.done (nr Z) ?_
 refine WP.cond _ (L 0 Z Z) Z (fun c31 => ?_) (fun c31 => ?_)
 ·have h32 := ifT c31 h25
  have k33 : x23 = false := nT c31
  refine WP.usreg Z ?_
  refine U.p Z Z (.inl Z) (S.assign Z K) ?_
  refine U.p Z Z (.inl Z) (S.assign Z K) ?_
  refine U.done (nr Z) ?_
  refine WP.ret ?_
  refine sqR ?_
  refine fin.slots' (.inr Z) (fsC (L 1 Z Z) (fsC (L 0 Z Z) fsN)) Z ⟨V27, Z, le28, ?_⟩
  have e34 := Option.some.inj h32
  subst e34
  exact ⟨rfl, ow30⟩
 ·have h35 := ifF c31 h25
  have k36 : x23 = true := nF c31
  refine WP.skip ?_
  refine sqN ?_
  refine WP.usreg Z ?_
  refine U.p Z Z (.inl Z) (S.move Z (L 6 Z Z)) ?_
  refine U.p Z Z (.inl Z) (S.nilCheck Z (L 0 Z Z)) ?_
  refine U.p (v := .pointer (some ⟨b1, 3, none⟩)) Z Z (.inl Z) (S.fieldAddr Z (L 0 Z Z) Try.underlying62 Z ti60 Z Z) ?_
  refine U.k Z Z (.inl Z) (S.load Z (L 0 Z Z) Try.underlying60 Z ((ow30.own (k := 0) Z).cell Z)) nd ?_
  refine U.p Z Z (.inl Z) (S.move Z (L 11 Z Z)) ?_
  obtain ⟨x37, hx38, h39⟩ := bindS h35
  obtain ⟨b40, o41, n42, c43, hv44⟩ := ow30.sspt (k := 4) Z hx38
  refine U.p Z Z (.inl Z) (S.index Z ((L 1 Z Z).trans (ow30.sslen' (k := 4) Z hv44)) (L 0 Z Z) Try.underlying60 ti58 (ix_ge hx38) (ix_lt hx38)) ?_
  obtain ⟨h45, hh46, ow47⟩ := ow30.ssopen (k := 4) Z hx38
  have hcl49 := ow47.shcell (k := 5) Z hv44 hh46
  refine U.k Z Z (.inl Z) (S.load Z (L 0 Z Z) Try.underlying58 Z hcl49.2) nd ?_
  refine U.p Z Z (.inl Z) (S.move Z (L 15 Z Z)) ?_
  refine O.lookup1 (k := 0) 0 ow47 Z Z Z (.inl Z) Z (L 1 Z Z) (L 0 Z Z) Try.underlying58 Try.underlying3 ti3 Z (cell_vrel Z) (fun b50 hlt52 => nd) (fun b50 u51 hlt52 hr53 => ?_)
  obtain rfl : u51 = .int .i64 ((mG x37 p2).getD 0) := (List.cons.inj (vrel_cell hr53)).1
  refine U.p Z Z (.inl Z) (S.assign Z (L 0 Z Z)) ?_
  refine U.done (nr Z) ?_
  refine WP.seq ?_
  refine WP.usreg Z ?_
  refine U.p Z Z (.inl Z) (S.move Z (L 0 Z Z)) ?_
  refine U.p Z Z (.inl Z) (S.eqlI Z (L 0 Z Z) K) ?_
  refine U.done (nr Z) ?_
  refine WP.cond _ (L 0 Z Z) Z (fun c55 => ?_) (fun c55 => ?_)
  ·have h56 := ifT c55 h39
   refine WP.usreg Z ?_
   refine U.p Z Z (.inl Z) (S.assign Z K) ?_
   refine U.p Z Z (.inl Z) (S.assign Z K) ?_
   refine U.done (nr Z) ?_
   refine WP.ret ?_
   refine sqR ?_
   have ow57 := ow47.ssclose' (k := 5) (j := 0) Z Z (by decide) hh46 hx38
   refine fin.slots' (.inr Z) (fsC (L 1 Z Z) (fsC (L 0 Z Z) fsN)) Z ⟨V27, Z, le28, ?_⟩
   have e58 := Option.some.inj h56
   subst e58
   exact ⟨rfl, ow57⟩
  ·have h59 := ifF c55 h39
   refine WP.skip ?_
   refine sqN ?_
   refine WP.usreg Z ?_
   refine U.p Z Z (.inl Z) (S.move Z (L 18 Z Z)) ?_
   refine U.p Z Z (.inl Z) (S.nilCheck Z (L 0 Z Z)) ?_
   refine U.p (v := .pointer (some ⟨b1, 0, none⟩)) Z Z (.inl Z) (S.fieldAddr Z (L 0 Z Z) Try.underlying62 Z ti53 Z Z) ?_
   refine U.k Z Z (.inl Z) (S.load Z (L 0 Z Z) Try.underlying53 Z ((ow47.own (k := 1) Z).cell Z)) nd ?_
   refine U.p Z Z (.inl Z) (S.move Z (L 6 Z Z)) ?_
   refine U.p Z Z (.inl Z) (S.sub Z (L 0 Z Z) K) ?_
   obtain ⟨x60, hx61, h62⟩ := bindS h59
   obtain ⟨b63, o64, n65, c66, hv67⟩ := ow47.ospt (k := 2) Z hx61
   obtain ⟨_, hv68, _⟩ := ow47.osel (k := 2) Z hv67 hx61
   refine U.p Z Z (.inl Z) (S.index Z ((L 2 Z Z).trans hv68) (L 0 Z Z) Try.underlying53 ti55 (ix_ge hx61) (ix_lt hx61)) ?_
   refine U.p (v := .pointer (some ⟨b63, o64 + Int.toNat (w64 (((mG x37 p2).getD 0) - 1)) * 4 + 3, none⟩)) Z Z (.inl Z) (S.fieldAddr Z (L 0 Z Z) Try.underlying55 Z ti3 Z Z) ?_
   obtain ⟨cs69, hv70, hlt71, hr72, hc73⟩ := ow47.osel (k := 2) Z hv67 hx61
   obtain rfl : cs69 = [.int .i64 x60.thread, .bool x60.bar, .int .i64 x60.at_, .int .i64 x60.val] := hr72
   refine U.k Z Z (.inl Z) (S.load Z (L 0 Z Z) Try.underlying3 Z (hc73 3 _ Z)) nd ?_
   refine U.p Z Z (.inl Z) (S.move Z (L 11 Z Z)) ?_
   refine U.p Z Z (.inl Z) (S.assign Z (L 1 Z Z)) ?_
   refine U.p Z Z (.inl Z) (S.assign Z (L 1 Z Z)) ?_
   refine U.done (nr Z) ?_
   refine WP.ret ?_
   have ow74 := ow47.ssclose' (k := 5) (j := 0) Z Z (by decide) hh46 hx38
   refine fin.slots' (.inr Z) (fsC (L 1 Z Z) (fsC (L 0 Z Z) fsN)) Z ⟨V27, Z, le28, ?_⟩
   have e75 := Option.some.inj h62
   subst e75
   exact ⟨rfl, ow74⟩
theorem wk_storage_Storage_Seen (V : Vw) (Rs : List At) (p0 : Tstorage_Storage) (p1 : Int) (p2 : Int) (b1 : Nat) (z2 : Nat) (v4 : Value) (v6 : Value) (hs7 : List Value) (v9 : Value) (hs10 : List Value) (v12 : Value) (hs13 : List Value) (v15 : Value) (ow : Ow V (.pt b1 (.cells z2 [v4, v6, v9, v12, v15]) :: .os RT_Tref16_Event v4 p0.events :: .oss (RO.os (RT.int .i64)) v6 hs7 p0.seen :: .oss (RO.om RT.bool false) v9 hs10 p0.has :: .oss (RO.om (RT.int .i64) false) v12 hs13 p0.now :: .om (RT.int .i64) false v15 p0.last :: Rs)) (r : Bool) (h : storage_Storage_Seen p0 p1 p2 = some r) : ∃ v V', Cl Try.prog 0 20 #[.pointer (some ⟨b1, 0, none⟩), .int .i64 p1, .int .i64 p2] V.H v V'.H ∧ V.le V' ∧ (v = .bool r ∧ Ow V' (.pt b1 (.cells z2 [v4, v6, v9, v12, v15]) :: .os RT_Tref16_Event v4 p0.events :: .oss (RO.os (RT.int .i64)) v6 hs7 p0.seen :: .oss (RO.om RT.bool false) v9 hs10 p0.has :: .oss (RO.om (RT.int .i64) false) v12 hs13 p0.now :: .om (RT.int .i64) false v15 p0.last :: Rs)) := by
 refine Ct.of (Nat.zero_le _) Try.func20 Z (nr Z) ?_
 unfold storage_Storage_Seen at h
 refine WP.usreg Z ?_
 refine U.p Z Z (.inl Z) (S.assign Z K) ?_
 refine U.done (nr Z) ?_
 refine WP.usreg Z ?_
 refine U.p Z Z (.inl Z) (S.move Z (L 1 Z Z)) ?_
 refine U.p Z Z (.inl Z) (S.move Z (L 3 Z Z)) ?_
 have ow17 := ow.pick 5 Z
 have ow18 := ow17.pick 5 Z
 have ow19 := ow18.pick 5 Z
 have ow20 := ow19.pick 5 Z
 have ow21 := ow20.pick 5 Z
 have ow22 := ow21.pick 5 Z
 obtain ⟨x23, hx24, h25⟩ := bindS h
 refine O.call (V := V) Z Z (.inl Z) Z en29 (aC (L 1 Z Z) (aC (L 0 Z Z) aN)) (wk_storage_Storage_thread V _ p0 p1 b1 z2 v4 v6 hs7 v9 hs10 v12 hs13 v15 ow22 _ hx24) (fun _ _ _ _ => nd) (fun v26 V27 le28 hp29 => ?_)
 obtain ⟨rfl, ow30⟩ := hp29
 refine U.p Z Z (.inl Z) (S.move Z (L 0 Z Z)) ?_
 obtain ⟨y31, hy32, h33⟩ := bindS h25
 refine U.joinX 14 (fun e H => ∃ (u34 u35 u36 u37 u38 u39 u40 u41 u42 : Value), H = V27.H ∧ e = [(20, .bool y31), (19, u34), (18, u35), (17, u36), (16, u37), (15, u38), (14, u39), (13, u40), (12, u41), (11, u42)]) ?_ ?_
 ·rintro _ _ ⟨u34, u35, u36, u37, u38, u39, u40, u41, u42, rfl, rfl⟩
  refine U.p Z Z (.inl Z) (S.assign Z (L 0 Z Z)) ?_
  refine U.done (nr Z) ?_
  refine WP.ret ?_
  refine fin.slot (.inr Z) Z (L 0 Z Z) ⟨V27, Z, le28, ?_⟩
  have e46 := Option.some.inj h33
  subst e46
  exact ⟨rfl, ow30⟩
 ·intro kk
  refine bcase (b := x23) (fun g47 => ?_) (fun g47 => ?_)
  ·have h48 := ifT g47 hy32
   refine U.p Z Z (.inr ⟨_, _, _, Z, Z, ((L 0 Z Z).trans (cB g47))⟩) (S.move Z (L 5 Z Z)) ?_
   refine U.p Z Z (.inr ⟨_, _, _, Z, Z, ((L 1 Z Z).trans (cB g47))⟩) (S.nilCheck Z (L 0 Z Z)) ?_
   refine U.p (v := .pointer (some ⟨b1, 2, none⟩)) Z Z (.inr ⟨_, _, _, Z, Z, ((L 2 Z Z).trans (cB g47))⟩) (S.fieldAddr Z (L 0 Z Z) Try.underlying62 Z ti59 Z Z) ?_
   refine U.k Z Z (.inr ⟨_, _, _, Z, Z, ((L 3 Z Z).trans (cB g47))⟩) (S.load Z (L 0 Z Z) Try.underlying59 Z ((ow30.own (k := 0) Z).cell Z)) nd ?_
   refine U.p Z Z (.inr ⟨_, _, _, Z, Z, ((L 4 Z Z).trans (cB g47))⟩) (S.move Z (L 10 Z Z)) ?_
   obtain ⟨x49, hx50, h51⟩ := bindS h48
   obtain ⟨b52, o53, n54, c55, hv56⟩ := ow30.sspt (k := 3) Z hx50
   refine U.p Z Z (.inr ⟨_, _, _, Z, Z, ((L 5 Z Z).trans (cB g47))⟩) (S.index Z ((L 1 Z Z).trans (ow30.sslen' (k := 3) Z hv56)) (L 0 Z Z) Try.underlying59 ti63 (ix_ge hx50) (ix_lt hx50)) ?_
   obtain ⟨h57, hh58, ow59⟩ := ow30.ssopen (k := 3) Z hx50
   have hcl61 := ow59.shcell (k := 4) Z hv56 hh58
   refine U.k Z Z (.inr ⟨_, _, _, Z, Z, ((L 6 Z Z).trans (cB g47))⟩) (S.load Z (L 0 Z Z) Try.underlying63 Z hcl61.2) nd ?_
   refine U.p Z Z (.inr ⟨_, _, _, Z, Z, ((L 7 Z Z).trans (cB g47))⟩) (S.move Z (L 14 Z Z)) ?_
   refine O.lookup1 (k := 0) false ow59 Z Z Z (.inr ⟨_, _, _, Z, Z, ((L 8 Z Z).trans (cB g47))⟩) Z (L 1 Z Z) (L 0 Z Z) Try.underlying63 Try.underlying3 ti4 Z (cell_vrel Z) (fun b62 hlt64 => nd) (fun b62 u63 hlt64 hr65 => ?_)
   obtain rfl : u63 = .bool ((mG x49 p2).getD false) := (List.cons.inj (vrel_cell hr65)).1
   refine U.p Z Z (.inl Z) (S.pickT Z ((L 9 Z Z).trans (cB g47)) (L 0 Z Z)) ?_
   have ow67 := ow59.ssclose' (k := 4) (j := 0) Z Z (by decide) hh58 hx50
   have e68 := Option.some.inj h51
   subst e68
   exact kk [(20, .bool ((mG x49 p2).getD false)), (19, .bool ((mG x49 p2).getD false)), (18, .int .i64 p2), (17, h57), (16, .pointer (some ⟨b52, o53 + Int.toNat p1 * 1, none⟩)), (15, .int .i64 p1), (14, v9), (13, .pointer (some ⟨b1, 2, none⟩)), (12, .pointer (some ⟨b1, 0, none⟩)), (11, .pointer (some ⟨b1, 0, none⟩))] _ ⟨.bool ((mG x49 p2).getD false), .int .i64 p2, h57, .pointer (some ⟨b52, o53 + Int.toNat p1 * 1, none⟩), .int .i64 p1, v9, .pointer (some ⟨b1, 2, none⟩), .pointer (some ⟨b1, 0, none⟩), .pointer (some ⟨b1, 0, none⟩), Z, Z⟩
  ·have h69 := ifF g47 hy32
   refine U.x Z Z Z Z ((L 0 Z Z).trans (cB g47)) (by decide) ?_
   refine U.x Z Z Z Z ((L 1 Z Z).trans (cB g47)) (by decide) ?_
   refine U.x Z Z Z Z ((L 2 Z Z).trans (cB g47)) (by decide) ?_
   refine U.x Z Z Z Z ((L 3 Z Z).trans (cB g47)) (by decide) ?_
   refine U.x Z Z Z Z ((L 4 Z Z).trans (cB g47)) (by decide) ?_
   refine U.x Z Z Z Z ((L 5 Z Z).trans (cB g47)) (by decide) ?_
   refine U.x Z Z Z Z ((L 6 Z Z).trans (cB g47)) (by decide) ?_
   refine U.x Z Z Z Z ((L 7 Z Z).trans (cB g47)) (by decide) ?_
   refine U.x Z Z Z Z ((L 8 Z Z).trans (cB g47)) (by decide) ?_
   refine U.p Z Z (.inl Z) (S.pickF Z ((L 9 Z Z).trans (cB g47)) K) ?_
   have e70 := Option.some.inj h69
   subst e70
   exact kk [(20, .bool false), (19, .tuple #[]), (18, .tuple #[]), (17, .tuple #[]), (16, .tuple #[]), (15, .tuple #[]), (14, .tuple #[]), (13, .tuple #[]), (12, .tuple #[]), (11, .tuple #[])] _ ⟨.tuple #[], .tuple #[], .tuple #[], .tuple #[], .tuple #[], .tuple #[], .tuple #[], .tuple #[], .tuple #[], Z, Z⟩
theorem wk_storage_Storage_passed (V : Vw) (Rs : List At) (p0 : Tstorage_Storage) (p1 : Int) (p2 : Int) (b1 : Nat) (z2 : Nat) (v4 : Value) (v6 : Value) (hs7 : List Value) (v9 : Value) (hs10 : List Value) (v12 : Value) (hs13 : List Value) (v15 : Value) (ow : Ow V (.pt b1 (.cells z2 [v4, v6, v9, v12, v15]) :: .os RT_Tref16_Event v4 p0.events :: .oss (RO.os (RT.int .i64)) v6 hs7 p0.seen :: .oss (RO.om RT.bool false) v9 hs10 p0.has :: .oss (RO.om (RT.int .i64) false) v12 hs13 p0.now :: .om (RT.int .i64) false v15 p0.last :: Rs)) (r : Bool) (h : storage_Storage_passed p0 p1 p2 = some r) : ∃ v V', Cl Try.prog 0 33 #[.pointer (some ⟨b1, 0, none⟩), .int .i64 p1, .int .i64 p2] V.H v V'.H ∧ V.le V' ∧ (v = .bool r ∧ Ow V' (.pt b1 (.cells z2 [v4, v6, v9, v12, v15]) :: .os RT_Tref16_Event v4 p0.events :: .oss (RO.os (RT.int .i64)) v6 hs7 p0.seen :: .oss (RO.om RT.bool false) v9 hs10 p0.has :: .oss (RO.om (RT.int .i64) false) v12 hs13 p0.now :: .om (RT.int .i64) false v15 p0.last :: Rs)) := by
 refine Ct.of (Nat.zero_le _) Try.func33 Z (nr Z) ?_
 unfold storage_Storage_passed at h
 refine WP.usreg Z ?_
 refine U.p Z Z (.inl Z) (S.assign Z K) ?_
 refine U.done (nr Z) ?_
 refine WP.usreg Z ?_
 refine U.p Z Z (.inl Z) (S.move Z (L 1 Z Z)) ?_
 refine U.p Z Z (.inl Z) (S.move Z (L 3 Z Z)) ?_
 refine U.p Z Z (.inl Z) (S.move Z (L 3 Z Z)) ?_
 refine U.p Z Z (.inl Z) (S.nilCheck Z (L 0 Z Z)) ?_
 refine U.p (v := .pointer (some ⟨b1, 0, none⟩)) Z Z (.inl Z) (S.fieldAddr Z (L 0 Z Z) Try.underlying62 Z ti53 Z Z) ?_
 refine U.k Z Z (.inl Z) (S.load Z (L 0 Z Z) Try.underlying53 Z ((ow.own (k := 0) Z).cell Z)) nd ?_
 refine U.p Z Z (.inl Z) (S.move Z (L 9 Z Z)) ?_
 refine U.p Z Z (.inl Z) (S.sub Z (L 0 Z Z) K) ?_
 obtain ⟨x17, hx18, h19⟩ := bindS h
 obtain ⟨b20, o21, n22, c23, hv24⟩ := ow.ospt (k := 1) Z hx18
 obtain ⟨_, hv25, _⟩ := ow.osel (k := 1) Z hv24 hx18
 refine U.p Z Z (.inl Z) (S.index Z ((L 2 Z Z).trans hv25) (L 0 Z Z) Try.underlying53 ti55 (ix_ge hx18) (ix_lt hx18)) ?_
 refine U.p (v := .pointer (some ⟨b20, o21 + Int.toNat (w64 (p2 - 1)) * 4 + 2, none⟩)) Z Z (.inl Z) (S.fieldAddr Z (L 0 Z Z) Try.underlying55 Z ti3 Z Z) ?_
 obtain ⟨cs26, hv27, hlt28, hr29, hc30⟩ := ow.osel (k := 1) Z hv24 hx18
 obtain rfl : cs26 = [.int .i64 x17.thread, .bool x17.bar, .int .i64 x17.at_, .int .i64 x17.val] := hr29
 refine U.k Z Z (.inl Z) (S.load Z (L 0 Z Z) Try.underlying3 Z (hc30 2 _ Z)) nd ?_
 have ow31 := ow.pick 5 Z
 have ow32 := ow31.pick 5 Z
 have ow33 := ow32.pick 5 Z
 have ow34 := ow33.pick 5 Z
 have ow35 := ow34.pick 5 Z
 have ow36 := ow35.pick 5 Z
 obtain ⟨x37, hx38, h39⟩ := bindS h19
 refine O.call (V := V) Z Z (.inl Z) Z en13 (aC (L 10 Z Z) (aC (L 9 Z Z) (aC (L 0 Z Z) aN))) (wk_storage_Storage_Read V _ p0 p1 x17.at_ b1 z2 v4 v6 hs7 v9 hs10 v12 hs13 v15 ow36 _ hx38) (fun _ _ _ _ => nd) (fun v40 V41 le42 hp43 => ?_)
 obtain ⟨rfl, ow44⟩ := hp43
 refine U.p Z Z (.inl Z) (S.move Z (L 0 Z Z)) ?_
 refine U.p Z Z (.inl Z) (S.extract Z (L 0 Z Z) Z (nr Z)) ?_
 refine U.p Z Z (.inl Z) (S.extract Z (L 1 Z Z) Z (nr Z)) ?_
 refine U.p Z Z (.inl Z) (S.assign Z (L 1 Z Z)) ?_
 refine U.p Z Z (.inl Z) (S.assign Z (L 1 Z Z)) ?_
 refine U.done (nr Z) ?_
 refine WP.usreg Z ?_
 refine U.p Z Z (.inl Z) (S.move Z (L 0 Z Z)) ?_
 refine U.p Z Z (.inl Z) (S.move Z (L 21 Z Z)) ?_
 refine U.p Z Z (.inl Z) (S.geq Z (L 1 Z Z) (L 0 Z Z)) ?_
 refine U.p Z Z (.inl Z) (S.assign Z (L 0 Z Z)) ?_
 refine U.done (nr Z) ?_
 refine WP.ret ?_
 refine fin.slot (.inr Z) Z (L 0 Z Z) ⟨V41, Z, le42, ?_⟩
 have e45 := Option.some.inj h39
 subst e45
 exact ⟨rfl, ow44⟩
theorem wk_slices_Index (V : Vw) (Rs : List At) (p0 : List Int) (p1 : Int) (v1 : Value) (ow : Ow V (.os (RT.int .i64) v1 p0 :: Rs)) (r : Int) (h : slices_Index p0 p1 = some r) : ∃ v V', Cl Try.prog 0 41 #[v1, .int .i64 p1] V.H v V'.H ∧ V.le V' ∧ (v = .int .i64 r ∧ Ow V' (.os (RT.int .i64) v1 p0 :: Rs)) := by
 refine Ct.of (Nat.zero_le _) Try.func41 Z (nr Z) ?_
 unfold slices_Index at h
 refine WP.usreg Z ?_
 refine U.p Z Z (.inl Z) (S.assign Z K) ?_
 refine U.done (nr Z) ?_
 refine WP.seq ?_
 refine WP.usreg Z ?_
 refine U.p Z Z (.inl Z) (S.move Z (L 1 Z Z)) ?_
 refine U.p Z Z (.inl Z) (ow.oslen (k := 0) Z Z (L 0 Z Z) Try.underlying26) ?_
 refine U.p Z Z (.inl Z) (S.move Z K) ?_
 refine U.done (nr Z) ?_
 refine WP.blk ?_
 unfold slices_Index_l1 at h
 obtain ⟨n5, hn4⟩ := loopO_some.1 h
 refine WP.loopI2 (fun n l V' => ∃ (x3 : Int), l = [(0, v1), (1, .int .i64 p1), (7, .int .i64 (p0.length : Int)), (8, .int .i64 x3)] ∧ V.le V' ∧ Ow V' (.os (RT.int .i64) v1 p0 :: Rs) ∧ itO (fun s => slices_Index_l1b p0 p1 s) n x3 = some r) n5 _ ⟨0, Z, .refl _, ow, hn4⟩ (allCons (L 4 Z Z) (allCons (L 5 Z Z) (allCons (L 1 Z Z) (allCons (L 0 Z Z) allNil)))) ?_
 rintro _ _ V6 ⟨x3, rfl, le7, ow8, h12⟩
 obtain ⟨m9, q10, rfl, h13, e11⟩ := itS h12
 replace h13 : slices_Index_l1b p0 p1 x3 = some q10 := h13
 unfold slices_Index_l1b at h13
 refine WP.usreg Z ?_
 refine U.p Z Z (.inl Z) (S.lss Z (L 3 Z Z) (L 2 Z Z)) ?_
 refine U.done (nr Z) ?_
 refine WP.seq ?_
 refine WP.cond _ (L 0 Z Z) Z (fun c14 => ?_) (fun c14 => ?_)
 ·have h15 := ifT c14 h13
  refine WP.skip ?_
  refine sqN ?_
  refine WP.seq ?_
  refine WP.blk ?_
  refine WP.usreg Z ?_
  refine U.p Z Z (.inl Z) (S.move Z (L 4 Z Z)) ?_
  refine U.p Z Z (.inl Z) (S.assign Z (L 0 Z Z)) ?_
  refine U.done (nr Z) ?_
  refine WP.usreg Z ?_
  refine U.p Z Z (.inl Z) (S.move Z (L 4 Z Z)) ?_
  refine U.p Z Z (.inl Z) (S.move Z (L 4 Z Z)) ?_
  refine U.p Z Z (.inl Z) (S.move Z (L 2 Z Z)) ?_
  obtain ⟨x16, hx17, h18⟩ := bindS h15
  obtain ⟨b19, o20, n21, c22, hv23⟩ := ow8.ospt (k := 0) Z hx17
  obtain ⟨_, hv24, _⟩ := ow8.osel (k := 0) Z hv23 hx17
  refine U.p Z Z (.inl Z) (S.index Z ((L 1 Z Z).trans hv24) (L 0 Z Z) Try.underlying26 ti3 (ix_ge hx17) (ix_lt hx17)) ?_
  obtain ⟨cs25, hv26, hlt27, hr28, hc29⟩ := ow8.osel (k := 0) Z hv23 hx17
  obtain rfl : cs25 = [.int .i64 x16] := hr28
  refine U.k Z Z (.inl Z) (S.load Z (L 0 Z Z) Try.underlying3 Z (hc29 0 _ Z)) nd ?_
  refine U.p Z Z (.inl Z) (S.eqlI Z (L 4 Z Z) (L 0 Z Z)) ?_
  refine U.done (nr Z) ?_
  refine WP.cond _ (L 0 Z Z) Z (fun c30 => ?_) (fun c30 => ?_)
  ·have h31 := ifT c30 h18
   refine WP.usreg Z ?_
   refine U.p Z Z (.inl Z) (S.move Z (L 6 Z Z)) ?_
   refine U.p Z Z (.inl Z) (S.assign Z (L 0 Z Z)) ?_
   refine U.done (nr Z) ?_
   refine WP.ret ?_
   refine blkR (sqR (sqR (blkR (sqR ?_))))
   have h32 := exitS h31 e11
   refine fin.slot (.inr Z) Z (L 0 Z Z) ⟨V6, Z, le7, ?_⟩
   have e33 := Option.some.inj h32
   subst e33
   exact ⟨rfl, ow8⟩
  ·have h34 := ifF c30 h18
   refine WP.skip ?_
   refine blkN (sqN ?_)
   refine WP.ureg Z ?_
   refine U.p Z Z (.inl Z) (S.add Z (L 12 Z Z) K) ?_
   refine U.p Z Z (.inl Z) (S.move Z (L 0 Z Z)) ?_
   refine U.done (nr Z) ?_
   refine sqN ?_
   exact ⟨_, V6, Z, ⟨m9, Nat.lt_succ_self _, w64 (x3 + 1), Z, le7, ow8, backS h34 e11⟩, (allCons (L 11 Z Z) (allCons (L 12 Z Z) (allCons (L 13 Z Z) (allCons (L 0 Z Z) allNil))))⟩
 ·have h35 := ifF c14 h13
  refine WP.exit ?_
  refine sqE (sqE (blkE (sqN ?_)))
  have h36 := exitS h35 e11
  refine WP.usreg Z ?_
  refine U.p Z Z (.inl Z) (S.assign Z K) ?_
  refine U.done (nr Z) ?_
  refine WP.ret ?_
  refine fin.slot (.inr Z) Z (L 0 Z Z) ⟨V6, Z, le7, ?_⟩
  have e37 := Option.some.inj h36
  subst e37
  exact ⟨rfl, ow8⟩
theorem wk_storage_Storage_ahead (V : Vw) (Rs : List At) (p0 : Tstorage_Storage) (p1 : Int) (b1 : Nat) (z2 : Nat) (v4 : Value) (v6 : Value) (hs7 : List Value) (v9 : Value) (hs10 : List Value) (v12 : Value) (hs13 : List Value) (v15 : Value) (ow : Ow V (.pt b1 (.cells z2 [v4, v6, v9, v12, v15]) :: .os RT_Tref16_Event v4 p0.events :: .oss (RO.os (RT.int .i64)) v6 hs7 p0.seen :: .oss (RO.om RT.bool false) v9 hs10 p0.has :: .oss (RO.om (RT.int .i64) false) v12 hs13 p0.now :: .om (RT.int .i64) false v15 p0.last :: Rs)) (r : List Int) (h : storage_Storage_ahead p0 p1 = some r) : ∃ v V', Cl Try.prog 0 34 #[.pointer (some ⟨b1, 0, none⟩), .int .i64 p1] V.H v V'.H ∧ V.le V' ∧ (∃ (v17 : Value), v = v17 ∧ Al hs7 p0.seen 1 v17 r ∧ Ow V' (.pt b1 (.cells z2 [v4, v6, v9, v12, v15]) :: .os RT_Tref16_Event v4 p0.events :: .oss (RO.os (RT.int .i64)) v6 hs7 p0.seen :: .oss (RO.om RT.bool false) v9 hs10 p0.has :: .oss (RO.om (RT.int .i64) false) v12 hs13 p0.now :: .om (RT.int .i64) false v15 p0.last :: Rs)) := by
 refine Ct.of (Nat.zero_le _) Try.func34 Z (nr Z) ?_
 unfold storage_Storage_ahead at h
 refine WP.usreg Z ?_
 refine U.p Z Z (.inl Z) (S.assign Z K) ?_
 refine U.done (nr Z) ?_
 refine WP.usdreg Z Z Z ?_
 refine U.p Z Z (.inl Z) (S.move Z (L 1 Z Z)) ?_
 refine U.p Z Z (.inl Z) (S.nilCheck Z (L 0 Z Z)) ?_
 refine U.p (v := .pointer (some ⟨b1, 1, none⟩)) Z Z (.inl Z) (S.fieldAddr Z (L 0 Z Z) Try.underlying62 Z ti44 Z Z) ?_
 refine U.k Z Z (.inl Z) (S.load Z (L 0 Z Z) Try.underlying44 Z ((ow.own (k := 0) Z).cell Z)) (fun _ => (okH.nil (fun r h => by cases h; exact (ow.own (k := 0) Z).lt))) ?_
 refine U.p Z Z (.inl Z) (S.move Z (L 5 Z Z)) ?_
 refine U.p Z Z (.inl Z) (S.nilCheck Z (L 0 Z Z)) ?_
 refine U.p (v := .pointer (some ⟨b1, 0, none⟩)) Z Z (.inl Z) (S.fieldAddr Z (L 0 Z Z) Try.underlying62 Z ti53 Z Z) ?_
 refine U.k Z Z (.inl Z) (S.load Z (L 0 Z Z) Try.underlying53 Z ((ow.own (k := 0) Z).cell Z)) (fun _ => (okH.cons trivial (okH.nil (fun r h => by cases h; exact (ow.own (k := 0) Z).lt)))) ?_
 refine U.p Z Z (.inl Z) (S.move Z (L 10 Z Z)) ?_
 refine U.p Z Z (.inl Z) (S.sub Z (L 0 Z Z) K) ?_
 obtain ⟨x19, hx20, h21⟩ := bindS h
 obtain ⟨b22, o23, n24, c25, hv26⟩ := ow.ospt (k := 1) Z hx20
 obtain ⟨_, hv27, _⟩ := ow.osel (k := 1) Z hv26 hx20
 refine U.p Z Z (.inl Z) (S.index Z ((L 2 Z Z).trans hv27) (L 0 Z Z) Try.underlying53 ti55 (ix_ge hx20) (ix_lt hx20)) ?_
 refine U.p (v := .pointer (some ⟨b22, o23 + Int.toNat (w64 (p1 - 1)) * 4, none⟩)) Z Z (.inl Z) (S.fieldAddr Z (L 0 Z Z) Try.underlying55 Z ti3 Z Z) ?_
 obtain ⟨cs28, hv29, hlt30, hr31, hc32⟩ := ow.osel (k := 1) Z hv26 hx20
 obtain rfl : cs28 = [.int .i64 x19.thread, .bool x19.bar, .int .i64 x19.at_, .int .i64 x19.val] := hr31
 refine U.k Z Z (.inl Z) (S.load Z (L 0 Z Z) Try.underlying3 Z (hc32 0 _ Z)) (fun _ => (okH.cons trivial (okH.cons trivial (okH.nil (fun r h => by cases h; exact hlt30))))) ?_
 obtain ⟨x33, hx34, h35⟩ := bindS h21
 obtain ⟨b36, o37, n38, c39, hv40⟩ := ow.sspt (k := 2) Z hx34
 refine U.p Z Z (.inl Z) (S.index Z ((L 9 Z Z).trans (ow.sslen' (k := 2) Z hv40)) (L 0 Z Z) Try.underlying44 ti26 (ix_ge hx34) (ix_lt hx34)) ?_
 obtain ⟨h41, hh42, ow43⟩ := ow.ssopen (k := 2) Z hx34
 have hcl45 := ow43.shcell (k := 3) Z hv40 hh42
 refine U.k Z Z (.inl Z) (S.load Z (L 0 Z Z) Try.underlying26 Z hcl45.2) (fun _ => (okH.cons trivial (okH.cons trivial (okH.cons trivial (okH.nil (fun r h => by cases h; exact hcl45.1)))))) ?_
 refine U.p Z Z (.inl Z) (S.assign Z (L 0 Z Z)) ?_
 refine U.done (nr Z) ?_
 refine WP.usreg Z ?_
 refine U.p Z Z (.inl Z) (S.move Z (L 0 Z Z)) ?_
 refine U.p Z Z (.inl Z) (S.move Z (L 19 Z Z)) ?_
 obtain ⟨x46, hx47, h48⟩ := bindS h35
 refine O.call (V := V) Z Z (.inl Z) Z en41 (aC (L 1 Z Z) (aC (L 0 Z Z) aN)) (wk_slices_Index V _ x33 p1 h41 ow43 _ hx47) (fun _ _ _ _ => nd) (fun v49 V50 le51 hp52 => ?_)
 obtain ⟨rfl, ow53⟩ := hp52
 refine U.p Z Z (.inl Z) (S.assign Z (L 0 Z Z)) ?_
 refine U.done (nr Z) ?_
 refine WP.usreg Z ?_
 refine U.p Z Z (.inl Z) (S.move Z (L 4 Z Z)) ?_
 refine U.p Z Z (.inl Z) (S.move Z (L 1 Z Z)) ?_
 refine U.p Z Z (.inl Z) (S.move Z (L 2 Z Z)) ?_
 obtain ⟨xs54, hx55, h56⟩ := bindS h48
 refine O.subA (k := 0) ow53 Z hx55 Z Z (.inl Z) Z (L 2 Z Z) Try.underlying26 ti3 ⟨.inl ⟨rfl, Z⟩, .inr ⟨_, _, Z, (L 1 Z Z)⟩, .inr ⟨by simp, _, _, Z, (L 0 Z Z)⟩⟩ (fun v57 ha58 => ?_)
 have f59 : Al hs7 p0.seen 1 v57 xs54 := .of hh42 hx34 hx55 ha58
 refine U.p Z Z (.inl Z) (S.assign Z (L 0 Z Z)) ?_
 refine U.done (nr Z) ?_
 refine WP.ret ?_
 have ow60 := ow53.ssclose' (k := 3) (j := 0) Z Z (by decide) hh42 hx34
 refine fin.slot (.inr Z) Z (L 0 Z Z) ⟨V50, Z, le51, ?_⟩
 have e61 := Option.some.inj h56
 subst e61
 exact ⟨v57, Z, f59, ow60⟩
theorem wk_storage_Storage_May (V : Vw) (Rs : List At) (p0 : Tstorage_Storage) (p1 : Int) (p2 : Int) (b1 : Nat) (z2 : Nat) (v4 : Value) (v6 : Value) (hs7 : List Value) (v9 : Value) (hs10 : List Value) (v12 : Value) (hs13 : List Value) (v15 : Value) (ow : Ow V (.pt b1 (.cells z2 [v4, v6, v9, v12, v15]) :: .os RT_Tref16_Event v4 p0.events :: .oss (RO.os (RT.int .i64)) v6 hs7 p0.seen :: .oss (RO.om RT.bool false) v9 hs10 p0.has :: .oss (RO.om (RT.int .i64) false) v12 hs13 p0.now :: .om (RT.int .i64) false v15 p0.last :: Rs)) (r : Bool) (h : storage_Storage_May p0 p1 p2 = some r) : ∃ v V', Cl Try.prog 0 25 #[.pointer (some ⟨b1, 0, none⟩), .int .i64 p1, .int .i64 p2] V.H v V'.H ∧ V.le V' ∧ (v = .bool r ∧ Ow V' (.pt b1 (.cells z2 [v4, v6, v9, v12, v15]) :: .os RT_Tref16_Event v4 p0.events :: .oss (RO.os (RT.int .i64)) v6 hs7 p0.seen :: .oss (RO.om RT.bool false) v9 hs10 p0.has :: .oss (RO.om (RT.int .i64) false) v12 hs13 p0.now :: .om (RT.int .i64) false v15 p0.last :: Rs)) := by
 refine Ct.of (Nat.zero_le _) Try.func25 Z (nr Z) ?_
 unfold storage_Storage_May at h
 refine WP.usreg Z ?_
 refine U.p Z Z (.inl Z) (S.assign Z K) ?_
 refine U.done (nr Z) ?_
 refine WP.seq ?_
 refine WP.usreg Z ?_
 refine U.p Z Z (.inl Z) (S.move Z (L 1 Z Z)) ?_
 refine U.p Z Z (.inl Z) (S.move Z (L 3 Z Z)) ?_
 have ow17 := ow.pick 5 Z
 have ow18 := ow17.pick 5 Z
 have ow19 := ow18.pick 5 Z
 have ow20 := ow19.pick 5 Z
 have ow21 := ow20.pick 5 Z
 have ow22 := ow21.pick 5 Z
 obtain ⟨x23, hx24, h25⟩ := bindS h
 refine O.call (V := V) Z Z (.inl Z) Z en29 (aC (L 1 Z Z) (aC (L 0 Z Z) aN)) (wk_storage_Storage_thread V _ p0 p1 b1 z2 v4 v6 hs7 v9 hs10 v12 hs13 v15 ow22 _ hx24) (fun _ _ _ _ => nd) (fun v26 V27 le28 hp29 => ?_)
 obtain ⟨rfl, ow30⟩ := hp29
 refine U.p Z Z (.inl Z) (S.not Z (L 0 Z Z)) ?_
 refine U.p Z Z (.inl Z) (S.move Z (L 0 Z Z)) ?_
 refine U.joinX 8 (fun e H => ∃ (u31 u32 : Value), H = V27.H ∧ e = [(18, .bool ((!x23) || (decide (p2 < 1)))), (17, u31), (16, u32)]) ?_ ?_
 ·rintro _ _ ⟨u31, u32, rfl, rfl⟩
  refine U.p Z Z (.inl Z) (S.move Z (L 0 Z Z)) ?_
  refine U.joinX 17 (fun e H => ∃ (u36 u37 u38 u39 u40 u41 u42 : Value), H = V27.H ∧ e = [(27, .bool (((!x23) || (decide (p2 < 1))) || (decide ((p0.events.length : Int) < p2)))), (26, u36), (25, u37), (24, u38), (23, u39), (22, u40), (21, u41), (20, u42)]) ?_ ?_
  ·rintro _ _ ⟨u36, u37, u38, u39, u40, u41, u42, rfl, rfl⟩
   refine U.p Z Z (.inl Z) (S.move Z (L 0 Z Z)) ?_
   obtain ⟨y46, hy47, h48⟩ := bindS h25
   refine U.joinX 23 (fun e H => ∃ (u49 u50 u51 u52 : Value), ∃ V' : Vw, H = V'.H ∧ V27.le V' ∧ e = [(33, .bool y46), (32, u49), (31, u50), (30, u51), (29, u52)] ∧ Ow V' (.pt b1 (.cells z2 [v4, v6, v9, v12, v15]) :: .os RT_Tref16_Event v4 p0.events :: .oss (RO.os (RT.int .i64)) v6 hs7 p0.seen :: .oss (RO.om RT.bool false) v9 hs10 p0.has :: .oss (RO.om (RT.int .i64) false) v12 hs13 p0.now :: .om (RT.int .i64) false v15 p0.last :: Rs)) ?_ ?_
   ·rintro _ _ ⟨u49, u50, u51, u52, V53, rfl, le54, rfl, ow55⟩
    refine U.done (nr Z) ?_
    refine WP.cond _ (L 0 Z Z) Z (fun c56 => ?_) (fun c56 => ?_)
    ·have h57 := ifT c56 h48
     refine WP.usreg Z ?_
     refine U.p Z Z (.inl Z) (S.assign Z K) ?_
     refine U.done (nr Z) ?_
     refine WP.ret ?_
     refine sqR ?_
     refine fin.slot (.inr Z) Z (L 0 Z Z) ⟨V53, Z, (le28.trans le54), ?_⟩
     have e58 := Option.some.inj h57
     subst e58
     exact ⟨rfl, ow55⟩
    ·have h59 := ifF c56 h48
     refine WP.skip ?_
     refine sqN ?_
     refine WP.usreg Z ?_
     refine U.p Z Z (.inl Z) (S.move Z (L 24 Z Z)) ?_
     refine U.p Z Z (.inl Z) (S.nilCheck Z (L 0 Z Z)) ?_
     refine U.p (v := .pointer (some ⟨b1, 0, none⟩)) Z Z (.inl Z) (S.fieldAddr Z (L 0 Z Z) Try.underlying62 Z ti53 Z Z) ?_
     refine U.k Z Z (.inl Z) (S.load Z (L 0 Z Z) Try.underlying53 Z ((ow55.own (k := 0) Z).cell Z)) nd ?_
     refine U.p Z Z (.inl Z) (S.move Z (L 30 Z Z)) ?_
     refine U.p Z Z (.inl Z) (S.sub Z (L 0 Z Z) K) ?_
     obtain ⟨x60, hx61, h62⟩ := bindS h59
     obtain ⟨b63, o64, n65, c66, hv67⟩ := ow55.ospt (k := 1) Z hx61
     obtain ⟨_, hv68, _⟩ := ow55.osel (k := 1) Z hv67 hx61
     refine U.p Z Z (.inl Z) (S.index Z ((L 2 Z Z).trans hv68) (L 0 Z Z) Try.underlying53 ti55 (ix_ge hx61) (ix_lt hx61)) ?_
     obtain ⟨cs69, hv70, hlt71, hr72, hc73⟩ := ow55.osel (k := 1) Z hv67 hx61
     obtain rfl : cs69 = [.int .i64 x60.thread, .bool x60.bar, .int .i64 x60.at_, .int .i64 x60.val] := hr72
     refine U.k Z Z (.inl Z) (S.loadN (cs := [.int .i64 x60.thread, .bool x60.bar, .int .i64 x60.at_, .int .i64 x60.val]) Z (L 0 Z Z) Try.underlying55 Z ti55 Z hc73) nd ?_
     refine O.alloc ow55 Z Z (.inl Z) Z ti55 Z Z nd (fun b74 V75 le76 ow77 => ?_)
     refine O.store (k := 0) (cs := [.int .i64 x60.thread, .bool x60.bar, .int .i64 x60.at_, .int .i64 x60.val]) (c' := [.int .i64 x60.thread, .bool x60.bar, .int .i64 x60.at_, .int .i64 x60.val]) ow77 Z Z Z (.inl Z) Z (L 0 Z Z) (L 1 Z Z) ti55 (by simp [topV]) Z Z (nr Z) Z Z nd (fun V79 le80 ow81 => ?_)
     refine U.done (nr Z) ?_
     refine WP.seq ?_
     refine WP.usreg Z ?_
     refine U.p (v := .pointer (some ⟨b74, 1, none⟩)) Z Z (.inl Z) (S.fieldAddr Z (L 0 Z Z) Try.underlying55 Z ti4 Z Z) ?_
     refine U.k Z Z (.inl Z) (S.load Z (L 0 Z Z) Try.underlying4 Z ((ow81.own (k := 0) Z).cell Z)) nd ?_
     refine U.p Z Z (.inl Z) (S.not Z (L 0 Z Z)) ?_
     refine U.p Z Z (.inl Z) (S.move Z (L 0 Z Z)) ?_
     obtain ⟨y82, hy83, h84⟩ := bindS h62
     refine U.joinX 9 (fun e H => ∃ (u85 u86 u87 u88 : Value), ∃ V' : Vw, H = V'.H ∧ V79.le V' ∧ e = [(50, .bool y82), (49, u85), (48, u86), (47, u87), (46, u88)] ∧ Ow V' (.pt b74 (.cells 4 [.int .i64 x60.thread, .bool x60.bar, .int .i64 x60.at_, .int .i64 x60.val]) :: .pt b1 (.cells z2 [v4, v6, v9, v12, v15]) :: .os RT_Tref16_Event v4 p0.events :: .oss (RO.os (RT.int .i64)) v6 hs7 p0.seen :: .oss (RO.om RT.bool false) v9 hs10 p0.has :: .oss (RO.om (RT.int .i64) false) v12 hs13 p0.now :: .om (RT.int .i64) false v15 p0.last :: Rs)) ?_ ?_
     ·rintro _ _ ⟨u85, u86, u87, u88, V89, rfl, le90, rfl, ow91⟩
      refine U.done (nr Z) ?_
      refine WP.cond _ (L 0 Z Z) Z (fun c92 => ?_) (fun c92 => ?_)
      ·have h93 := ifT c92 h84
       refine WP.usreg Z ?_
       refine U.p Z Z (.inl Z) (S.assign Z K) ?_
       refine U.done (nr Z) ?_
       refine WP.ret ?_
       refine sqR ?_
       refine fin.slot (.inr Z) Z (L 0 Z Z) ⟨V89, Z, ((((le28.trans le54).trans le76).trans le80).trans le90), ?_⟩
       have ow94 := ow91.drop 0 Z
       have e95 := Option.some.inj h93
       subst e95
       exact ⟨rfl, ow94⟩
      ·have h96 := ifF c92 h84
       refine WP.skip ?_
       refine sqN ?_
       refine WP.seq ?_
       refine WP.usreg Z ?_
       refine U.p Z Z (.inl Z) (S.move Z (L 42 Z Z)) ?_
       refine U.p Z Z (.inl Z) (S.move Z (L 45 Z Z)) ?_
       have ow97 := ow91.pick 6 Z
       have ow98 := ow97.pick 6 Z
       have ow99 := ow98.pick 6 Z
       have ow100 := ow99.pick 6 Z
       have ow101 := ow100.pick 6 Z
       have ow102 := ow101.pick 6 Z
       obtain ⟨x103, hx104, h105⟩ := bindS h96
       refine O.call (V := V89) Z Z (.inl Z) Z en34 (aC (L 1 Z Z) (aC (L 0 Z Z) aN)) (wk_storage_Storage_ahead V89 _ p0 p2 b1 z2 v4 v6 hs7 v9 hs10 v12 hs13 v15 ow102 _ hx104) (fun _ _ _ _ => nd) (fun v106 V107 le108 hp109 => ?_)
       obtain ⟨_, rfl, f112, ow110⟩ := hp109
       refine U.p Z Z (.inl Z) (f112.len Z (L 0 Z Z) Try.underlying26) ?_
       refine U.p Z Z (.inl Z) (S.move Z K) ?_
       refine U.done (nr Z) ?_
       refine WP.blk ?_
       unfold storage_Storage_May_l1 at h105
       obtain ⟨n115, hn114⟩ := loopO_some.1 h105
       refine WP.loopI2 (fun n l V' => ∃ (x113 : Int), l = [(0, .pointer (some ⟨b1, 0, none⟩)), (1, .int .i64 p1), (7, .pointer (some ⟨b74, 0, none⟩)), (53, v106), (54, .int .i64 (x103.length : Int)), (55, .int .i64 x113)] ∧ V107.le V' ∧ Ow V' (.pt b1 (.cells z2 [v4, v6, v9, v12, v15]) :: .os RT_Tref16_Event v4 p0.events :: .oss (RO.os (RT.int .i64)) v6 hs7 p0.seen :: .oss (RO.om RT.bool false) v9 hs10 p0.has :: .oss (RO.om (RT.int .i64) false) v12 hs13 p0.now :: .om (RT.int .i64) false v15 p0.last :: .pt b74 (.cells 4 [.int .i64 x60.thread, .bool x60.bar, .int .i64 x60.at_, .int .i64 x60.val]) :: Rs) ∧ itO (fun s => storage_Storage_May_l1b p0 p1 x60 x103 s) n x113 = some r) n115 _ ⟨0, Z, .refl _, ow110, hn114⟩ (allCons (L 47 Z Z) (allCons (L 48 Z Z) (allCons (L 14 Z Z) (allCons (L 2 Z Z) (allCons (L 1 Z Z) (allCons (L 0 Z Z) allNil)))))) ?_
       rintro _ _ V116 ⟨x113, rfl, le117, ow118, h122⟩
       obtain ⟨m119, q120, rfl, h123, e121⟩ := itS h122
       replace h123 : storage_Storage_May_l1b p0 p1 x60 x103 x113 = some q120 := h123
       unfold storage_Storage_May_l1b at h123
       refine WP.usreg Z ?_
       refine U.p Z Z (.inl Z) (S.lss Z (L 5 Z Z) (L 4 Z Z)) ?_
       refine U.done (nr Z) ?_
       refine WP.seq ?_
       refine WP.cond _ (L 0 Z Z) Z (fun c124 => ?_) (fun c124 => ?_)
       ·have h125 := ifT c124 h123
        refine WP.skip ?_
        refine sqN ?_
        refine WP.seq ?_
        refine WP.blk ?_
        refine WP.usreg Z ?_
        obtain ⟨x126, hx127, h128⟩ := bindS h125
        obtain ⟨i129, h130, xs131, b132, o133, n134, hh135, hx136, hv137, hv138, hx139⟩ := f112.at hx127
        refine U.p Z Z (.inl Z) (S.index Z ((L 4 Z Z).trans hv138) (L 6 Z Z) Try.underlying26 ti3 (ix_ge hx127) (ix_lt hx127)) ?_
        obtain ⟨h140, hh141, ow142⟩ := ow118.ssopen (k := 2) Z hx136
        obtain rfl : h140 = h130 := Option.some.inj (hh141.symm.trans hh135)
        obtain ⟨cs144, hv145, hlt146, hr147, hc148⟩ := ow142.osel (k := 0) Z hv137 hx139
        obtain rfl : cs144 = [.int .i64 x126] := hr147
        refine U.k Z Z (.inl Z) (S.load Z (L 0 Z Z) Try.underlying3 Z (hc148 0 _ Z)) nd ?_
        refine U.p Z Z (.inl Z) (S.assign Z (L 0 Z Z)) ?_
        refine U.done (nr Z) ?_
        refine WP.usreg Z ?_
        refine U.p Z Z (.inl Z) (S.move Z (L 4 Z Z)) ?_
        refine U.p Z Z (.inl Z) (S.nilCheck Z (L 0 Z Z)) ?_
        refine U.p (v := .pointer (some ⟨b1, 0, none⟩)) Z Z (.inl Z) (S.fieldAddr Z (L 0 Z Z) Try.underlying62 Z ti53 Z Z) ?_
        refine U.k Z Z (.inl Z) (S.load Z (L 0 Z Z) Try.underlying53 Z ((ow142.own (k := 1) Z).cell Z)) nd ?_
        refine U.p Z Z (.inl Z) (S.move Z (L 4 Z Z)) ?_
        refine U.p Z Z (.inl Z) (S.sub Z (L 0 Z Z) K) ?_
        obtain ⟨x149, hx150, h151⟩ := bindS h128
        obtain ⟨_, hv152, _⟩ := ow142.osel (k := 2) Z hv67 hx150
        refine U.p Z Z (.inl Z) (S.index Z ((L 2 Z Z).trans hv152) (L 0 Z Z) Try.underlying53 ti55 (ix_ge hx150) (ix_lt hx150)) ?_
        obtain ⟨cs153, hv154, hlt155, hr156, hc157⟩ := ow142.osel (k := 2) Z hv67 hx150
        obtain rfl : cs153 = [.int .i64 x149.thread, .bool x149.bar, .int .i64 x149.at_, .int .i64 x149.val] := hr156
        refine U.k Z Z (.inl Z) (S.loadN (cs := [.int .i64 x149.thread, .bool x149.bar, .int .i64 x149.at_, .int .i64 x149.val]) Z (L 0 Z Z) Try.underlying55 Z ti55 Z hc157) nd ?_
        refine O.alloc ow142 Z Z (.inl Z) Z ti55 Z Z nd (fun b158 V159 le160 ow161 => ?_)
        refine O.store (k := 0) (cs := [.int .i64 x149.thread, .bool x149.bar, .int .i64 x149.at_, .int .i64 x149.val]) (c' := [.int .i64 x149.thread, .bool x149.bar, .int .i64 x149.at_, .int .i64 x149.val]) ow161 Z Z Z (.inl Z) Z (L 0 Z Z) (L 1 Z Z) ti55 (by simp [topV]) Z Z (nr Z) Z Z nd (fun V163 le164 ow165 => ?_)
        refine U.done (nr Z) ?_
        refine WP.usreg Z ?_
        refine U.p (v := .pointer (some ⟨b158, 1, none⟩)) Z Z (.inl Z) (S.fieldAddr Z (L 0 Z Z) Try.underlying55 Z ti4 Z Z) ?_
        refine U.k Z Z (.inl Z) (S.load Z (L 0 Z Z) Try.underlying4 Z ((ow165.own (k := 0) Z).cell Z)) nd ?_
        refine U.p Z Z (.inl Z) (S.move Z (L 0 Z Z)) ?_
        have ow166 := ow165.ssclose' (k := 4) (j := 1) Z Z (by decide) hh135 hx136
        obtain ⟨y167, hy168, h169⟩ := bindS h151
        refine U.joinX 9 (fun e H => ∃ (u170 u171 u172 u173 u174 : Value), ∃ V' : Vw, H = V'.H ∧ V163.le V' ∧ e = [(75, .bool y167), (74, u170), (73, u171), (72, u172), (71, u173), (70, u174)] ∧ Ow V' (.pt b158 (.cells 4 [.int .i64 x149.thread, .bool x149.bar, .int .i64 x149.at_, .int .i64 x149.val]) :: .pt b1 (.cells z2 [v4, v6, v9, v12, v15]) :: .os RT_Tref16_Event v4 p0.events :: .oss (RO.os (RT.int .i64)) v6 hs7 p0.seen :: .oss (RO.om RT.bool false) v9 hs10 p0.has :: .oss (RO.om (RT.int .i64) false) v12 hs13 p0.now :: .om (RT.int .i64) false v15 p0.last :: .pt b74 (.cells 4 [.int .i64 x60.thread, .bool x60.bar, .int .i64 x60.at_, .int .i64 x60.val]) :: Rs)) ?_ ?_
        ·rintro _ _ ⟨u170, u171, u172, u173, u174, V175, rfl, le176, rfl, ow177⟩
         refine U.p Z Z (.inl Z) (S.move Z (L 0 Z Z)) ?_
         obtain ⟨y178, hy179, h180⟩ := bindS h169
         refine U.joinX 25 (fun e H => ∃ (u181 u182 u183 u184 u185 u186 u187 u188 u189 u190 u191 u192 u193 u194 : Value), ∃ V' : Vw, H = V'.H ∧ V175.le V' ∧ e = [(91, .bool y178), (90, u181), (89, u182), (88, u183), (87, u184), (86, u185), (85, u186), (84, u187), (83, u188), (82, u189), (81, u190), (80, u191), (79, u192), (78, u193), (77, u194)] ∧ Ow V' (.pt b158 (.cells 4 [.int .i64 x149.thread, .bool x149.bar, .int .i64 x149.at_, .int .i64 x149.val]) :: .pt b1 (.cells z2 [v4, v6, v9, v12, v15]) :: .os RT_Tref16_Event v4 p0.events :: .oss (RO.os (RT.int .i64)) v6 hs7 p0.seen :: .oss (RO.om RT.bool false) v9 hs10 p0.has :: .oss (RO.om (RT.int .i64) false) v12 hs13 p0.now :: .om (RT.int .i64) false v15 p0.last :: .pt b74 (.cells 4 [.int .i64 x60.thread, .bool x60.bar, .int .i64 x60.at_, .int .i64 x60.val]) :: Rs)) ?_ ?_
         ·rintro _ _ ⟨u181, u182, u183, u184, u185, u186, u187, u188, u189, u190, u191, u192, u193, u194, V195, rfl, le196, rfl, ow197⟩
          refine U.done (nr Z) ?_
          refine WP.cond _ (L 0 Z Z) Z (fun c198 => ?_) (fun c198 => ?_)
          ·have h199 := ifT c198 h180
           refine WP.usreg Z ?_
           refine U.p Z Z (.inl Z) (S.assign Z K) ?_
           refine U.done (nr Z) ?_
           refine WP.ret ?_
           refine blkR (sqR (sqR (blkR (sqR ?_))))
           have h200 := exitS h199 e121
           refine fin.slot (.inr Z) Z (L 0 Z Z) ⟨V195, Z, ((((((((((le28.trans le54).trans le76).trans le80).trans le90).trans le108).trans le117).trans le160).trans le164).trans le176).trans le196), ?_⟩
           have ow201 := ow197.drop 0 Z
           have ow202 := ow201.drop 6 Z
           have e203 := Option.some.inj h200
           subst e203
           exact ⟨rfl, ow202⟩
          ·have h204 := ifF c198 h180
           refine WP.skip ?_
           refine blkN (sqN ?_)
           refine WP.ureg Z ?_
           refine U.p Z Z (.inl Z) (S.add Z (L 43 Z Z) K) ?_
           refine U.p Z Z (.inl Z) (S.move Z (L 0 Z Z)) ?_
           refine U.done (nr Z) ?_
           refine sqN ?_
           have ow205 := ow197.drop 0 Z
           exact ⟨_, V195, Z, ⟨m119, Nat.lt_succ_self _, w64 (x113 + 1), Z, ((((le117.trans le160).trans le164).trans le176).trans le196), ow205, backS h204 e121⟩, (allCons (L 40 Z Z) (allCons (L 41 Z Z) (allCons (L 42 Z Z) (allCons (L 43 Z Z) (allCons (L 44 Z Z) (allCons (L 0 Z Z) allNil))))))⟩
         ·intro kk
          refine bcase (b := y167) (fun g206 => ?_) (fun g206 => ?_)
          ·have h207 := ifT g206 hy179
           refine U.x Z Z Z Z ((L 0 Z Z).trans (cB g206)) (by decide) ?_
           refine U.x Z Z Z Z ((L 1 Z Z).trans (cB g206)) (by decide) ?_
           refine U.x Z Z Z Z ((L 2 Z Z).trans (cB g206)) (by decide) ?_
           refine U.x Z Z Z Z ((L 3 Z Z).trans (cB g206)) (by decide) ?_
           refine U.z Z Z Z Z (L 0 Z Z) ?_
           refine U.z Z Z Z Z (L 1 Z Z) ?_
           refine U.x Z Z Z Z ((L 6 Z Z).trans (cB g206)) (by decide) ?_
           refine U.x Z Z Z Z ((L 7 Z Z).trans (cB g206)) (by decide) ?_
           refine U.z Z Z Z Z (L 0 Z Z) ?_
           refine U.z Z Z Z Z (L 1 Z Z) ?_
           refine U.z Z Z Z Z (L 2 Z Z) ?_
           refine U.z Z Z Z Z (L 3 Z Z) ?_
           refine U.z Z Z Z Z (L 4 Z Z) ?_
           refine U.x Z Z Z Z ((L 13 Z Z).trans (cB g206)) (by decide) ?_
           refine U.p Z Z (.inl Z) (S.pickT Z ((L 14 Z Z).trans (cB g206)) K) ?_
           have e208 := Option.some.inj h207
           subst e208
           exact kk [(91, .bool true), (90, .tuple #[]), (89, .tuple #[]), (88, .tuple #[]), (87, .tuple #[]), (86, .tuple #[]), (85, .tuple #[]), (84, .tuple #[]), (83, .tuple #[]), (82, .tuple #[]), (81, .tuple #[]), (80, .tuple #[]), (79, .tuple #[]), (78, .tuple #[]), (77, .tuple #[])] _ ⟨.tuple #[], .tuple #[], .tuple #[], .tuple #[], .tuple #[], .tuple #[], .tuple #[], .tuple #[], .tuple #[], .tuple #[], .tuple #[], .tuple #[], .tuple #[], .tuple #[], V175, Z, (.refl _), Z, ow177⟩
          ·have h209 := ifF g206 hy179
           refine U.p (v := .pointer (some ⟨b158, 1, none⟩)) Z Z (.inr ⟨_, _, _, Z, Z, ((L 0 Z Z).trans (cB g206))⟩) (S.fieldAddr Z (L 10 Z Z) Try.underlying55 Z ti4 Z Z) ?_
           refine U.k Z Z (.inr ⟨_, _, _, Z, Z, ((L 1 Z Z).trans (cB g206))⟩) (S.load Z (L 0 Z Z) Try.underlying4 Z ((ow177.own (k := 0) Z).cell Z)) nd ?_
           refine U.p Z Z (.inr ⟨_, _, _, Z, Z, ((L 2 Z Z).trans (cB g206))⟩) (S.not Z (L 0 Z Z)) ?_
           refine U.p Z Z (.inr ⟨_, _, _, Z, Z, ((L 3 Z Z).trans (cB g206))⟩) (S.move Z (L 0 Z Z)) ?_
           refine U.joinX 17 (fun e H => ∃ (u210 u211 : Value), H = V175.H ∧ e = [(83, .bool ((!x149.bar) && x60.bar)), (82, u210), (81, u211)]) ?_ ?_
           ·rintro _ _ ⟨u210, u211, rfl, rfl⟩
            refine U.p Z Z (.inr ⟨_, _, _, Z, Z, ((L 7 Z Z).trans (cB g206))⟩) (S.move Z (L 0 Z Z)) ?_
            obtain ⟨y215, hy216, h217⟩ := bindS h209
            refine U.joinX 24 (fun e H => ∃ (u218 u219 u220 u221 u222 : Value), ∃ V' : Vw, H = V'.H ∧ V175.le V' ∧ e = [(90, .bool y215), (89, u218), (88, u219), (87, u220), (86, u221), (85, u222)] ∧ Ow V' (.pt b158 (.cells 4 [.int .i64 x149.thread, .bool x149.bar, .int .i64 x149.at_, .int .i64 x149.val]) :: .pt b1 (.cells z2 [v4, v6, v9, v12, v15]) :: .os RT_Tref16_Event v4 p0.events :: .oss (RO.os (RT.int .i64)) v6 hs7 p0.seen :: .oss (RO.om RT.bool false) v9 hs10 p0.has :: .oss (RO.om (RT.int .i64) false) v12 hs13 p0.now :: .om (RT.int .i64) false v15 p0.last :: .pt b74 (.cells 4 [.int .i64 x60.thread, .bool x60.bar, .int .i64 x60.at_, .int .i64 x60.val]) :: Rs)) ?_ ?_
            ·rintro _ _ ⟨u218, u219, u220, u221, u222, V223, rfl, le224, rfl, ow225⟩
             refine U.p Z Z (.inl Z) (S.pickF Z ((L 14 Z Z).trans (cB g206)) (L 0 Z Z)) ?_
             have e226 := Option.some.inj h217
             subst e226
             exact kk [(91, .bool y215), (90, .bool y215), (89, u218), (88, u219), (87, u220), (86, u221), (85, u222), (84, .bool ((!x149.bar) && x60.bar)), (83, .bool ((!x149.bar) && x60.bar)), (82, u210), (81, u211), (80, .bool (!x149.bar)), (79, .bool (!x149.bar)), (78, .bool x149.bar), (77, .pointer (some ⟨b158, 1, none⟩))] _ ⟨.bool y215, u218, u219, u220, u221, u222, .bool ((!x149.bar) && x60.bar), .bool ((!x149.bar) && x60.bar), u210, u211, .bool (!x149.bar), .bool (!x149.bar), .bool x149.bar, .pointer (some ⟨b158, 1, none⟩), V223, Z, le224, Z, ow225⟩
            ·intro kk
             refine bcase (b := (!x149.bar) && x60.bar) (fun g227 => ?_) (fun g227 => ?_)
             ·have h228 := ifT g227 hy216
              refine U.p Z Z (.inr ⟨_, _, _, Z, Z, ((L 0 Z Z).trans (cB g227))⟩) (S.move Z (L 31 Z Z)) ?_
              refine U.p Z Z (.inr ⟨_, _, _, Z, Z, ((L 1 Z Z).trans (cB g227))⟩) (S.move Z (L 33 Z Z)) ?_
              refine U.p Z Z (.inr ⟨_, _, _, Z, Z, ((L 2 Z Z).trans (cB g227))⟩) (S.move Z (L 29 Z Z)) ?_
              have ow229 := ow177.pick 6 Z
              have ow230 := ow229.pick 6 Z
              have ow231 := ow230.pick 6 Z
              have ow232 := ow231.pick 6 Z
              have ow233 := ow232.pick 6 Z
              have ow234 := ow233.pick 6 Z
              obtain ⟨x235, hx236, h237⟩ := bindS h228
              refine O.call (V := V175) Z Z (.inr ⟨_, _, _, Z, Z, ((L 3 Z Z).trans (cB g227))⟩) Z en33 (aC (L 2 Z Z) (aC (L 1 Z Z) (aC (L 0 Z Z) aN))) (wk_storage_Storage_passed V175 _ p0 p1 x126 b1 z2 v4 v6 hs7 v9 hs10 v12 hs13 v15 ow234 _ hx236) (fun _ _ _ _ => nd) (fun v238 V239 le240 hp241 => ?_)
              obtain ⟨rfl, ow242⟩ := hp241
              refine U.p Z Z (.inr ⟨_, _, _, Z, Z, ((L 4 Z Z).trans (cB g227))⟩) (S.not Z (L 0 Z Z)) ?_
              refine U.p Z Z (.inr ⟨_, _, _, Z, Z, ((L 13 Z Z).trans (cB g206))⟩) (S.pickT Z ((L 5 Z Z).trans (cB g227)) (L 0 Z Z)) ?_
              have e243 := Option.some.inj h237
              subst e243
              have ow244 := ow242.pick 7 Z
              have ow245 := ow244.pick 6 Z
              have ow246 := ow245.pick 6 Z
              have ow247 := ow246.pick 6 Z
              have ow248 := ow247.pick 6 Z
              have ow249 := ow248.pick 6 Z
              have ow250 := ow249.pick 6 Z
              have ow251 := ow250.pick 7 Z
              exact kk [(90, .bool (!x235)), (89, .bool (!x235)), (88, .bool x235), (87, .int .i64 x126), (86, .int .i64 p1), (85, .pointer (some ⟨b1, 0, none⟩))] _ ⟨.bool (!x235), .bool x235, .int .i64 x126, .int .i64 p1, .pointer (some ⟨b1, 0, none⟩), V239, Z, le240, Z, ow251⟩
             ·have h252 := ifF g227 hy216
              refine U.x Z Z Z Z ((L 0 Z Z).trans (cB g227)) (by decide) ?_
              refine U.x Z Z Z Z ((L 1 Z Z).trans (cB g227)) (by decide) ?_
              refine U.x Z Z Z Z ((L 2 Z Z).trans (cB g227)) (by decide) ?_
              refine U.x Z Z Z Z ((L 3 Z Z).trans (cB g227)) (by decide) ?_
              refine U.x Z Z Z Z ((L 4 Z Z).trans (cB g227)) (by decide) ?_
              refine U.p Z Z (.inr ⟨_, _, _, Z, Z, ((L 13 Z Z).trans (cB g206))⟩) (S.pickF Z ((L 5 Z Z).trans (cB g227)) K) ?_
              have e253 := Option.some.inj h252
              subst e253
              exact kk [(90, .bool false), (89, .tuple #[]), (88, .tuple #[]), (87, .tuple #[]), (86, .tuple #[]), (85, .tuple #[])] _ ⟨.tuple #[], .tuple #[], .tuple #[], .tuple #[], .tuple #[], V175, Z, (.refl _), Z, ow177⟩
           ·intro kk
            refine bcase (b := !x149.bar) (fun g254 => ?_) (fun g254 => ?_)
            ·skip
             have k255 : x149.bar = false := nT g254
             refine U.p (v := .pointer (some ⟨b74, 1, none⟩)) Z Z (.inr ⟨_, _, _, Z, Z, ((L 0 Z Z).trans (cB g254))⟩) (S.fieldAddr Z (L 29 Z Z) Try.underlying55 Z ti4 Z Z) ?_
             refine U.k Z Z (.inr ⟨_, _, _, Z, Z, ((L 1 Z Z).trans (cB g254))⟩) (S.load Z (L 0 Z Z) Try.underlying4 Z ((ow177.own (k := 7) Z).cell Z)) nd ?_
             refine U.p Z Z (.inr ⟨_, _, _, Z, Z, ((L 6 Z Z).trans (cB g206))⟩) (S.pickT Z ((L 2 Z Z).trans (cB g254)) (L 0 Z Z)) ?_
             exact kk [(83, .bool x60.bar), (82, .bool x60.bar), (81, .pointer (some ⟨b74, 1, none⟩))] _ ⟨.bool x60.bar, .pointer (some ⟨b74, 1, none⟩), Z, (by rw [g254, Bool.true_and])⟩
            ·skip
             have k256 : x149.bar = true := nF g254
             refine U.x Z Z Z Z ((L 0 Z Z).trans (cB g254)) (by decide) ?_
             refine U.x Z Z Z Z ((L 1 Z Z).trans (cB g254)) (by decide) ?_
             refine U.p Z Z (.inr ⟨_, _, _, Z, Z, ((L 6 Z Z).trans (cB g206))⟩) (S.pickF Z ((L 2 Z Z).trans (cB g254)) K) ?_
             exact kk [(83, .bool false), (82, .tuple #[]), (81, .tuple #[])] _ ⟨.tuple #[], .tuple #[], Z, (by rw [g254, Bool.false_and])⟩
        ·intro kk
         refine bcase (b := x149.bar) (fun g257 => ?_) (fun g257 => ?_)
         ·have h258 := ifT g257 hy168
          refine U.p Z Z (.inr ⟨_, _, _, Z, Z, ((L 0 Z Z).trans (cB g257))⟩) (S.move Z (L 16 Z Z)) ?_
          refine U.p Z Z (.inr ⟨_, _, _, Z, Z, ((L 1 Z Z).trans (cB g257))⟩) (S.move Z (L 18 Z Z)) ?_
          refine U.p Z Z (.inr ⟨_, _, _, Z, Z, ((L 2 Z Z).trans (cB g257))⟩) (S.move Z (L 14 Z Z)) ?_
          have ow259 := ow166.pick 6 Z
          have ow260 := ow259.pick 6 Z
          have ow261 := ow260.pick 6 Z
          have ow262 := ow261.pick 6 Z
          have ow263 := ow262.pick 6 Z
          have ow264 := ow263.pick 6 Z
          obtain ⟨x265, hx266, h267⟩ := bindS h258
          refine O.call (V := V163) Z Z (.inr ⟨_, _, _, Z, Z, ((L 3 Z Z).trans (cB g257))⟩) Z en20 (aC (L 2 Z Z) (aC (L 1 Z Z) (aC (L 0 Z Z) aN))) (wk_storage_Storage_Seen V163 _ p0 p1 x126 b1 z2 v4 v6 hs7 v9 hs10 v12 hs13 v15 ow264 _ hx266) (fun _ _ _ _ => nd) (fun v268 V269 le270 hp271 => ?_)
          obtain ⟨rfl, ow272⟩ := hp271
          refine U.p Z Z (.inr ⟨_, _, _, Z, Z, ((L 4 Z Z).trans (cB g257))⟩) (S.not Z (L 0 Z Z)) ?_
          refine U.p Z Z (.inl Z) (S.pickT Z ((L 5 Z Z).trans (cB g257)) (L 0 Z Z)) ?_
          have e273 := Option.some.inj h267
          subst e273
          have ow274 := ow272.pick 7 Z
          have ow275 := ow274.pick 6 Z
          have ow276 := ow275.pick 6 Z
          have ow277 := ow276.pick 6 Z
          have ow278 := ow277.pick 6 Z
          have ow279 := ow278.pick 6 Z
          have ow280 := ow279.pick 6 Z
          have ow281 := ow280.pick 7 Z
          exact kk [(75, .bool (!x265)), (74, .bool (!x265)), (73, .bool x265), (72, .int .i64 x126), (71, .int .i64 p1), (70, .pointer (some ⟨b1, 0, none⟩))] _ ⟨.bool (!x265), .bool x265, .int .i64 x126, .int .i64 p1, .pointer (some ⟨b1, 0, none⟩), V269, Z, le270, Z, ow281⟩
         ·have h282 := ifF g257 hy168
          refine U.x Z Z Z Z ((L 0 Z Z).trans (cB g257)) (by decide) ?_
          refine U.x Z Z Z Z ((L 1 Z Z).trans (cB g257)) (by decide) ?_
          refine U.x Z Z Z Z ((L 2 Z Z).trans (cB g257)) (by decide) ?_
          refine U.x Z Z Z Z ((L 3 Z Z).trans (cB g257)) (by decide) ?_
          refine U.x Z Z Z Z ((L 4 Z Z).trans (cB g257)) (by decide) ?_
          refine U.p Z Z (.inl Z) (S.pickF Z ((L 5 Z Z).trans (cB g257)) K) ?_
          have e283 := Option.some.inj h282
          subst e283
          exact kk [(75, .bool false), (74, .tuple #[]), (73, .tuple #[]), (72, .tuple #[]), (71, .tuple #[]), (70, .tuple #[])] _ ⟨.tuple #[], .tuple #[], .tuple #[], .tuple #[], .tuple #[], V163, Z, (.refl _), Z, ow166⟩
       ·have h284 := ifF c124 h123
        refine WP.exit ?_
        refine sqE (sqE (blkE (sqN ?_)))
        have h285 := exitS h284 e121
        refine WP.usreg Z ?_
        refine U.p Z Z (.inl Z) (S.assign Z K) ?_
        refine U.done (nr Z) ?_
        refine WP.ret ?_
        refine fin.slot (.inr Z) Z (L 0 Z Z) ⟨V116, Z, ((((((le28.trans le54).trans le76).trans le80).trans le90).trans le108).trans le117), ?_⟩
        have ow286 := ow118.drop 6 Z
        have e287 := Option.some.inj h285
        subst e287
        exact ⟨rfl, ow286⟩
     ·intro kk
      refine bcase (b := !x60.bar) (fun g288 => ?_) (fun g288 => ?_)
      ·have h289 := ifT g288 hy83
       have k290 : x60.bar = false := nT g288
       refine U.p Z Z (.inr ⟨_, _, _, Z, Z, ((L 0 Z Z).trans (cB g288))⟩) (S.move Z (L 37 Z Z)) ?_
       refine U.p Z Z (.inr ⟨_, _, _, Z, Z, ((L 1 Z Z).trans (cB g288))⟩) (S.move Z (L 39 Z Z)) ?_
       refine U.p Z Z (.inr ⟨_, _, _, Z, Z, ((L 2 Z Z).trans (cB g288))⟩) (S.move Z (L 41 Z Z)) ?_
       have ow291 := ow81.pick 6 Z
       have ow292 := ow291.pick 6 Z
       have ow293 := ow292.pick 6 Z
       have ow294 := ow293.pick 6 Z
       have ow295 := ow294.pick 6 Z
       have ow296 := ow295.pick 6 Z
       obtain ⟨x297, hx298, h299⟩ := bindS h289
       refine O.call (V := V79) Z Z (.inr ⟨_, _, _, Z, Z, ((L 3 Z Z).trans (cB g288))⟩) Z en33 (aC (L 2 Z Z) (aC (L 1 Z Z) (aC (L 0 Z Z) aN))) (wk_storage_Storage_passed V79 _ p0 p1 p2 b1 z2 v4 v6 hs7 v9 hs10 v12 hs13 v15 ow296 _ hx298) (fun _ _ _ _ => nd) (fun v300 V301 le302 hp303 => ?_)
       obtain ⟨rfl, ow304⟩ := hp303
       refine U.p Z Z (.inl Z) (S.pickT Z ((L 4 Z Z).trans (cB g288)) (L 0 Z Z)) ?_
       have e305 := Option.some.inj h299
       subst e305
       have ow306 := ow304.pick 5 Z
       have ow307 := ow306.pick 5 Z
       have ow308 := ow307.pick 5 Z
       have ow309 := ow308.pick 5 Z
       have ow310 := ow309.pick 5 Z
       have ow311 := ow310.pick 5 Z
       have ow312 := ow311.pick 6 Z
       exact kk [(50, .bool x297), (49, .bool x297), (48, .int .i64 p2), (47, .int .i64 p1), (46, .pointer (some ⟨b1, 0, none⟩))] _ ⟨.bool x297, .int .i64 p2, .int .i64 p1, .pointer (some ⟨b1, 0, none⟩), V301, Z, le302, Z, ow312⟩
      ·have h313 := ifF g288 hy83
       have k314 : x60.bar = true := nF g288
       refine U.x Z Z Z Z ((L 0 Z Z).trans (cB g288)) (by decide) ?_
       refine U.x Z Z Z Z ((L 1 Z Z).trans (cB g288)) (by decide) ?_
       refine U.x Z Z Z Z ((L 2 Z Z).trans (cB g288)) (by decide) ?_
       refine U.x Z Z Z Z ((L 3 Z Z).trans (cB g288)) (by decide) ?_
       refine U.p Z Z (.inl Z) (S.pickF Z ((L 4 Z Z).trans (cB g288)) K) ?_
       have e315 := Option.some.inj h313
       subst e315
       exact kk [(50, .bool false), (49, .tuple #[]), (48, .tuple #[]), (47, .tuple #[]), (46, .tuple #[])] _ ⟨.tuple #[], .tuple #[], .tuple #[], .tuple #[], V79, Z, (.refl _), Z, ow81⟩
   ·intro kk
    refine bcase (b := ((!x23) || (decide (p2 < 1))) || (decide ((p0.events.length : Int) < p2))) (fun g316 => ?_) (fun g316 => ?_)
    ·have h317 := ifT g316 hy47
     refine U.x Z Z Z Z ((L 0 Z Z).trans (cB g316)) (by decide) ?_
     refine U.x Z Z Z Z ((L 1 Z Z).trans (cB g316)) (by decide) ?_
     refine U.x Z Z Z Z ((L 2 Z Z).trans (cB g316)) (by decide) ?_
     refine U.x Z Z Z Z ((L 3 Z Z).trans (cB g316)) (by decide) ?_
     refine U.p Z Z (.inl Z) (S.pickT Z ((L 4 Z Z).trans (cB g316)) K) ?_
     have e318 := Option.some.inj h317
     subst e318
     exact kk [(33, .bool true), (32, .tuple #[]), (31, .tuple #[]), (30, .tuple #[]), (29, .tuple #[])] _ ⟨.tuple #[], .tuple #[], .tuple #[], .tuple #[], V27, Z, (.refl _), Z, ow30⟩
    ·have h319 := ifF g316 hy47
     refine U.p Z Z (.inr ⟨_, _, _, Z, Z, ((L 0 Z Z).trans (cB g316))⟩) (S.move Z (L 19 Z Z)) ?_
     refine U.p Z Z (.inr ⟨_, _, _, Z, Z, ((L 1 Z Z).trans (cB g316))⟩) (S.move Z (L 21 Z Z)) ?_
     refine U.p Z Z (.inr ⟨_, _, _, Z, Z, ((L 2 Z Z).trans (cB g316))⟩) (S.move Z (L 23 Z Z)) ?_
     have ow320 := ow30.pick 5 Z
     have ow321 := ow320.pick 5 Z
     have ow322 := ow321.pick 5 Z
     have ow323 := ow322.pick 5 Z
     have ow324 := ow323.pick 5 Z
     have ow325 := ow324.pick 5 Z
     obtain ⟨x326, hx327, h328⟩ := bindS h319
     refine O.call (V := V27) Z Z (.inr ⟨_, _, _, Z, Z, ((L 3 Z Z).trans (cB g316))⟩) Z en20 (aC (L 2 Z Z) (aC (L 1 Z Z) (aC (L 0 Z Z) aN))) (wk_storage_Storage_Seen V27 _ p0 p1 p2 b1 z2 v4 v6 hs7 v9 hs10 v12 hs13 v15 ow325 _ hx327) (fun _ _ _ _ => nd) (fun v329 V330 le331 hp332 => ?_)
     obtain ⟨rfl, ow333⟩ := hp332
     refine U.p Z Z (.inl Z) (S.pickF Z ((L 4 Z Z).trans (cB g316)) (L 0 Z Z)) ?_
     have e334 := Option.some.inj h328
     subst e334
     exact kk [(33, .bool x326), (32, .bool x326), (31, .int .i64 p2), (30, .int .i64 p1), (29, .pointer (some ⟨b1, 0, none⟩))] _ ⟨.bool x326, .int .i64 p2, .int .i64 p1, .pointer (some ⟨b1, 0, none⟩), V330, Z, le331, Z, ow333⟩
  ·intro kk
   refine bcase (b := (!x23) || (decide (p2 < 1))) (fun g335 => ?_) (fun g335 => ?_)
   ·skip
    refine U.x Z Z Z Z ((L 0 Z Z).trans (cB g335)) (by decide) ?_
    refine U.x Z Z Z Z ((L 1 Z Z).trans (cB g335)) (by decide) ?_
    refine U.x Z Z Z Z ((L 2 Z Z).trans (cB g335)) (by decide) ?_
    refine U.x Z Z Z Z ((L 3 Z Z).trans (cB g335)) (by decide) ?_
    refine U.x Z Z Z Z ((L 4 Z Z).trans (cB g335)) (by decide) ?_
    refine U.x Z Z Z Z ((L 5 Z Z).trans (cB g335)) (by decide) ?_
    refine U.x Z Z Z Z ((L 6 Z Z).trans (cB g335)) (by decide) ?_
    refine U.p Z Z (.inl Z) (S.pickT Z ((L 7 Z Z).trans (cB g335)) K) ?_
    exact kk [(27, .bool true), (26, .tuple #[]), (25, .tuple #[]), (24, .tuple #[]), (23, .tuple #[]), (22, .tuple #[]), (21, .tuple #[]), (20, .tuple #[])] _ ⟨.tuple #[], .tuple #[], .tuple #[], .tuple #[], .tuple #[], .tuple #[], .tuple #[], Z, (by rw [g335, Bool.true_or])⟩
   ·skip
    refine U.p Z Z (.inr ⟨_, _, _, Z, Z, ((L 0 Z Z).trans (cB g335))⟩) (S.move Z (L 12 Z Z)) ?_
    refine U.p Z Z (.inr ⟨_, _, _, Z, Z, ((L 1 Z Z).trans (cB g335))⟩) (S.move Z (L 11 Z Z)) ?_
    refine U.p Z Z (.inr ⟨_, _, _, Z, Z, ((L 2 Z Z).trans (cB g335))⟩) (S.nilCheck Z (L 0 Z Z)) ?_
    refine U.p (v := .pointer (some ⟨b1, 0, none⟩)) Z Z (.inr ⟨_, _, _, Z, Z, ((L 3 Z Z).trans (cB g335))⟩) (S.fieldAddr Z (L 0 Z Z) Try.underlying62 Z ti53 Z Z) ?_
    refine U.k Z Z (.inr ⟨_, _, _, Z, Z, ((L 4 Z Z).trans (cB g335))⟩) (S.load Z (L 0 Z Z) Try.underlying53 Z ((ow30.own (k := 0) Z).cell Z)) nd ?_
    refine U.p Z Z (.inr ⟨_, _, _, Z, Z, ((L 5 Z Z).trans (cB g335))⟩) (ow30.oslen (k := 1) Z Z (L 0 Z Z) Try.underlying53) ?_
    refine U.p Z Z (.inr ⟨_, _, _, Z, Z, ((L 6 Z Z).trans (cB g335))⟩) (S.gtr Z (L 5 Z Z) (L 0 Z Z)) ?_
    refine U.p Z Z (.inl Z) (S.pickF Z ((L 7 Z Z).trans (cB g335)) (L 0 Z Z)) ?_
    exact kk [(27, .bool (decide ((p0.events.length : Int) < p2))), (26, .bool (decide ((p0.events.length : Int) < p2))), (25, .int .i64 (p0.events.length : Int)), (24, v4), (23, .pointer (some ⟨b1, 0, none⟩)), (22, .pointer (some ⟨b1, 0, none⟩)), (21, .pointer (some ⟨b1, 0, none⟩)), (20, .int .i64 p2)] _ ⟨.bool (decide ((p0.events.length : Int) < p2)), .int .i64 (p0.events.length : Int), v4, .pointer (some ⟨b1, 0, none⟩), .pointer (some ⟨b1, 0, none⟩), .pointer (some ⟨b1, 0, none⟩), .int .i64 p2, Z, (by rw [g335, Bool.false_or])⟩
 ·intro kk
  refine bcase (b := !x23) (fun g336 => ?_) (fun g336 => ?_)
  ·skip
   have k337 : x23 = false := nT g336
   refine U.x Z Z Z Z ((L 0 Z Z).trans (cB g336)) (by decide) ?_
   refine U.x Z Z Z Z ((L 1 Z Z).trans (cB g336)) (by decide) ?_
   refine U.p Z Z (.inl Z) (S.pickT Z ((L 2 Z Z).trans (cB g336)) K) ?_
   exact kk [(18, .bool true), (17, .tuple #[]), (16, .tuple #[])] _ ⟨.tuple #[], .tuple #[], Z, (by rw [g336, Bool.true_or])⟩
  ·skip
   have k338 : x23 = true := nF g336
   refine U.p Z Z (.inr ⟨_, _, _, Z, Z, ((L 0 Z Z).trans (cB g336))⟩) (S.move Z (L 8 Z Z)) ?_
   refine U.p Z Z (.inr ⟨_, _, _, Z, Z, ((L 1 Z Z).trans (cB g336))⟩) (S.lss Z (L 0 Z Z) K) ?_
   refine U.p Z Z (.inl Z) (S.pickF Z ((L 2 Z Z).trans (cB g336)) (L 0 Z Z)) ?_
   exact kk [(18, .bool (decide (p2 < 1))), (17, .bool (decide (p2 < 1))), (16, .int .i64 p2)] _ ⟨.bool (decide (p2 < 1)), .int .i64 p2, Z, (by rw [g336, Bool.false_or])⟩
theorem wk_law16_alive (V : Vw) (Rs : List At) (ow : Ow V (Rs)) (r : Bool) (h : law16_alive = some r) : ∃ v V', Cl Try.prog 0 9 #[] V.H v V'.H ∧ V.le V' ∧ (v = .bool r ∧ Ow V' (Rs)) := by
 refine Ct.of (Nat.zero_le _) Try.func9 Z (nr Z) ?_
 unfold law16_alive at h
 refine WP.usreg Z ?_
 refine U.p Z Z (.inl Z) (S.assign Z K) ?_
 refine U.done (nr Z) ?_
 refine WP.usreg Z ?_
 obtain ⟨x1, hx2, h3⟩ := bindS h
 refine O.call (V := V) Z Z (.inl Z) Z en10 (aC K aN) (wk_storage_New V _ 2 ow _ hx2) (fun _ _ _ _ => nd) (fun v4 V5 le6 hp7 => ?_)
 obtain ⟨b9, z10, v12, v14, hs15, v17, hs18, v20, hs21, v23, rfl, ow8⟩ := hp7
 refine U.p Z Z (.inl Z) (S.assign Z (L 0 Z Z)) ?_
 refine U.done (nr Z) ?_
 refine WP.usreg Z ?_
 refine U.p Z Z (.inl Z) (S.move Z (L 0 Z Z)) ?_
 have ow25 := ow8.pick 5 Z
 have ow26 := ow25.pick 5 Z
 have ow27 := ow26.pick 5 Z
 have ow28 := ow27.pick 5 Z
 have ow29 := ow28.pick 5 Z
 have ow30 := ow29.pick 5 Z
 obtain ⟨x31, hx32, h33⟩ := bindS h3
 refine O.call (V := V5) Z Z (.inl Z) Z en15 (aC (L 0 Z Z) (aC K (aC K (aC K aN)))) (wk_storage_Storage_Write V5 _ x1 0 8 1 b9 z10 v12 v14 hs15 v17 hs18 v20 hs21 v23 ow30 _ hx32) (fun _ _ _ _ => nd) (fun v34 V35 le36 hp37 => ?_)
 obtain ⟨v39, v41, hs42, v44, hs45, v47, hs48, v50, rfl, ow38⟩ := hp37
 refine U.p Z Z (.inl Z) (S.move Z (L 2 Z Z)) ?_
 have ow52 := ow38.pick 5 Z
 have ow53 := ow52.pick 5 Z
 have ow54 := ow53.pick 5 Z
 have ow55 := ow54.pick 5 Z
 have ow56 := ow55.pick 5 Z
 have ow57 := ow56.pick 5 Z
 obtain ⟨x58, hx59, h60⟩ := bindS h33
 refine O.call (V := V35) Z Z (.inl Z) Z en15 (aC (L 0 Z Z) (aC K (aC K (aC K aN)))) (wk_storage_Storage_Write V35 _ x31.2 1 8 2 b9 z10 v39 v41 hs42 v44 hs45 v47 hs48 v50 ow57 _ hx59) (fun _ _ _ _ => nd) (fun v61 V62 le63 hp64 => ?_)
 obtain ⟨v66, v68, hs69, v71, hs72, v74, hs75, v77, rfl, ow65⟩ := hp64
 refine U.p Z Z (.inl Z) (S.assign Z (L 2 Z Z)) ?_
 refine U.p Z Z (.inl Z) (S.assign Z (L 1 Z Z)) ?_
 refine U.done (nr Z) ?_
 refine WP.usreg Z ?_
 refine U.p Z Z (.inl Z) (S.move Z (L 6 Z Z)) ?_
 have ow79 := ow65.pick 5 Z
 have ow80 := ow79.pick 5 Z
 have ow81 := ow80.pick 5 Z
 have ow82 := ow81.pick 5 Z
 have ow83 := ow82.pick 5 Z
 have ow84 := ow83.pick 5 Z
 obtain ⟨x85, hx86, h87⟩ := bindS h60
 refine O.call (V := V62) Z Z (.inl Z) Z en13 (aC (L 0 Z Z) (aC K (aC K aN))) (wk_storage_Storage_Read V62 _ x58.2 0 8 b9 z10 v66 v68 hs69 v71 hs72 v74 hs75 v77 ow84 _ hx86) (fun _ _ _ _ => nd) (fun v88 V89 le90 hp91 => ?_)
 obtain ⟨rfl, ow92⟩ := hp91
 refine U.p Z Z (.inl Z) (S.move Z (L 0 Z Z)) ?_
 refine U.p Z Z (.inl Z) (S.extract Z (L 0 Z Z) Z (nr Z)) ?_
 refine U.p Z Z (.inl Z) (S.extract Z (L 1 Z Z) Z (nr Z)) ?_
 refine U.p Z Z (.inl Z) (S.assign Z (L 1 Z Z)) ?_
 refine U.p Z Z (.inl Z) (S.assign Z (L 1 Z Z)) ?_
 refine U.done (nr Z) ?_
 refine WP.usreg Z ?_
 refine U.p Z Z (.inl Z) (S.move Z (L 8 Z Z)) ?_
 refine U.p Z Z (.inl Z) (S.eqlI Z (L 0 Z Z) K) ?_
 refine U.p Z Z (.inl Z) (S.move Z (L 0 Z Z)) ?_
 refine U.joinX 6 (fun e H => ∃ (u93 u94 : Value), H = V89.H ∧ e = [(21, .bool ((decide (x31.1 = 1)) && (decide (x58.1 = 2)))), (20, u93), (19, u94)]) ?_ ?_
 ·rintro _ _ ⟨u93, u94, rfl, rfl⟩
  refine U.p Z Z (.inl Z) (S.move Z (L 0 Z Z)) ?_
  refine U.joinX 10 (fun e H => ∃ (u98 u99 : Value), H = V89.H ∧ e = [(25, .bool (((decide (x31.1 = 1)) && (decide (x58.1 = 2))) && (decide (x85.1 = 1)))), (24, u98), (23, u99)]) ?_ ?_
  ·rintro _ _ ⟨u98, u99, rfl, rfl⟩
   refine U.p Z Z (.inl Z) (S.move Z (L 0 Z Z)) ?_
   refine U.joinX 14 (fun e H => ∃ (u103 u104 : Value), H = V89.H ∧ e = [(29, .bool ((((decide (x31.1 = 1)) && (decide (x58.1 = 2))) && (decide (x85.1 = 1))) && (decide (x85.2 = 1)))), (28, u103), (27, u104)]) ?_ ?_
   ·rintro _ _ ⟨u103, u104, rfl, rfl⟩
    refine U.p Z Z (.inl Z) (S.move Z (L 0 Z Z)) ?_
    obtain ⟨y108, hy109, h110⟩ := bindS h87
    refine U.joinX 19 (fun e H => ∃ (u111 u112 u113 : Value), ∃ V' : Vw, H = V'.H ∧ V89.le V' ∧ e = [(34, .bool y108), (33, u111), (32, u112), (31, u113)] ∧ Ow V' (.pt b9 (.cells z10 [v66, v68, v71, v74, v77]) :: .os RT_Tref16_Event v66 x58.2.events :: .oss (RO.os (RT.int .i64)) v68 hs69 x58.2.seen :: .oss (RO.om RT.bool false) v71 hs72 x58.2.has :: .oss (RO.om (RT.int .i64) false) v74 hs75 x58.2.now :: .om (RT.int .i64) false v77 x58.2.last :: Rs)) ?_ ?_
    ·rintro _ _ ⟨u111, u112, u113, V114, rfl, le115, rfl, ow116⟩
     refine U.p Z Z (.inl Z) (S.move Z (L 0 Z Z)) ?_
     obtain ⟨y117, hy118, h119⟩ := bindS h110
     refine U.joinX 23 (fun e H => ∃ (u120 u121 : Value), ∃ V' : Vw, H = V'.H ∧ V114.le V' ∧ e = [(38, .bool y117), (37, u120), (36, u121)] ∧ Ow V' (.pt b9 (.cells z10 [v66, v68, v71, v74, v77]) :: .os RT_Tref16_Event v66 x58.2.events :: .oss (RO.os (RT.int .i64)) v68 hs69 x58.2.seen :: .oss (RO.om RT.bool false) v71 hs72 x58.2.has :: .oss (RO.om (RT.int .i64) false) v74 hs75 x58.2.now :: .om (RT.int .i64) false v77 x58.2.last :: Rs)) ?_ ?_
     ·rintro _ _ ⟨u120, u121, V122, rfl, le123, rfl, ow124⟩
      refine U.p Z Z (.inl Z) (S.assign Z (L 0 Z Z)) ?_
      refine U.done (nr Z) ?_
      refine WP.ret ?_
      refine fin.slot (.inr Z) Z (L 0 Z Z) ⟨V122, Z, (((((le6.trans le36).trans le63).trans le90).trans le115).trans le123), ?_⟩
      have ow125 := ow124.drop 0 Z
      have ow126 := ow125.drop 0 Z
      have ow127 := ow126.drop 0 Z
      have ow128 := ow127.drop 0 Z
      have ow129 := ow128.drop 0 Z
      have ow130 := ow129.drop 0 Z
      have e131 := Option.some.inj h119
      subst e131
      exact ⟨rfl, ow130⟩
     ·intro kk
      refine bcase (b := y108) (fun g132 => ?_) (fun g132 => ?_)
      ·have h133 := ifT g132 hy118
       refine U.p Z Z (.inr ⟨_, _, _, Z, Z, ((L 0 Z Z).trans (cB g132))⟩) (S.move Z (L 33 Z Z)) ?_
       have ow134 := ow116.pick 5 Z
       have ow135 := ow134.pick 5 Z
       have ow136 := ow135.pick 5 Z
       have ow137 := ow136.pick 5 Z
       have ow138 := ow137.pick 5 Z
       have ow139 := ow138.pick 5 Z
       obtain ⟨x140, hx141, h142⟩ := bindS h133
       refine O.call (V := V114) Z Z (.inr ⟨_, _, _, Z, Z, ((L 1 Z Z).trans (cB g132))⟩) Z en25 (aC (L 0 Z Z) (aC K (aC K aN))) (wk_storage_Storage_May V114 _ x58.2 0 2 b9 z10 v66 v68 hs69 v71 hs72 v74 hs75 v77 ow139 _ hx141) (fun _ _ _ _ => nd) (fun v143 V144 le145 hp146 => ?_)
       obtain ⟨rfl, ow147⟩ := hp146
       refine U.p Z Z (.inl Z) (S.pickT Z ((L 2 Z Z).trans (cB g132)) (L 0 Z Z)) ?_
       have e148 := Option.some.inj h142
       subst e148
       exact kk [(38, .bool x140), (37, .bool x140), (36, .pointer (some ⟨b9, 0, none⟩))] _ ⟨.bool x140, .pointer (some ⟨b9, 0, none⟩), V144, Z, le145, Z, ow147⟩
      ·have h149 := ifF g132 hy118
       refine U.x Z Z Z Z ((L 0 Z Z).trans (cB g132)) (by decide) ?_
       refine U.x Z Z Z Z ((L 1 Z Z).trans (cB g132)) (by decide) ?_
       refine U.p Z Z (.inl Z) (S.pickF Z ((L 2 Z Z).trans (cB g132)) K) ?_
       have e150 := Option.some.inj h149
       subst e150
       exact kk [(38, .bool false), (37, .tuple #[]), (36, .tuple #[])] _ ⟨.tuple #[], .tuple #[], V114, Z, (.refl _), Z, ow116⟩
    ·intro kk
     refine bcase (b := (((decide (x31.1 = 1)) && (decide (x58.1 = 2))) && (decide (x85.1 = 1))) && (decide (x85.2 = 1))) (fun g151 => ?_) (fun g151 => ?_)
     ·have h152 := ifT g151 hy109
      refine U.p Z Z (.inr ⟨_, _, _, Z, Z, ((L 0 Z Z).trans (cB g151))⟩) (S.move Z (L 28 Z Z)) ?_
      have ow153 := ow92.pick 5 Z
      have ow154 := ow153.pick 5 Z
      have ow155 := ow154.pick 5 Z
      have ow156 := ow155.pick 5 Z
      have ow157 := ow156.pick 5 Z
      have ow158 := ow157.pick 5 Z
      obtain ⟨x159, hx160, h161⟩ := bindS h152
      refine O.call (V := V89) Z Z (.inr ⟨_, _, _, Z, Z, ((L 1 Z Z).trans (cB g151))⟩) Z en25 (aC (L 0 Z Z) (aC K (aC K aN))) (wk_storage_Storage_May V89 _ x58.2 1 1 b9 z10 v66 v68 hs69 v71 hs72 v74 hs75 v77 ow158 _ hx160) (fun _ _ _ _ => nd) (fun v162 V163 le164 hp165 => ?_)
      obtain ⟨rfl, ow166⟩ := hp165
      refine U.p Z Z (.inr ⟨_, _, _, Z, Z, ((L 2 Z Z).trans (cB g151))⟩) (S.not Z (L 0 Z Z)) ?_
      refine U.p Z Z (.inl Z) (S.pickT Z ((L 3 Z Z).trans (cB g151)) (L 0 Z Z)) ?_
      have e167 := Option.some.inj h161
      subst e167
      exact kk [(34, .bool (!x159)), (33, .bool (!x159)), (32, .bool x159), (31, .pointer (some ⟨b9, 0, none⟩))] _ ⟨.bool (!x159), .bool x159, .pointer (some ⟨b9, 0, none⟩), V163, Z, le164, Z, ow166⟩
     ·have h168 := ifF g151 hy109
      refine U.x Z Z Z Z ((L 0 Z Z).trans (cB g151)) (by decide) ?_
      refine U.x Z Z Z Z ((L 1 Z Z).trans (cB g151)) (by decide) ?_
      refine U.x Z Z Z Z ((L 2 Z Z).trans (cB g151)) (by decide) ?_
      refine U.p Z Z (.inl Z) (S.pickF Z ((L 3 Z Z).trans (cB g151)) K) ?_
      have e169 := Option.some.inj h168
      subst e169
      exact kk [(34, .bool false), (33, .tuple #[]), (32, .tuple #[]), (31, .tuple #[])] _ ⟨.tuple #[], .tuple #[], .tuple #[], V89, Z, (.refl _), Z, ow92⟩
   ·intro kk
    refine bcase (b := ((decide (x31.1 = 1)) && (decide (x58.1 = 2))) && (decide (x85.1 = 1))) (fun g170 => ?_) (fun g170 => ?_)
    ·skip
     refine U.p Z Z (.inr ⟨_, _, _, Z, Z, ((L 0 Z Z).trans (cB g170))⟩) (S.move Z (L 11 Z Z)) ?_
     refine U.p Z Z (.inr ⟨_, _, _, Z, Z, ((L 1 Z Z).trans (cB g170))⟩) (S.eqlI Z (L 0 Z Z) K) ?_
     refine U.p Z Z (.inl Z) (S.pickT Z ((L 2 Z Z).trans (cB g170)) (L 0 Z Z)) ?_
     exact kk [(29, .bool (decide (x85.2 = 1))), (28, .bool (decide (x85.2 = 1))), (27, .int .i64 x85.2)] _ ⟨.bool (decide (x85.2 = 1)), .int .i64 x85.2, Z, (by rw [g170, Bool.true_and])⟩
    ·skip
     refine U.x Z Z Z Z ((L 0 Z Z).trans (cB g170)) (by decide) ?_
     refine U.x Z Z Z Z ((L 1 Z Z).trans (cB g170)) (by decide) ?_
     refine U.p Z Z (.inl Z) (S.pickF Z ((L 2 Z Z).trans (cB g170)) K) ?_
     exact kk [(29, .bool false), (28, .tuple #[]), (27, .tuple #[])] _ ⟨.tuple #[], .tuple #[], Z, (by rw [g170, Bool.false_and])⟩
  ·intro kk
   refine bcase (b := (decide (x31.1 = 1)) && (decide (x58.1 = 2))) (fun g171 => ?_) (fun g171 => ?_)
   ·skip
    refine U.p Z Z (.inr ⟨_, _, _, Z, Z, ((L 0 Z Z).trans (cB g171))⟩) (S.move Z (L 8 Z Z)) ?_
    refine U.p Z Z (.inr ⟨_, _, _, Z, Z, ((L 1 Z Z).trans (cB g171))⟩) (S.eqlI Z (L 0 Z Z) K) ?_
    refine U.p Z Z (.inl Z) (S.pickT Z ((L 2 Z Z).trans (cB g171)) (L 0 Z Z)) ?_
    exact kk [(25, .bool (decide (x85.1 = 1))), (24, .bool (decide (x85.1 = 1))), (23, .int .i64 x85.1)] _ ⟨.bool (decide (x85.1 = 1)), .int .i64 x85.1, Z, (by rw [g171, Bool.true_and])⟩
   ·skip
    refine U.x Z Z Z Z ((L 0 Z Z).trans (cB g171)) (by decide) ?_
    refine U.x Z Z Z Z ((L 1 Z Z).trans (cB g171)) (by decide) ?_
    refine U.p Z Z (.inl Z) (S.pickF Z ((L 2 Z Z).trans (cB g171)) K) ?_
    exact kk [(25, .bool false), (24, .tuple #[]), (23, .tuple #[])] _ ⟨.tuple #[], .tuple #[], Z, (by rw [g171, Bool.false_and])⟩
 ·intro kk
  refine bcase (b := decide (x31.1 = 1)) (fun g172 => ?_) (fun g172 => ?_)
  ·skip
   refine U.p Z Z (.inr ⟨_, _, _, Z, Z, ((L 0 Z Z).trans (cB g172))⟩) (S.move Z (L 10 Z Z)) ?_
   refine U.p Z Z (.inr ⟨_, _, _, Z, Z, ((L 1 Z Z).trans (cB g172))⟩) (S.eqlI Z (L 0 Z Z) K) ?_
   refine U.p Z Z (.inl Z) (S.pickT Z ((L 2 Z Z).trans (cB g172)) (L 0 Z Z)) ?_
   exact kk [(21, .bool (decide (x58.1 = 2))), (20, .bool (decide (x58.1 = 2))), (19, .int .i64 x58.1)] _ ⟨.bool (decide (x58.1 = 2)), .int .i64 x58.1, Z, (by rw [g172, Bool.true_and])⟩
  ·skip
   refine U.x Z Z Z Z ((L 0 Z Z).trans (cB g172)) (by decide) ?_
   refine U.x Z Z Z Z ((L 1 Z Z).trans (cB g172)) (by decide) ?_
   refine U.p Z Z (.inl Z) (S.pickF Z ((L 2 Z Z).trans (cB g172)) K) ?_
   exact kk [(21, .bool false), (20, .tuple #[]), (19, .tuple #[])] _ ⟨.tuple #[], .tuple #[], Z, (by rw [g172, Bool.false_and])⟩
theorem wk_ref16_New (V : Vw) (Rs : List At) (p0 : Int) (ow : Ow V (Rs)) (r : Tref16_Storage) (h : ref16_New p0 = some r) : ∃ v V', Cl Try.prog 0 14 #[.int .i64 p0] V.H v V'.H ∧ V.le V' ∧ (∃ (b1 : Nat) (z2 : Nat) (v4 : Value) (v6 : Value) (hs7 : List Value), v = .pointer (some ⟨b1, 0, none⟩) ∧ Ow V' (.pt b1 (.cells z2 [.int .i64 r.n, v4, v6]) :: .os RT_Tref16_Event v4 r.e :: .oss (RO.os (RT.int .i64)) v6 hs7 r.come :: Rs)) := by
 refine Ct.of (Nat.zero_le _) Try.func14 Z (nr Z) ?_
 unfold ref16_New at h
 refine WP.usreg Z ?_
 refine U.p Z Z (.inl Z) (S.assign Z K) ?_
 refine U.done (nr Z) ?_
 refine WP.seqI (fun l V' => ∃ (x9 : Int), l = [(0, .int .i64 x9)] ∧ V.le V' ∧ Ow V' (Rs) ∧ ref16_New_k1 x9 = some r) ?_ ?_
 ·rintro _ V10 ⟨x9, rfl, le11, ow12, h13⟩
  unfold ref16_New_k1 at h13
  refine WP.seqI (fun l V' => ∃ (x14 : Int), l = [(0, .int .i64 x14)] ∧ V10.le V' ∧ Ow V' (Rs) ∧ ref16_New_k2 x14 = some r) ?_ ?_
  ·rintro _ V15 ⟨x14, rfl, le16, ow17, h18⟩
   unfold ref16_New_k2 at h18
   refine WP.usreg Z ?_
   refine U.p Z Z (.inl Z) (S.move Z (L 0 Z Z)) ?_
   refine U.p Z Z (.inl Z) (S.move Z (L 1 Z Z)) ?_
   obtain ⟨xs19, hx20, h21⟩ := bindS h18
   refine O.makeS (RO.os (RT.int .i64)) ow17 Z Z (.inl Z) Z (L 0 Z Z) (L 0 Z Z) Try.underlying44 ti26 Z Z (nr Z) ⟨Nat.zero_le _, .inl ⟨rfl, Z, Z⟩⟩ hx20 (fun _ => nd) (fun v22 hs23 V24 le25 ow26 => ?_)
   refine U.p (v := .agg #[.int .i64 x14, .slice none 0 0, v22]) Z Z (.inl Z) (S.build (vs := [.int .i64 x14, v22]) Z ti46 Z pl46 (aC (L 2 Z Z) (aC (L 0 Z Z) aN)) (allC (by simp [topV]) (allC (ow26.ssne (k := 0) Z) allN)) (fill1 Z Z (nr Z) (fill1 Z (ow26.sscells (k := 0) Z) (nr Z) Z))) ?_
   refine O.box ow26 Z Z (.inl Z) Z (L 0 Z Z) (by simp [topV]) Z nd (fun b28 V29 le30 ow31 => ?_)
   refine U.p Z Z (.inl Z) (S.assign Z (L 0 Z Z)) ?_
   refine U.done (nr Z) ?_
   refine WP.ret ?_
   have ow33 := ow31.nil RT_Tref16_Event
   refine fin.slot (.inr Z) Z (L 0 Z Z) ⟨V29, Z, (((le11.trans le16).trans le25).trans le30), ?_⟩
   have ow35 := ow33.pick 2 Z
   have ow36 := ow35.pick 1 Z
   have ow37 := ow36.pick 2 Z
   have e38 := Option.some.inj h21
   subst e38
   exact ⟨b28, 0, (.slice none 0 0), v22, hs23, Z, ow37⟩
  ·skip
   refine WP.usreg Z ?_
   refine U.p Z Z (.inl Z) (S.move Z (L 0 Z Z)) ?_
   refine U.p Z Z (.inl Z) (S.gtr Z (L 0 Z Z) K) ?_
   refine U.done (nr Z) ?_
   refine WP.cond _ (L 0 Z Z) Z (fun c39 => ?_) (fun c39 => ?_)
   ·have h40 := ifT c39 h13
    refine WP.ureg Z ?_
    refine U.p Z Z (.inl Z) (S.assign Z K) ?_
    refine U.done (nr Z) ?_
    refine sqN ?_
    exact ⟨_, V10, Z, ⟨8, Z, (.refl _), ow12, h40⟩, (allCons (L 0 Z Z) allNil)⟩
   ·have h41 := ifF c39 h13
    refine WP.skip ?_
    refine sqN ?_
    exact ⟨_, V10, Z, ⟨x9, Z, (.refl _), ow12, h41⟩, (allCons (L 2 Z Z) allNil)⟩
 ·skip
  refine WP.usreg Z ?_
  refine U.p Z Z (.inl Z) (S.move Z (L 1 Z Z)) ?_
  refine U.p Z Z (.inl Z) (S.lss Z (L 0 Z Z) K) ?_
  refine U.done (nr Z) ?_
  refine WP.cond _ (L 0 Z Z) Z (fun c42 => ?_) (fun c42 => ?_)
  ·have h43 := ifT c42 h
   refine WP.ureg Z ?_
   refine U.p Z Z (.inl Z) (S.assign Z K) ?_
   refine U.done (nr Z) ?_
   refine sqN ?_
   exact ⟨_, V, Z, ⟨0, Z, (.refl _), ow, h43⟩, (allCons (L 0 Z Z) allNil)⟩
  ·have h44 := ifF c42 h
   refine WP.skip ?_
   refine sqN ?_
   exact ⟨_, V, Z, ⟨p0, Z, (.refl _), ow, h44⟩, (allCons (L 3 Z Z) allNil)⟩
theorem wk_ref16_Storage_Accept (V : Vw) (Rs : List At) (p0 : Tref16_Storage) (p1 : Tref16_Event) (b1 : Nat) (z2 : Nat) (v4 : Value) (v6 : Value) (hs7 : List Value) (ow : Ow V (.pt b1 (.cells z2 [.int .i64 p0.n, v4, v6]) :: .os RT_Tref16_Event v4 p0.e :: .oss (RO.os (RT.int .i64)) v6 hs7 p0.come :: Rs)) (r : Int × Tref16_Storage) (h : ref16_Storage_Accept p0 p1 = some r) : ∃ v V', Cl Try.prog 0 16 #[.pointer (some ⟨b1, 0, none⟩), .agg #[.int .i64 p1.thread, .bool p1.bar, .int .i64 p1.at_, .int .i64 p1.val]] V.H v V'.H ∧ V.le V' ∧ (∃ (v9 : Value) (v11 : Value) (hs12 : List Value), v = .int .i64 r.1 ∧ Ow V' (.pt b1 (.cells z2 [.int .i64 r.2.n, v9, v11]) :: .os RT_Tref16_Event v9 r.2.e :: .oss (RO.os (RT.int .i64)) v11 hs12 r.2.come :: Rs)) := by
 refine Ct.of (Nat.zero_le _) Try.func16 Z (nr Z) ?_
 unfold ref16_Storage_Accept at h
 refine WP.usreg Z ?_
 refine O.box ow Z Z (.inl Z) Z (L 1 Z Z) (by simp [topV]) Z nd (fun b14 V15 le16 ow17 => ?_)
 refine U.p Z Z (.inl Z) (S.assign Z K) ?_
 refine U.done (nr Z) ?_
 refine WP.seq ?_
 refine WP.seqI (fun l V' => ∃ (x19 : Bool), l = [(0, .pointer (some ⟨b1, 0, none⟩)), (3, .pointer (some ⟨b14, 0, none⟩)), (16, .bool x19)] ∧ V15.le V' ∧ Ow V' (.pt b1 (.cells z2 [.int .i64 p0.n, v4, v6]) :: .os RT_Tref16_Event v4 p0.e :: .oss (RO.os (RT.int .i64)) v6 hs7 p0.come :: .pt b14 (.cells 0 [.int .i64 p1.thread, .bool p1.bar, .int .i64 p1.at_, .int .i64 p1.val]) :: Rs) ∧ ref16_Storage_Accept_k1 p0 p1 x19 = some r) ?_ ?_
 ·rintro _ V20 ⟨x19, rfl, le21, ow22, h23⟩
  unfold ref16_Storage_Accept_k1 at h23
  refine WP.cond _ (L 2 Z Z) Z (fun c24 => ?_) (fun c24 => ?_)
  ·have h25 := ifT c24 h23
   refine WP.usreg Z ?_
   refine U.p Z Z (.inl Z) (S.assign Z K) ?_
   refine U.done (nr Z) ?_
   refine WP.ret ?_
   refine sqR ?_
   refine fin.slot (.inr Z) Z (L 0 Z Z) ⟨V20, Z, (le16.trans le21), ?_⟩
   have ow26 := ow22.drop 3 Z
   have e27 := Option.some.inj h25
   subst e27
   exact ⟨v4, v6, hs7, Z, ow26⟩
  ·have h28 := ifF c24 h23
   refine WP.skip ?_
   refine sqN ?_
   refine WP.usdreg Z Z Z ?_
   refine U.p Z Z (.inl Z) (S.move Z (L 0 Z Z)) ?_
   refine U.p Z Z (.inl Z) (S.move Z (L 1 Z Z)) ?_
   refine U.p Z Z (.inl Z) (S.nilCheck Z (L 0 Z Z)) ?_
   refine U.p (v := .pointer (some ⟨b1, 1, none⟩)) Z Z (.inl Z) (S.fieldAddr Z (L 0 Z Z) Try.underlying46 Z ti43 Z Z) ?_
   refine U.k Z Z (.inl Z) (S.load Z (L 0 Z Z) Try.underlying43 Z ((ow22.own (k := 0) Z).cell Z)) (fun _ => (okH.nil (fun r h => by cases h; exact (ow22.own (k := 0) Z).lt))) ?_
   refine U.k Z Z (.inl Z) (S.loadB Z (L 6 Z Z) Try.underlying39 Z ti39 (ow22.own (k := 3) Z).get Z) (fun _ => (okH.cons trivial (okH.nil (fun r h => by cases h; exact (ow22.own (k := 3) Z).lt)))) ?_
   refine O.lit (R := RT_Tref16_Event) ow22 Z Z (.inl Z) Z Try.underlying43 ti39 Z Z Z (nr Z) Z (aC (L 0 Z Z) aN) (.cons _ _ p1 _ (by simp [topV]) Z .nil) (fun _ => (fun _ => (okH.cons trivial (okH.cons trivial (okH.nil (fun r h => nomatch h)))))) (fun v29 V30 le31 ow32 => ?_)
   obtain ⟨xs34, hx35, h36⟩ := bindS h28
   refine O.append (k := 2) ow32 Z Z Z (.inl Z) Z (L 2 Z Z) (L 0 Z Z) Try.underlying43 ti39 Z Z (nr Z) (ow32.src (k := 0) Z Try.underlying43) hx35 (fun V1 hs => (fun _ => (okH.cons (Or.inl Z) (okH.cons (Or.inl Z) (okH.cons (Or.inl Z) (okH.nil (fun r h => nomatch h))))))) (fun v37 V38 le39 ow40 => ?_)
   refine U.p Z Z (.inl Z) (S.nilCheck Z (L 7 Z Z)) ?_
   refine U.p (v := .pointer (some ⟨b1, 1, none⟩)) Z Z (.inl Z) (S.fieldAddr Z (L 0 Z Z) Try.underlying46 Z ti43 Z Z) ?_
   refine O.store (k := 1) (cs := [v37]) (c' := [.int .i64 p0.n, v37, v6]) ow40 Z Z Z (.inl Z) Z (L 0 Z Z) (L 2 Z Z) ti43 (ow40.osne (k := 2) Z) (by rw [ow40.oscells (k := 2) rfl]) Z (nr Z) (by have q0 := (ow40.osone (k := 2) Z); simp only [List.all_cons, List.all_nil, q0]; rfl) Z (fun _ => (okH.cons Z (okH.cons (Or.inl Z) (okH.cons (Or.inl Z) (okH.cons (Or.inl Z) (okH.nil (fun r h => nomatch h))))))) (fun V42 le43 ow44 => ?_)
   refine U.done (nr Z) ?_
   refine WP.usdreg Z Z Z ?_
   refine U.p Z Z (.inl Z) (S.move Z (L 10 Z Z)) ?_
   refine U.p Z Z (.inl Z) (S.nilCheck Z (L 0 Z Z)) ?_
   refine U.p (v := .pointer (some ⟨b1, 2, none⟩)) Z Z (.inl Z) (S.fieldAddr Z (L 0 Z Z) Try.underlying46 Z ti44 Z Z) ?_
   refine U.k Z Z (.inl Z) (S.load Z (L 0 Z Z) Try.underlying44 Z ((ow44.own (k := 1) Z).cell Z)) (fun _ => (okH.nil (fun r h => by cases h; exact (ow44.own (k := 1) Z).lt))) ?_
   refine U.p (v := .pointer (some ⟨b14, 0, none⟩)) Z Z (.inl Z) (S.fieldAddr Z (L 15 Z Z) Try.underlying39 Z ti3 Z Z) ?_
   refine U.k Z Z (.inl Z) (S.load Z (L 0 Z Z) Try.underlying3 Z ((ow44.own (k := 4) Z).cell Z)) (fun _ => (okH.cons trivial (okH.nil (fun r h => by cases h; exact (ow44.own (k := 4) Z).lt)))) ?_
   refine O.lit (R := (RT.int .i64)) ow44 Z Z (.inl Z) Z Try.underlying26 ti3 Z Z Z (nr Z) Z aN .nil (fun _ => (fun _ => (okH.cons trivial (okH.cons trivial (okH.nil (fun r h => nomatch h)))))) (fun v45 V46 le47 ow48 => ?_)
   refine U.p Z Z (.inl Z) (S.move Z (L 17 Z Z)) ?_
   refine U.p Z Z (.inl Z) (S.nilCheck Z (L 0 Z Z)) ?_
   refine U.p (v := .pointer (some ⟨b1, 2, none⟩)) Z Z (.inl Z) (S.fieldAddr Z (L 0 Z Z) Try.underlying46 Z ti44 Z Z) ?_
   refine U.k Z Z (.inl Z) (S.load Z (L 0 Z Z) Try.underlying44 Z ((ow48.own (k := 2) Z).cell Z)) (fun _ => (okH.cons trivial (okH.cons trivial (okH.cons trivial (okH.nil (fun r h => by cases h; exact (ow48.own (k := 2) Z).lt)))))) ?_
   refine U.p (v := .pointer (some ⟨b14, 0, none⟩)) Z Z (.inl Z) (S.fieldAddr Z (L 22 Z Z) Try.underlying39 Z ti3 Z Z) ?_
   refine U.k Z Z (.inl Z) (S.load Z (L 0 Z Z) Try.underlying3 Z ((ow48.own (k := 5) Z).cell Z)) (fun _ => (okH.cons trivial (okH.cons trivial (okH.cons trivial (okH.cons trivial (okH.nil (fun r h => by cases h; exact (ow48.own (k := 5) Z).lt))))))) ?_
   obtain ⟨x50, hx51, h52⟩ := bindS h36
   obtain ⟨b53, o54, n55, c56, hv57⟩ := ow48.sspt (k := 4) Z hx51
   refine U.p Z Z (.inl Z) (S.index Z ((L 2 Z Z).trans (ow48.sslen' (k := 4) Z hv57)) (L 0 Z Z) Try.underlying44 ti26 (ix_ge hx51) (ix_lt hx51)) ?_
   obtain ⟨h58, hh59, ow60⟩ := ow48.ssopen (k := 4) Z hx51
   have hcl62 := ow60.shcell (k := 5) Z hv57 hh59
   refine U.k Z Z (.inl Z) (S.load Z (L 0 Z Z) Try.underlying26 Z hcl62.2) (fun _ => (okH.cons trivial (okH.cons trivial (okH.cons trivial (okH.cons trivial (okH.cons trivial (okH.nil (fun r h => by cases h; exact hcl62.1)))))))) ?_
   obtain ⟨xs63, hx64, h65⟩ := bindS h52
   refine O.append (k := 1) ow60 Z Z Z (.inl Z) Z (L 8 Z Z) (L 0 Z Z) Try.underlying26 ti3 Z Z (nr Z) (ow60.src (k := 0) Z Try.underlying26) hx64 (fun V1 hs => (fun _ => (okH.cons (Or.inl Z) (okH.cons (Or.inl Z) (okH.cons (Or.inl Z) (okH.cons (Or.inl Z) (okH.cons (Or.inr (hs _ (ow60.own (k := 6) Z).lt (ow60.noos (j := 6) (k := 1) Z Z (by decide)))) (okH.cons (Or.inr (hs _ (ow60.own (k := 3) Z).lt (ow60.noos (j := 3) (k := 1) Z Z (by decide)))) (okH.nil (fun r h => nomatch h)))))))))) (fun v66 V67 le68 ow69 => ?_)
   refine U.p Z Z (.inl Z) (S.move Z (L 26 Z Z)) ?_
   refine U.p Z Z (.inl Z) (S.nilCheck Z (L 0 Z Z)) ?_
   refine U.p (v := .pointer (some ⟨b1, 1, none⟩)) Z Z (.inl Z) (S.fieldAddr Z (L 0 Z Z) Try.underlying46 Z ti43 Z Z) ?_
   refine U.k Z Z (.inl Z) (S.load Z (L 0 Z Z) Try.underlying43 Z ((ow69.own (k := 3) Z).cell Z)) (fun _ => (okH.cons (Or.inr (Or.inl ((ow69.own (k := 3) Z).get.trans (ow60.own (k := 3) Z).get.symm))) (okH.cons trivial (okH.cons trivial (okH.cons trivial (okH.cons trivial (okH.cons trivial (okH.cons trivial (okH.nil (fun r h => by cases h; exact (ow69.own (k := 3) Z).lt)))))))))) ?_
   refine U.p Z Z (.inl Z) (ow69.oslen (k := 4) Z Z (L 0 Z Z) Try.underlying43) ?_
   refine O.lit (R := (RT.int .i64)) ow69 Z Z (.inl Z) Z Try.underlying26 ti3 Z Z Z (nr Z) Z (aC (L 0 Z Z) aN) (.cons _ _ (xs34.length : Int) _ (by simp [topV]) Z .nil) (fun _ => (fun _ => (okH.cons trivial (okH.cons trivial (okH.cons trivial (okH.cons trivial (okH.cons trivial (okH.cons trivial (okH.cons trivial (okH.cons trivial (okH.nil (fun r h => nomatch h)))))))))))) (fun v71 V72 le73 ow74 => ?_)
   obtain ⟨xs76, hx77, h78⟩ := bindS h65
   refine O.append (k := 2) ow74 Z Z Z (.inl Z) Z (L 6 Z Z) (L 0 Z Z) Try.underlying26 ti3 Z Z (nr Z) (ow74.src (k := 0) Z Try.underlying26) hx77 (fun V1 hs => (fun _ => (okH.cons (Or.inl Z) (okH.cons (Or.inl Z) (okH.cons Z (okH.cons (Or.inl Z) (okH.cons (Or.inl Z) (okH.cons (Or.inl Z) (okH.cons (Or.inl Z) (okH.cons (Or.inr (hs _ (ow74.own (k := 7) Z).lt (ow74.noos (j := 7) (k := 2) Z Z (by decide)))) (okH.cons (Or.inr (hs _ (ow74.own (k := 4) Z).lt (ow74.noos (j := 4) (k := 2) Z Z (by decide)))) (okH.nil (fun r h => nomatch h))))))))))))) (fun v79 V80 le81 ow82 => ?_)
   obtain ⟨x84, hx85, h86⟩ := bindS h78
   refine U.p Z Z (.inl Z) (S.index Z ((L 19 Z Z).trans (ow82.shlen' (k := 6) Z hv57)) (L 17 Z Z) Try.underlying44 ti26 (ix_ge hx85) (ix_lt hx85)) ?_
   have ow87 := ow82.drop 1 Z
   refine O.storeH (k := 5) ow87 Z hv57 Z Z (.inl Z) Z (L 0 Z Z) (L 1 Z Z) ti26 (ow87.osne (k := 1) Z) (by rw [ow87.oscells (k := 1) rfl]) (ow87.osone (k := 1) Z) (fun H1 hs => (fun _ => (okH.cons Z (okH.cons (Or.inl Z) (okH.cons (Or.inl Z) (okH.cons Z (okH.cons (Or.inl Z) (okH.cons (Or.inl Z) (okH.cons (Or.inl Z) (okH.cons (Or.inl Z) (okH.cons (Or.inl Z) (okH.cons (Or.inl Z) (okH.nil (fun r h => nomatch h)))))))))))))) (fun V88 le89 ow90 => ?_)
   have hh91 := ow90.shset (k := 5) Z
   refine U.done (nr Z) ?_
   refine WP.usreg Z ?_
   refine U.p Z Z (.inl Z) (S.move Z (L 34 Z Z)) ?_
   refine U.p Z Z (.inl Z) (S.nilCheck Z (L 0 Z Z)) ?_
   refine U.p (v := .pointer (some ⟨b1, 1, none⟩)) Z Z (.inl Z) (S.fieldAddr Z (L 0 Z Z) Try.underlying46 Z ti43 Z Z) ?_
   refine U.k Z Z (.inl Z) (S.load Z (L 0 Z Z) Try.underlying43 Z ((ow90.own (k := 3) Z).cell Z)) nd ?_
   refine U.p Z Z (.inl Z) (ow90.oslen (k := 4) Z Z (L 0 Z Z) Try.underlying43) ?_
   refine U.p Z Z (.inl Z) (S.assign Z (L 0 Z Z)) ?_
   refine U.done (nr Z) ?_
   refine WP.ret ?_
   have ow92 := ow90.ssclose (k := 5) (j := 1) Z Z (by decide) hh91
   refine fin.slot (.inr Z) Z (L 0 Z Z) ⟨V88, Z, (((((((((le16.trans le21).trans le31).trans le39).trans le43).trans le47).trans le68).trans le73).trans le81).trans le89), ?_⟩
   have ow93 := ow92.drop 0 Z
   have ow94 := ow93.drop 0 Z
   have ow95 := ow94.drop 3 Z
   have e96 := Option.some.inj h86
   subst e96
   exact ⟨v37, v6, hs7.set (Int.toNat p1.thread) v79, Z, ow95⟩
 ·skip
  refine WP.udreg Z Z Z ?_
  refine U.p (v := .pointer (some ⟨b14, 0, none⟩)) Z Z (.inl Z) (S.fieldAddr Z (L 1 Z Z) Try.underlying39 Z ti3 Z Z) ?_
  refine U.k Z Z (.inl Z) (S.load Z (L 0 Z Z) Try.underlying3 Z ((ow17.own (k := 0) Z).cell Z)) (fun _ => (okH.nil (fun r h => by cases h; exact (ow17.own (k := 0) Z).lt))) ?_
  refine U.p Z Z (.inl Z) (S.lss Z (L 0 Z Z) K) ?_
  refine U.p Z Z (.inl Z) (S.move Z (L 0 Z Z)) ?_
  refine bcase (b := decide (p1.thread < 0)) (fun g97 => ?_) (fun g97 => ?_)
  ·have h98 := ifT g97 h
   refine U.x Z Z Z Z ((L 0 Z Z).trans (cB g97)) (by decide) ?_
   refine U.x Z Z Z Z ((L 1 Z Z).trans (cB g97)) (by decide) ?_
   refine U.x Z Z Z Z ((L 2 Z Z).trans (cB g97)) (by decide) ?_
   refine U.x Z Z Z Z ((L 3 Z Z).trans (cB g97)) (by decide) ?_
   refine U.x Z Z Z Z ((L 4 Z Z).trans (cB g97)) (by decide) ?_
   refine U.x Z Z Z Z ((L 5 Z Z).trans (cB g97)) (by decide) ?_
   refine U.x Z Z Z Z ((L 6 Z Z).trans (cB g97)) (by decide) ?_
   refine U.p Z Z (.inl Z) (S.pickT Z ((L 7 Z Z).trans (cB g97)) K) ?_
   refine U.done (nr Z) ?_
   refine sqN ?_
   have ow99 := ow17.pick 0 Z
   have ow100 := ow99.pick 3 Z
   have ow101 := ow100.pick 3 Z
   have ow102 := ow101.pick 3 Z
   exact ⟨_, V15, Z, ⟨true, Z, (.refl _), ow102, h98⟩, (allCons (L 14 Z Z) (allCons (L 13 Z Z) (allCons (L 0 Z Z) allNil)))⟩
  ·have h103 := ifF g97 h
   refine U.p (v := .pointer (some ⟨b14, 0, none⟩)) Z Z (.inr ⟨_, _, _, Z, Z, ((L 0 Z Z).trans (cB g97))⟩) (S.fieldAddr Z (L 5 Z Z) Try.underlying39 Z ti3 Z Z) ?_
   refine U.k Z Z (.inr ⟨_, _, _, Z, Z, ((L 1 Z Z).trans (cB g97))⟩) (S.load Z (L 0 Z Z) Try.underlying3 Z ((ow17.own (k := 0) Z).cell Z)) (fun _ => (okH.cons trivial (okH.nil (fun r h => by cases h; exact (ow17.own (k := 0) Z).lt)))) ?_
   refine U.p Z Z (.inr ⟨_, _, _, Z, Z, ((L 2 Z Z).trans (cB g97))⟩) (S.move Z (L 8 Z Z)) ?_
   refine U.p Z Z (.inr ⟨_, _, _, Z, Z, ((L 3 Z Z).trans (cB g97))⟩) (S.nilCheck Z (L 0 Z Z)) ?_
   refine U.p (v := .pointer (some ⟨b1, 0, none⟩)) Z Z (.inr ⟨_, _, _, Z, Z, ((L 4 Z Z).trans (cB g97))⟩) (S.fieldAddr Z (L 0 Z Z) Try.underlying46 Z ti3 Z Z) ?_
   refine U.k Z Z (.inr ⟨_, _, _, Z, Z, ((L 5 Z Z).trans (cB g97))⟩) (S.load Z (L 0 Z Z) Try.underlying3 Z ((ow17.own (k := 1) Z).cell Z)) (fun _ => (okH.cons trivial (okH.cons trivial (okH.nil (fun r h => by cases h; exact (ow17.own (k := 1) Z).lt))))) ?_
   refine U.p Z Z (.inr ⟨_, _, _, Z, Z, ((L 6 Z Z).trans (cB g97))⟩) (S.geq Z (L 4 Z Z) (L 0 Z Z)) ?_
   refine U.p Z Z (.inl Z) (S.pickF Z ((L 7 Z Z).trans (cB g97)) (L 0 Z Z)) ?_
   refine U.done (nr Z) ?_
   refine sqN ?_
   have ow104 := ow17.pick 0 Z
   have ow105 := ow104.pick 3 Z
   have ow106 := ow105.pick 3 Z
   have ow107 := ow106.pick 3 Z
   exact ⟨_, V15, Z, ⟨decide (p0.n ≤ p1.thread), Z, (.refl _), ow107, h103⟩, (allCons (L 14 Z Z) (allCons (L 13 Z Z) (allCons (L 0 Z Z) allNil)))⟩
theorem wk_storage_Storage_Barrier (V : Vw) (Rs : List At) (p0 : Tstorage_Storage) (p1 : Int) (b1 : Nat) (z2 : Nat) (v4 : Value) (v6 : Value) (hs7 : List Value) (v9 : Value) (hs10 : List Value) (v12 : Value) (hs13 : List Value) (v15 : Value) (ow : Ow V (.pt b1 (.cells z2 [v4, v6, v9, v12, v15]) :: .os RT_Tref16_Event v4 p0.events :: .oss (RO.os (RT.int .i64)) v6 hs7 p0.seen :: .oss (RO.om RT.bool false) v9 hs10 p0.has :: .oss (RO.om (RT.int .i64) false) v12 hs13 p0.now :: .om (RT.int .i64) false v15 p0.last :: Rs)) (r : Int × Tstorage_Storage) (h : storage_Storage_Barrier p0 p1 = some r) : ∃ v V', Cl Try.prog 0 17 #[.pointer (some ⟨b1, 0, none⟩), .int .i64 p1] V.H v V'.H ∧ V.le V' ∧ (∃ (v17 : Value) (v19 : Value) (hs20 : List Value) (v22 : Value) (hs23 : List Value) (v25 : Value) (hs26 : List Value) (v28 : Value), v = .int .i64 r.1 ∧ Ow V' (.pt b1 (.cells z2 [v17, v19, v22, v25, v28]) :: .os RT_Tref16_Event v17 r.2.events :: .oss (RO.os (RT.int .i64)) v19 hs20 r.2.seen :: .oss (RO.om RT.bool false) v22 hs23 r.2.has :: .oss (RO.om (RT.int .i64) false) v25 hs26 r.2.now :: .om (RT.int .i64) false v28 r.2.last :: Rs)) := by
 refine Ct.of (Nat.zero_le _) Try.func17 Z (nr Z) ?_
 unfold storage_Storage_Barrier at h
 refine WP.usreg Z ?_
 refine U.p Z Z (.inl Z) (S.assign Z K) ?_
 refine U.done (nr Z) ?_
 refine WP.seq ?_
 refine WP.usreg Z ?_
 refine U.p Z Z (.inl Z) (S.move Z (L 1 Z Z)) ?_
 refine U.p Z Z (.inl Z) (S.move Z (L 3 Z Z)) ?_
 have ow30 := ow.pick 5 Z
 have ow31 := ow30.pick 5 Z
 have ow32 := ow31.pick 5 Z
 have ow33 := ow32.pick 5 Z
 have ow34 := ow33.pick 5 Z
 have ow35 := ow34.pick 5 Z
 obtain ⟨x36, hx37, h38⟩ := bindS h
 refine O.call (V := V) Z Z (.inl Z) Z en29 (aC (L 1 Z Z) (aC (L 0 Z Z) aN)) (wk_storage_Storage_thread V _ p0 p1 b1 z2 v4 v6 hs7 v9 hs10 v12 hs13 v15 ow35 _ hx37) (fun _ _ _ _ => nd) (fun v39 V40 le41 hp42 => ?_)
 obtain ⟨rfl, ow43⟩ := hp42
 refine U.p Z Z (.inl Z) (S.not Z (L 0 Z Z)) ?_
 refine U.done (nr Z) ?_
 refine WP.cond _ (L 0 Z Z) Z (fun c44 => ?_) (fun c44 => ?_)
 ·have h45 := ifT c44 h38
  have k46 : x36 = false := nT c44
  refine WP.usreg Z ?_
  refine U.p Z Z (.inl Z) (S.assign Z K) ?_
  refine U.done (nr Z) ?_
  refine WP.ret ?_
  refine sqR ?_
  refine fin.slot (.inr Z) Z (L 0 Z Z) ⟨V40, Z, le41, ?_⟩
  have e47 := Option.some.inj h45
  subst e47
  exact ⟨v4, v6, hs7, v9, hs10, v12, hs13, v15, Z, ow43⟩
 ·have h48 := ifF c44 h38
  have k49 : x36 = true := nF c44
  refine WP.skip ?_
  refine sqN ?_
  refine WP.usreg Z ?_
  refine U.p Z Z (.inl Z) (S.move Z (L 5 Z Z)) ?_
  refine U.p Z Z (.inl Z) (S.move Z (L 7 Z Z)) ?_
  refine U.p (v := .agg #[.int .i64 p1, .bool true, .int .i64 0, .int .i64 0]) Z Z (.inl Z) (S.build (vs := [.int .i64 p1, .bool true]) Z ti55 Z pl55 (aC (L 0 Z Z) (aC K aN)) (allC (by simp [topV]) (allC (by simp [topV]) allN)) Z) ?_
  have ow50 := ow43.pick 5 Z
  have ow51 := ow50.pick 5 Z
  have ow52 := ow51.pick 5 Z
  have ow53 := ow52.pick 5 Z
  have ow54 := ow53.pick 5 Z
  have ow55 := ow54.pick 5 Z
  obtain ⟨x56, hx57, h58⟩ := bindS h48
  refine O.call (V := V40) Z Z (.inl Z) Z en30 (aC (L 2 Z Z) (aC (L 0 Z Z) aN)) (wk_storage_Storage_accept V40 _ p0 (⟨p1, true, 0, 0⟩ : Tref16_Event) b1 z2 v4 v6 hs7 v9 hs10 v12 hs13 v15 ow55 _ hx57) (fun _ _ _ _ => nd) (fun v59 V60 le61 hp62 => ?_)
  obtain ⟨v64, v66, hs67, v69, hs70, v72, hs73, v75, rfl, ow63⟩ := hp62
  refine U.p Z Z (.inl Z) (S.assign Z (L 0 Z Z)) ?_
  refine U.done (nr Z) ?_
  refine WP.ret ?_
  refine fin.slot (.inr Z) Z (L 0 Z Z) ⟨V60, Z, (le41.trans le61), ?_⟩
  have e77 := Option.some.inj h58
  subst e77
  exact ⟨v64, v66, hs67, v69, hs70, v72, hs73, v75, Z, ow63⟩
theorem wk_ref16_Storage_Has (V : Vw) (Rs : List At) (p0 : Tref16_Storage) (p1 : Int) (p2 : Int) (b1 : Nat) (z2 : Nat) (v4 : Value) (v6 : Value) (hs7 : List Value) (ow : Ow V (.pt b1 (.cells z2 [.int .i64 p0.n, v4, v6]) :: .os RT_Tref16_Event v4 p0.e :: .oss (RO.os (RT.int .i64)) v6 hs7 p0.come :: Rs)) (r : Bool) (h : ref16_Storage_Has p0 p1 p2 = some r) : ∃ v V', Cl Try.prog 0 35 #[.pointer (some ⟨b1, 0, none⟩), .int .i64 p1, .int .i64 p2] V.H v V'.H ∧ V.le V' ∧ (v = .bool r ∧ Ow V' (.pt b1 (.cells z2 [.int .i64 p0.n, v4, v6]) :: .os RT_Tref16_Event v4 p0.e :: .oss (RO.os (RT.int .i64)) v6 hs7 p0.come :: Rs)) := by
 refine Ct.of (Nat.zero_le _) Try.func35 Z (nr Z) ?_
 unfold ref16_Storage_Has at h
 refine WP.usreg Z ?_
 refine U.p Z Z (.inl Z) (S.assign Z K) ?_
 refine U.done (nr Z) ?_
 refine WP.seq ?_
 refine WP.usreg Z ?_
 refine U.p Z Z (.inl Z) (S.move Z (L 2 Z Z)) ?_
 refine U.p Z Z (.inl Z) (S.lss Z (L 0 Z Z) K) ?_
 refine U.p Z Z (.inl Z) (S.move Z (L 0 Z Z)) ?_
 refine U.joinX 10 (fun e H => ∃ (u9 u10 u11 u12 u13 u14 : Value), H = V.H ∧ e = [(18, .bool ((decide (p1 < 0)) || (decide (p0.n ≤ p1)))), (17, u9), (16, u10), (15, u11), (14, u12), (13, u13), (12, u14)]) ?_ ?_
 ·rintro _ _ ⟨u9, u10, u11, u12, u13, u14, rfl, rfl⟩
  refine U.done (nr Z) ?_
  refine WP.cond _ (L 0 Z Z) Z (fun c18 => ?_) (fun c18 => ?_)
  ·have h19 := ifT c18 h
   refine WP.usreg Z ?_
   refine U.p Z Z (.inl Z) (S.assign Z K) ?_
   refine U.done (nr Z) ?_
   refine WP.ret ?_
   refine sqR ?_
   refine fin.slot (.inr Z) Z (L 0 Z Z) ⟨V, Z, (.refl _), ?_⟩
   have e20 := Option.some.inj h19
   subst e20
   exact ⟨rfl, ow⟩
  ·have h21 := ifF c18 h
   refine WP.skip ?_
   refine sqN ?_
   refine WP.seq ?_
   refine WP.usreg Z ?_
   refine U.p Z Z (.inl Z) (S.move Z (L 11 Z Z)) ?_
   refine U.p Z Z (.inl Z) (S.nilCheck Z (L 0 Z Z)) ?_
   refine U.p (v := .pointer (some ⟨b1, 2, none⟩)) Z Z (.inl Z) (S.fieldAddr Z (L 0 Z Z) Try.underlying46 Z ti44 Z Z) ?_
   refine U.k Z Z (.inl Z) (S.load Z (L 0 Z Z) Try.underlying44 Z ((ow.own (k := 0) Z).cell Z)) nd ?_
   refine U.p Z Z (.inl Z) (S.move Z (L 16 Z Z)) ?_
   obtain ⟨x22, hx23, h24⟩ := bindS h21
   obtain ⟨b25, o26, n27, c28, hv29⟩ := ow.sspt (k := 2) Z hx23
   refine U.p Z Z (.inl Z) (S.index Z ((L 1 Z Z).trans (ow.sslen' (k := 2) Z hv29)) (L 0 Z Z) Try.underlying44 ti26 (ix_ge hx23) (ix_lt hx23)) ?_
   obtain ⟨h30, hh31, ow32⟩ := ow.ssopen (k := 2) Z hx23
   have hcl34 := ow32.shcell (k := 3) Z hv29 hh31
   refine U.k Z Z (.inl Z) (S.load Z (L 0 Z Z) Try.underlying26 Z hcl34.2) nd ?_
   refine U.p Z Z (.inl Z) (ow32.oslen (k := 0) Z Z (L 0 Z Z) Try.underlying26) ?_
   refine U.p Z Z (.inl Z) (S.move Z K) ?_
   refine U.done (nr Z) ?_
   refine WP.blk ?_
   have ow35 := ow32.ssclose' (k := 3) (j := 0) Z Z (by decide) hh31 hx23
   unfold ref16_Storage_Has_l1 at h24
   obtain ⟨n38, hn37⟩ := loopO_some.1 h24
   refine WP.loopI2 (fun n l V' => ∃ (x36 : Int), l = [(2, .int .i64 p2), (25, h30), (26, .int .i64 (x22.length : Int)), (27, .int .i64 x36)] ∧ V.le V' ∧ Ow V' (.pt b1 (.cells z2 [.int .i64 p0.n, v4, v6]) :: .os RT_Tref16_Event v4 p0.e :: .oss (RO.os (RT.int .i64)) v6 hs7 p0.come :: Rs) ∧ itO (fun s => ref16_Storage_Has_l1b p0 p1 p2 x22 s) n x36 = some r) n38 _ ⟨0, Z, .refl _, ow35, hn37⟩ (allCons (L 22 Z Z) (allCons (L 2 Z Z) (allCons (L 1 Z Z) (allCons (L 0 Z Z) allNil)))) ?_
   rintro _ _ V39 ⟨x36, rfl, le40, ow41, h45⟩
   obtain ⟨m42, q43, rfl, h46, e44⟩ := itS h45
   replace h46 : ref16_Storage_Has_l1b p0 p1 p2 x22 x36 = some q43 := h46
   unfold ref16_Storage_Has_l1b at h46
   refine WP.usreg Z ?_
   refine U.p Z Z (.inl Z) (S.lss Z (L 3 Z Z) (L 2 Z Z)) ?_
   refine U.done (nr Z) ?_
   refine WP.seq ?_
   refine WP.cond _ (L 0 Z Z) Z (fun c47 => ?_) (fun c47 => ?_)
   ·have h48 := ifT c47 h46
    refine WP.skip ?_
    refine sqN ?_
    refine WP.seq ?_
    refine WP.blk ?_
    refine WP.usreg Z ?_
    obtain ⟨x49, hx50, h51⟩ := bindS h48
    obtain ⟨h52, hh53, ow54⟩ := ow41.ssopen (k := 2) Z hx50
    obtain rfl : h52 = h30 := Option.some.inj (hh53.symm.trans hh31)
    obtain ⟨x56, hx57, h58⟩ := bindS h51
    obtain ⟨b59, o60, n61, c62, hv63⟩ := ow54.ospt (k := 0) Z hx57
    obtain ⟨_, hv64, _⟩ := ow54.osel (k := 0) Z hv63 hx57
    refine U.p Z Z (.inl Z) (S.index Z ((L 2 Z Z).trans hv64) (L 4 Z Z) Try.underlying26 ti3 (ix_ge hx57) (ix_lt hx57)) ?_
    obtain ⟨cs65, hv66, hlt67, hr68, hc69⟩ := ow54.osel (k := 0) Z hv63 hx57
    obtain rfl : cs65 = [.int .i64 x56] := hr68
    refine U.k Z Z (.inl Z) (S.load Z (L 0 Z Z) Try.underlying3 Z (hc69 0 _ Z)) nd ?_
    refine U.p Z Z (.inl Z) (S.assign Z (L 0 Z Z)) ?_
    refine U.done (nr Z) ?_
    refine WP.usreg Z ?_
    refine U.p Z Z (.inl Z) (S.move Z (L 0 Z Z)) ?_
    refine U.p Z Z (.inl Z) (S.move Z (L 5 Z Z)) ?_
    refine U.p Z Z (.inl Z) (S.eqlI Z (L 1 Z Z) (L 0 Z Z)) ?_
    refine U.done (nr Z) ?_
    refine WP.cond _ (L 0 Z Z) Z (fun c70 => ?_) (fun c70 => ?_)
    ·have h71 := ifT c70 h58
     refine WP.usreg Z ?_
     refine U.p Z Z (.inl Z) (S.assign Z K) ?_
     refine U.done (nr Z) ?_
     refine WP.ret ?_
     refine blkR (sqR (sqR (blkR (sqR ?_))))
     have h72 := exitS h71 e44
     have ow73 := ow54.ssclose' (k := 3) (j := 0) Z Z (by decide) hh31 hx50
     refine fin.slot (.inr Z) Z (L 0 Z Z) ⟨V39, Z, le40, ?_⟩
     have e74 := Option.some.inj h72
     subst e74
     exact ⟨rfl, ow73⟩
    ·have h75 := ifF c70 h58
     refine WP.skip ?_
     refine blkN (sqN ?_)
     refine WP.ureg Z ?_
     refine U.p Z Z (.inl Z) (S.add Z (L 10 Z Z) K) ?_
     refine U.p Z Z (.inl Z) (S.move Z (L 0 Z Z)) ?_
     refine U.done (nr Z) ?_
     refine sqN ?_
     have ow76 := ow54.ssclose' (k := 3) (j := 0) Z Z (by decide) hh31 hx50
     exact ⟨_, V39, Z, ⟨m42, Nat.lt_succ_self _, w64 (x36 + 1), Z, le40, ow76, backS h75 e44⟩, (allCons (L 9 Z Z) (allCons (L 10 Z Z) (allCons (L 11 Z Z) (allCons (L 0 Z Z) allNil))))⟩
   ·have h77 := ifF c47 h46
    refine WP.exit ?_
    refine sqE (sqE (blkE (sqN ?_)))
    have h78 := exitS h77 e44
    refine WP.usreg Z ?_
    refine U.p Z Z (.inl Z) (S.assign Z K) ?_
    refine U.done (nr Z) ?_
    refine WP.ret ?_
    refine fin.slot (.inr Z) Z (L 0 Z Z) ⟨V39, Z, le40, ?_⟩
    have e79 := Option.some.inj h78
    subst e79
    exact ⟨rfl, ow41⟩
 ·intro kk
  refine bcase (b := decide (p1 < 0)) (fun g80 => ?_) (fun g80 => ?_)
  ·skip
   refine U.x Z Z Z Z ((L 0 Z Z).trans (cB g80)) (by decide) ?_
   refine U.x Z Z Z Z ((L 1 Z Z).trans (cB g80)) (by decide) ?_
   refine U.x Z Z Z Z ((L 2 Z Z).trans (cB g80)) (by decide) ?_
   refine U.x Z Z Z Z ((L 3 Z Z).trans (cB g80)) (by decide) ?_
   refine U.x Z Z Z Z ((L 4 Z Z).trans (cB g80)) (by decide) ?_
   refine U.x Z Z Z Z ((L 5 Z Z).trans (cB g80)) (by decide) ?_
   refine U.p Z Z (.inl Z) (S.pickT Z ((L 6 Z Z).trans (cB g80)) K) ?_
   exact kk [(18, .bool true), (17, .tuple #[]), (16, .tuple #[]), (15, .tuple #[]), (14, .tuple #[]), (13, .tuple #[]), (12, .tuple #[])] _ ⟨.tuple #[], .tuple #[], .tuple #[], .tuple #[], .tuple #[], .tuple #[], Z, (by rw [g80, Bool.true_or])⟩
  ·skip
   refine U.p Z Z (.inr ⟨_, _, _, Z, Z, ((L 0 Z Z).trans (cB g80))⟩) (S.move Z (L 5 Z Z)) ?_
   refine U.p Z Z (.inr ⟨_, _, _, Z, Z, ((L 1 Z Z).trans (cB g80))⟩) (S.move Z (L 5 Z Z)) ?_
   refine U.p Z Z (.inr ⟨_, _, _, Z, Z, ((L 2 Z Z).trans (cB g80))⟩) (S.nilCheck Z (L 0 Z Z)) ?_
   refine U.p (v := .pointer (some ⟨b1, 0, none⟩)) Z Z (.inr ⟨_, _, _, Z, Z, ((L 3 Z Z).trans (cB g80))⟩) (S.fieldAddr Z (L 0 Z Z) Try.underlying46 Z ti3 Z Z) ?_
   refine U.k Z Z (.inr ⟨_, _, _, Z, Z, ((L 4 Z Z).trans (cB g80))⟩) (S.load Z (L 0 Z Z) Try.underlying3 Z ((ow.own (k := 0) Z).cell Z)) nd ?_
   refine U.p Z Z (.inr ⟨_, _, _, Z, Z, ((L 5 Z Z).trans (cB g80))⟩) (S.geq Z (L 4 Z Z) (L 0 Z Z)) ?_
   refine U.p Z Z (.inl Z) (S.pickF Z ((L 6 Z Z).trans (cB g80)) (L 0 Z Z)) ?_
   exact kk [(18, .bool (decide (p0.n ≤ p1))), (17, .bool (decide (p0.n ≤ p1))), (16, .int .i64 p0.n), (15, .pointer (some ⟨b1, 0, none⟩)), (14, .pointer (some ⟨b1, 0, none⟩)), (13, .pointer (some ⟨b1, 0, none⟩)), (12, .int .i64 p1)] _ ⟨.bool (decide (p0.n ≤ p1)), .int .i64 p0.n, .pointer (some ⟨b1, 0, none⟩), .pointer (some ⟨b1, 0, none⟩), .pointer (some ⟨b1, 0, none⟩), .int .i64 p1, Z, (by rw [g80, Bool.false_or])⟩
theorem wk_ref16_Storage_passed (V : Vw) (Rs : List At) (p0 : Tref16_Storage) (p1 : Int) (p2 : Int) (b1 : Nat) (z2 : Nat) (v4 : Value) (v6 : Value) (hs7 : List Value) (ow : Ow V (.pt b1 (.cells z2 [.int .i64 p0.n, v4, v6]) :: .os RT_Tref16_Event v4 p0.e :: .oss (RO.os (RT.int .i64)) v6 hs7 p0.come :: Rs)) (r : Bool) (h : ref16_Storage_passed p0 p1 p2 = some r) : ∃ v V', Cl Try.prog 0 36 #[.pointer (some ⟨b1, 0, none⟩), .int .i64 p1, .int .i64 p2] V.H v V'.H ∧ V.le V' ∧ (v = .bool r ∧ Ow V' (.pt b1 (.cells z2 [.int .i64 p0.n, v4, v6]) :: .os RT_Tref16_Event v4 p0.e :: .oss (RO.os (RT.int .i64)) v6 hs7 p0.come :: Rs)) := by
 refine Ct.of (Nat.zero_le _) Try.func36 Z (nr Z) ?_
 unfold ref16_Storage_passed at h
 refine WP.usreg Z ?_
 refine U.p Z Z (.inl Z) (S.assign Z K) ?_
 refine U.done (nr Z) ?_
 refine WP.seq ?_
 refine WP.usreg Z ?_
 refine U.p Z Z (.inl Z) (S.move Z (L 3 Z Z)) ?_
 refine U.p Z Z (.inl Z) (S.assign Z (L 0 Z Z)) ?_
 refine U.done (nr Z) ?_
 refine WP.blk ?_
 unfold ref16_Storage_passed_l1 at h
 obtain ⟨n11, hn10⟩ := loopO_some.1 h
 refine WP.loopI2 (fun n l V' => ∃ (x9 : Int), l = [(0, .pointer (some ⟨b1, 0, none⟩)), (1, .int .i64 p1), (2, .int .i64 p2), (7, .int .i64 x9)] ∧ V.le V' ∧ Ow V' (.pt b1 (.cells z2 [.int .i64 p0.n, v4, v6]) :: .os RT_Tref16_Event v4 p0.e :: .oss (RO.os (RT.int .i64)) v6 hs7 p0.come :: Rs) ∧ itO (fun s => ref16_Storage_passed_l1b p0 p1 p2 s) n x9 = some r) n11 _ ⟨p2, Z, .refl _, ow, hn10⟩ (allCons (L 3 Z Z) (allCons (L 4 Z Z) (allCons (L 5 Z Z) (allCons (L 0 Z Z) allNil)))) ?_
 rintro _ _ V12 ⟨x9, rfl, le13, ow14, h18⟩
 obtain ⟨m15, q16, rfl, h19, e17⟩ := itS h18
 replace h19 : ref16_Storage_passed_l1b p0 p1 p2 x9 = some q16 := h19
 unfold ref16_Storage_passed_l1b at h19
 refine WP.seq ?_
 refine WP.usreg Z ?_
 refine U.p Z Z (.inl Z) (S.move Z (L 3 Z Z)) ?_
 refine U.p Z Z (.inl Z) (S.move Z (L 1 Z Z)) ?_
 refine U.p Z Z (.inl Z) (S.nilCheck Z (L 0 Z Z)) ?_
 refine U.p (v := .pointer (some ⟨b1, 1, none⟩)) Z Z (.inl Z) (S.fieldAddr Z (L 0 Z Z) Try.underlying46 Z ti43 Z Z) ?_
 refine U.k Z Z (.inl Z) (S.load Z (L 0 Z Z) Try.underlying43 Z ((ow14.own (k := 0) Z).cell Z)) nd ?_
 refine U.p Z Z (.inl Z) (ow14.oslen (k := 1) Z Z (L 0 Z Z) Try.underlying43) ?_
 refine U.p Z Z (.inl Z) (S.leq Z (L 5 Z Z) (L 0 Z Z)) ?_
 refine U.done (nr Z) ?_
 refine WP.cond _ (L 0 Z Z) Z (fun c20 => ?_) (fun c20 => ?_)
 ·have h21 := ifT c20 h19
  refine WP.skip ?_
  refine sqN ?_
  refine WP.seq ?_
  refine WP.blk ?_
  refine WP.seqI (fun l V' => ∃ (x22 : Bool), l = [(0, .pointer (some ⟨b1, 0, none⟩)), (1, .int .i64 p1), (2, .int .i64 p2), (7, .int .i64 x9), (54, .bool x22)] ∧ V12.le V' ∧ Ow V' (.pt b1 (.cells z2 [.int .i64 p0.n, v4, v6]) :: .os RT_Tref16_Event v4 p0.e :: .oss (RO.os (RT.int .i64)) v6 hs7 p0.come :: Rs) ∧ ref16_Storage_passed_k1 x9 x22 = some q16) ?_ ?_
  ·rintro _ V23 ⟨x22, rfl, le24, ow25, h26⟩
   unfold ref16_Storage_passed_k1 at h26
   refine WP.cond _ (L 4 Z Z) Z (fun c27 => ?_) (fun c27 => ?_)
   ·have h28 := ifT c27 h26
    refine WP.usreg Z ?_
    refine U.p Z Z (.inl Z) (S.assign Z K) ?_
    refine U.done (nr Z) ?_
    refine WP.ret ?_
    refine blkR (sqR (sqR (blkR (sqR ?_))))
    have h29 := exitS h28 e17
    refine fin.slot (.inr Z) Z (L 0 Z Z) ⟨V23, Z, (le13.trans le24), ?_⟩
    have e30 := Option.some.inj h29
    subst e30
    exact ⟨rfl, ow25⟩
   ·have h31 := ifF c27 h26
    refine WP.skip ?_
    refine blkN (sqN ?_)
    refine WP.ureg Z ?_
    refine U.p Z Z (.inl Z) (S.move Z (L 3 Z Z)) ?_
    refine U.p Z Z (.inl Z) (S.add Z (L 0 Z Z) K) ?_
    refine U.p Z Z (.inl Z) (S.assign Z (L 0 Z Z)) ?_
    refine U.done (nr Z) ?_
    refine sqN ?_
    exact ⟨_, V23, Z, ⟨m15, Nat.lt_succ_self _, w64 (x9 + 1), Z, (le13.trans le24), ow25, backS h31 e17⟩, (allCons (L 3 Z Z) (allCons (L 4 Z Z) (allCons (L 5 Z Z) (allCons (L 0 Z Z) allNil))))⟩
  ·skip
   refine WP.udreg Z Z Z ?_
   refine U.p Z Z (.inl Z) (S.move Z (L 7 Z Z)) ?_
   refine U.p Z Z (.inl Z) (S.nilCheck Z (L 0 Z Z)) ?_
   refine U.p (v := .pointer (some ⟨b1, 1, none⟩)) Z Z (.inl Z) (S.fieldAddr Z (L 0 Z Z) Try.underlying46 Z ti43 Z Z) ?_
   refine U.k Z Z (.inl Z) (S.load Z (L 0 Z Z) Try.underlying43 Z ((ow14.own (k := 0) Z).cell Z)) (fun _ => (okH.nil (fun r h => by cases h; exact (ow14.own (k := 0) Z).lt))) ?_
   refine U.p Z Z (.inl Z) (S.move Z (L 14 Z Z)) ?_
   refine U.p Z Z (.inl Z) (S.sub Z (L 0 Z Z) K) ?_
   obtain ⟨x32, hx33, h34⟩ := bindS h21
   obtain ⟨b35, o36, n37, c38, hv39⟩ := ow14.ospt (k := 1) Z hx33
   obtain ⟨_, hv40, _⟩ := ow14.osel (k := 1) Z hv39 hx33
   refine U.p Z Z (.inl Z) (S.index Z ((L 2 Z Z).trans hv40) (L 0 Z Z) Try.underlying43 ti39 (ix_ge hx33) (ix_lt hx33)) ?_
   refine U.p (v := .pointer (some ⟨b35, o36 + Int.toNat (w64 (x9 - 1)) * 4 + 1, none⟩)) Z Z (.inl Z) (S.fieldAddr Z (L 0 Z Z) Try.underlying39 Z ti4 Z Z) ?_
   obtain ⟨cs41, hv42, hlt43, hr44, hc45⟩ := ow14.osel (k := 1) Z hv39 hx33
   obtain rfl : cs41 = [.int .i64 x32.thread, .bool x32.bar, .int .i64 x32.at_, .int .i64 x32.val] := hr44
   refine U.k Z Z (.inl Z) (S.load Z (L 0 Z Z) Try.underlying4 Z (hc45 1 _ Z)) (fun _ => (okH.cons trivial (okH.nil (fun r h => by cases h; exact hlt43)))) ?_
   refine U.p Z Z (.inl Z) (S.not Z (L 0 Z Z)) ?_
   refine U.p Z Z (.inl Z) (S.move Z (L 0 Z Z)) ?_
   refine bcase (b := !x32.bar) (fun g46 => ?_) (fun g46 => ?_)
   ·have h47 := ifT g46 h34
    have k48 : x32.bar = false := nT g46
    refine U.p Z Z (.inr ⟨_, _, _, Z, Z, ((L 0 Z Z).trans (cB g46))⟩) (S.move Z (L 18 Z Z)) ?_
    refine U.p Z Z (.inr ⟨_, _, _, Z, Z, ((L 1 Z Z).trans (cB g46))⟩) (S.nilCheck Z (L 0 Z Z)) ?_
    refine U.p (v := .pointer (some ⟨b1, 1, none⟩)) Z Z (.inr ⟨_, _, _, Z, Z, ((L 2 Z Z).trans (cB g46))⟩) (S.fieldAddr Z (L 0 Z Z) Try.underlying46 Z ti43 Z Z) ?_
    refine U.k Z Z (.inr ⟨_, _, _, Z, Z, ((L 3 Z Z).trans (cB g46))⟩) (S.load Z (L 0 Z Z) Try.underlying43 Z ((ow14.own (k := 0) Z).cell Z)) (fun _ => (okH.cons trivial (okH.cons trivial (okH.nil (fun r h => by cases h; exact (ow14.own (k := 0) Z).lt))))) ?_
    refine U.p Z Z (.inr ⟨_, _, _, Z, Z, ((L 4 Z Z).trans (cB g46))⟩) (S.move Z (L 25 Z Z)) ?_
    refine U.p Z Z (.inr ⟨_, _, _, Z, Z, ((L 5 Z Z).trans (cB g46))⟩) (S.sub Z (L 0 Z Z) K) ?_
    obtain ⟨x49, hx50, h51⟩ := bindS h47
    obtain ⟨_, hv52, _⟩ := ow14.osel (k := 1) Z hv39 hx50
    refine U.p Z Z (.inr ⟨_, _, _, Z, Z, ((L 6 Z Z).trans (cB g46))⟩) (S.index Z ((L 2 Z Z).trans hv52) (L 0 Z Z) Try.underlying43 ti39 (ix_ge hx50) (ix_lt hx50)) ?_
    refine U.p (v := .pointer (some ⟨b35, o36 + Int.toNat (w64 (x9 - 1)) * 4 + 2, none⟩)) Z Z (.inr ⟨_, _, _, Z, Z, ((L 7 Z Z).trans (cB g46))⟩) (S.fieldAddr Z (L 0 Z Z) Try.underlying39 Z ti3 Z Z) ?_
    obtain ⟨cs53, hv54, hlt55, hr56, hc57⟩ := ow14.osel (k := 1) Z hv39 hx50
    obtain rfl : cs53 = [.int .i64 x49.thread, .bool x49.bar, .int .i64 x49.at_, .int .i64 x49.val] := hr56
    refine U.k Z Z (.inr ⟨_, _, _, Z, Z, ((L 8 Z Z).trans (cB g46))⟩) (S.load Z (L 0 Z Z) Try.underlying3 Z (hc57 2 _ Z)) (fun _ => (okH.cons trivial (okH.cons trivial (okH.cons trivial (okH.nil (fun r h => by cases h; exact hlt55)))))) ?_
    refine U.p Z Z (.inr ⟨_, _, _, Z, Z, ((L 9 Z Z).trans (cB g46))⟩) (S.move Z (L 27 Z Z)) ?_
    refine U.p Z Z (.inr ⟨_, _, _, Z, Z, ((L 10 Z Z).trans (cB g46))⟩) (S.nilCheck Z (L 0 Z Z)) ?_
    refine U.p (v := .pointer (some ⟨b1, 1, none⟩)) Z Z (.inr ⟨_, _, _, Z, Z, ((L 11 Z Z).trans (cB g46))⟩) (S.fieldAddr Z (L 0 Z Z) Try.underlying46 Z ti43 Z Z) ?_
    refine U.k Z Z (.inr ⟨_, _, _, Z, Z, ((L 12 Z Z).trans (cB g46))⟩) (S.load Z (L 0 Z Z) Try.underlying43 Z ((ow14.own (k := 0) Z).cell Z)) (fun _ => (okH.cons trivial (okH.cons trivial (okH.cons trivial (okH.cons trivial (okH.nil (fun r h => by cases h; exact (ow14.own (k := 0) Z).lt))))))) ?_
    refine U.p Z Z (.inr ⟨_, _, _, Z, Z, ((L 13 Z Z).trans (cB g46))⟩) (S.move Z (L 33 Z Z)) ?_
    refine U.p Z Z (.inr ⟨_, _, _, Z, Z, ((L 14 Z Z).trans (cB g46))⟩) (S.sub Z (L 0 Z Z) K) ?_
    obtain ⟨x58, hx59, h60⟩ := bindS h51
    obtain ⟨_, hv61, _⟩ := ow14.osel (k := 1) Z hv39 hx59
    refine U.p Z Z (.inr ⟨_, _, _, Z, Z, ((L 15 Z Z).trans (cB g46))⟩) (S.index Z ((L 2 Z Z).trans hv61) (L 0 Z Z) Try.underlying43 ti39 (ix_ge hx59) (ix_lt hx59)) ?_
    refine U.p (v := .pointer (some ⟨b35, o36 + Int.toNat (w64 (p2 - 1)) * 4 + 2, none⟩)) Z Z (.inr ⟨_, _, _, Z, Z, ((L 16 Z Z).trans (cB g46))⟩) (S.fieldAddr Z (L 0 Z Z) Try.underlying39 Z ti3 Z Z) ?_
    obtain ⟨cs62, hv63, hlt64, hr65, hc66⟩ := ow14.osel (k := 1) Z hv39 hx59
    obtain rfl : cs62 = [.int .i64 x58.thread, .bool x58.bar, .int .i64 x58.at_, .int .i64 x58.val] := hr65
    refine U.k Z Z (.inr ⟨_, _, _, Z, Z, ((L 17 Z Z).trans (cB g46))⟩) (S.load Z (L 0 Z Z) Try.underlying3 Z (hc66 2 _ Z)) (fun _ => (okH.cons trivial (okH.cons trivial (okH.cons trivial (okH.cons trivial (okH.cons trivial (okH.nil (fun r h => by cases h; exact hlt64)))))))) ?_
    refine U.p Z Z (.inr ⟨_, _, _, Z, Z, ((L 18 Z Z).trans (cB g46))⟩) (S.eqlI Z (L 9 Z Z) (L 0 Z Z)) ?_
    refine U.p Z Z (.inl Z) (S.pickT Z ((L 19 Z Z).trans (cB g46)) (L 0 Z Z)) ?_
    refine U.p Z Z (.inl Z) (S.move Z (L 0 Z Z)) ?_
    refine bcase (b := decide (x49.at_ = x58.at_)) (fun g67 => ?_) (fun g67 => ?_)
    ·have h68 := ifT g67 h60
     refine U.p Z Z (.inr ⟨_, _, _, Z, Z, ((L 0 Z Z).trans (cB g67))⟩) (S.move Z (L 39 Z Z)) ?_
     refine U.p Z Z (.inr ⟨_, _, _, Z, Z, ((L 1 Z Z).trans (cB g67))⟩) (S.move Z (L 41 Z Z)) ?_
     refine U.p Z Z (.inr ⟨_, _, _, Z, Z, ((L 2 Z Z).trans (cB g67))⟩) (S.move Z (L 44 Z Z)) ?_
     have ow69 := ow14.pick 2 Z
     have ow70 := ow69.pick 2 Z
     have ow71 := ow70.pick 2 Z
     obtain ⟨x72, hx73, h74⟩ := bindS h68
     refine O.call (V := V12) Z Z (.inr ⟨_, _, _, Z, Z, ((L 3 Z Z).trans (cB g67))⟩) Z en35 (aC (L 2 Z Z) (aC (L 1 Z Z) (aC (L 0 Z Z) aN))) (wk_ref16_Storage_Has V12 _ p0 p1 x9 b1 z2 v4 v6 hs7 ow71 _ hx73) (fun v75 V76 le77 hp78 => by obtain ⟨rfl, ow79⟩ := hp78; exact (fun _ => (okH.cons (Or.inl Z) (okH.cons (Or.inl Z) (okH.cons (Or.inl Z) (okH.cons (Or.inl Z) (okH.cons (Or.inl Z) (okH.cons (Or.inl Z) (okH.nil (fun r h => nomatch h)))))))))) (fun v75 V76 le77 hp78 => ?_)
     obtain ⟨rfl, ow79⟩ := hp78
     refine U.p Z Z (.inl Z) (S.pickT Z ((L 4 Z Z).trans (cB g67)) (L 0 Z Z)) ?_
     refine U.done (nr Z) ?_
     refine sqN ?_
     exact ⟨_, V76, Z, ⟨x72, Z, le77, ow79, h74⟩, (allCons (L 44 Z Z) (allCons (L 45 Z Z) (allCons (L 46 Z Z) (allCons (L 47 Z Z) (allCons (L 0 Z Z) allNil)))))⟩
    ·have h80 := ifF g67 h60
     refine U.x Z Z Z Z ((L 0 Z Z).trans (cB g67)) (by decide) ?_
     refine U.x Z Z Z Z ((L 1 Z Z).trans (cB g67)) (by decide) ?_
     refine U.x Z Z Z Z ((L 2 Z Z).trans (cB g67)) (by decide) ?_
     refine U.x Z Z Z Z ((L 3 Z Z).trans (cB g67)) (by decide) ?_
     refine U.p Z Z (.inl Z) (S.pickF Z ((L 4 Z Z).trans (cB g67)) K) ?_
     refine U.done (nr Z) ?_
     refine sqN ?_
     exact ⟨_, V12, Z, ⟨false, Z, (.refl _), ow14, h80⟩, (allCons (L 44 Z Z) (allCons (L 45 Z Z) (allCons (L 46 Z Z) (allCons (L 47 Z Z) (allCons (L 0 Z Z) allNil)))))⟩
   ·have h81 := ifF g46 h34
    have k82 : x32.bar = true := nF g46
    refine U.x Z Z Z Z ((L 0 Z Z).trans (cB g46)) (by decide) ?_
    refine U.x Z Z Z Z ((L 1 Z Z).trans (cB g46)) (by decide) ?_
    refine U.x Z Z Z Z ((L 2 Z Z).trans (cB g46)) (by decide) ?_
    refine U.x Z Z Z Z ((L 3 Z Z).trans (cB g46)) (by decide) ?_
    refine U.x Z Z Z Z ((L 4 Z Z).trans (cB g46)) (by decide) ?_
    refine U.x Z Z Z Z ((L 5 Z Z).trans (cB g46)) (by decide) ?_
    refine U.x Z Z Z Z ((L 6 Z Z).trans (cB g46)) (by decide) ?_
    refine U.x Z Z Z Z ((L 7 Z Z).trans (cB g46)) (by decide) ?_
    refine U.x Z Z Z Z ((L 8 Z Z).trans (cB g46)) (by decide) ?_
    refine U.x Z Z Z Z ((L 9 Z Z).trans (cB g46)) (by decide) ?_
    refine U.x Z Z Z Z ((L 10 Z Z).trans (cB g46)) (by decide) ?_
    refine U.x Z Z Z Z ((L 11 Z Z).trans (cB g46)) (by decide) ?_
    refine U.x Z Z Z Z ((L 12 Z Z).trans (cB g46)) (by decide) ?_
    refine U.x Z Z Z Z ((L 13 Z Z).trans (cB g46)) (by decide) ?_
    refine U.x Z Z Z Z ((L 14 Z Z).trans (cB g46)) (by decide) ?_
    refine U.x Z Z Z Z ((L 15 Z Z).trans (cB g46)) (by decide) ?_
    refine U.x Z Z Z Z ((L 16 Z Z).trans (cB g46)) (by decide) ?_
    refine U.x Z Z Z Z ((L 17 Z Z).trans (cB g46)) (by decide) ?_
    refine U.x Z Z Z Z ((L 18 Z Z).trans (cB g46)) (by decide) ?_
    refine U.p Z Z (.inl Z) (S.pickF Z ((L 19 Z Z).trans (cB g46)) K) ?_
    refine U.p Z Z (.inl Z) (S.move Z (L 0 Z Z)) ?_
    refine U.x Z Z Z Z (L 0 Z Z) (by decide) ?_
    refine U.x Z Z Z Z (L 1 Z Z) (by decide) ?_
    refine U.x Z Z Z Z (L 2 Z Z) (by decide) ?_
    refine U.x Z Z Z Z (L 3 Z Z) (by decide) ?_
    refine U.p Z Z (.inl Z) (S.pickF Z (L 4 Z Z) K) ?_
    refine U.done (nr Z) ?_
    refine sqN ?_
    exact ⟨_, V12, Z, ⟨false, Z, (.refl _), ow14, h81⟩, (allCons (L 44 Z Z) (allCons (L 45 Z Z) (allCons (L 46 Z Z) (allCons (L 47 Z Z) (allCons (L 0 Z Z) allNil)))))⟩
 ·have h83 := ifF c20 h19
  refine WP.exit ?_
  refine sqE (sqE (blkE (sqN ?_)))
  have h84 := exitS h83 e17
  refine WP.usreg Z ?_
  refine U.p Z Z (.inl Z) (S.assign Z K) ?_
  refine U.done (nr Z) ?_
  refine WP.ret ?_
  refine fin.slot (.inr Z) Z (L 0 Z Z) ⟨V12, Z, le13, ?_⟩
  have e85 := Option.some.inj h84
  subst e85
  exact ⟨rfl, ow14⟩
theorem wk_ref16_Storage_May (V : Vw) (Rs : List At) (p0 : Tref16_Storage) (p1 : Int) (p2 : Int) (b1 : Nat) (z2 : Nat) (v4 : Value) (v6 : Value) (hs7 : List Value) (ow : Ow V (.pt b1 (.cells z2 [.int .i64 p0.n, v4, v6]) :: .os RT_Tref16_Event v4 p0.e :: .oss (RO.os (RT.int .i64)) v6 hs7 p0.come :: Rs)) (r : Bool) (h : ref16_Storage_May p0 p1 p2 = some r) : ∃ v V', Cl Try.prog 0 26 #[.pointer (some ⟨b1, 0, none⟩), .int .i64 p1, .int .i64 p2] V.H v V'.H ∧ V.le V' ∧ (v = .bool r ∧ Ow V' (.pt b1 (.cells z2 [.int .i64 p0.n, v4, v6]) :: .os RT_Tref16_Event v4 p0.e :: .oss (RO.os (RT.int .i64)) v6 hs7 p0.come :: Rs)) := by
 refine Ct.of (Nat.zero_le _) Try.func26 Z (nr Z) ?_
 unfold ref16_Storage_May at h
 refine WP.usreg Z ?_
 refine U.p Z Z (.inl Z) (S.assign Z K) ?_
 refine U.done (nr Z) ?_
 refine WP.seq ?_
 refine WP.usreg Z ?_
 refine U.p Z Z (.inl Z) (S.move Z (L 2 Z Z)) ?_
 refine U.p Z Z (.inl Z) (S.lss Z (L 0 Z Z) K) ?_
 refine U.p Z Z (.inl Z) (S.move Z (L 0 Z Z)) ?_
 refine U.joinX 10 (fun e H => ∃ (u9 u10 u11 u12 u13 u14 : Value), H = V.H ∧ e = [(20, .bool ((decide (p1 < 0)) || (decide (p0.n ≤ p1)))), (19, u9), (18, u10), (17, u11), (16, u12), (15, u13), (14, u14)]) ?_ ?_
 ·rintro _ _ ⟨u9, u10, u11, u12, u13, u14, rfl, rfl⟩
  refine U.p Z Z (.inl Z) (S.move Z (L 0 Z Z)) ?_
  refine U.joinX 14 (fun e H => ∃ (u18 u19 : Value), H = V.H ∧ e = [(24, .bool (((decide (p1 < 0)) || (decide (p0.n ≤ p1))) || (decide (p2 < 1)))), (23, u18), (22, u19)]) ?_ ?_
  ·rintro _ _ ⟨u18, u19, rfl, rfl⟩
   refine U.p Z Z (.inl Z) (S.move Z (L 0 Z Z)) ?_
   refine U.joinX 23 (fun e H => ∃ (u23 u24 u25 u26 u27 u28 u29 : Value), H = V.H ∧ e = [(33, .bool ((((decide (p1 < 0)) || (decide (p0.n ≤ p1))) || (decide (p2 < 1))) || (decide ((p0.e.length : Int) < p2)))), (32, u23), (31, u24), (30, u25), (29, u26), (28, u27), (27, u28), (26, u29)]) ?_ ?_
   ·rintro _ _ ⟨u23, u24, u25, u26, u27, u28, u29, rfl, rfl⟩
    refine U.p Z Z (.inl Z) (S.move Z (L 0 Z Z)) ?_
    obtain ⟨y33, hy34, h35⟩ := bindS h
    refine U.joinX 29 (fun e H => ∃ (u36 u37 u38 u39 : Value), ∃ V' : Vw, H = V'.H ∧ V.le V' ∧ e = [(39, .bool y33), (38, u36), (37, u37), (36, u38), (35, u39)] ∧ Ow V' (.pt b1 (.cells z2 [.int .i64 p0.n, v4, v6]) :: .os RT_Tref16_Event v4 p0.e :: .oss (RO.os (RT.int .i64)) v6 hs7 p0.come :: Rs)) ?_ ?_
    ·rintro _ _ ⟨u36, u37, u38, u39, V40, rfl, le41, rfl, ow42⟩
     refine U.done (nr Z) ?_
     refine WP.cond _ (L 0 Z Z) Z (fun c43 => ?_) (fun c43 => ?_)
     ·have h44 := ifT c43 h35
      refine WP.usreg Z ?_
      refine U.p Z Z (.inl Z) (S.assign Z K) ?_
      refine U.done (nr Z) ?_
      refine WP.ret ?_
      refine sqR ?_
      refine fin.slot (.inr Z) Z (L 0 Z Z) ⟨V40, Z, le41, ?_⟩
      have e45 := Option.some.inj h44
      subst e45
      exact ⟨rfl, ow42⟩
     ·have h46 := ifF c43 h35
      refine WP.skip ?_
      refine sqN ?_
      refine WP.usreg Z ?_
      refine U.p Z Z (.inl Z) (S.move Z (L 30 Z Z)) ?_
      refine U.p Z Z (.inl Z) (S.nilCheck Z (L 0 Z Z)) ?_
      refine U.p (v := .pointer (some ⟨b1, 1, none⟩)) Z Z (.inl Z) (S.fieldAddr Z (L 0 Z Z) Try.underlying46 Z ti43 Z Z) ?_
      refine U.k Z Z (.inl Z) (S.load Z (L 0 Z Z) Try.underlying43 Z ((ow42.own (k := 0) Z).cell Z)) nd ?_
      refine U.p Z Z (.inl Z) (S.move Z (L 36 Z Z)) ?_
      refine U.p Z Z (.inl Z) (S.sub Z (L 0 Z Z) K) ?_
      obtain ⟨x47, hx48, h49⟩ := bindS h46
      obtain ⟨b50, o51, n52, c53, hv54⟩ := ow42.ospt (k := 1) Z hx48
      obtain ⟨_, hv55, _⟩ := ow42.osel (k := 1) Z hv54 hx48
      refine U.p Z Z (.inl Z) (S.index Z ((L 2 Z Z).trans hv55) (L 0 Z Z) Try.underlying43 ti39 (ix_ge hx48) (ix_lt hx48)) ?_
      obtain ⟨cs56, hv57, hlt58, hr59, hc60⟩ := ow42.osel (k := 1) Z hv54 hx48
      obtain rfl : cs56 = [.int .i64 x47.thread, .bool x47.bar, .int .i64 x47.at_, .int .i64 x47.val] := hr59
      refine U.k Z Z (.inl Z) (S.loadN (cs := [.int .i64 x47.thread, .bool x47.bar, .int .i64 x47.at_, .int .i64 x47.val]) Z (L 0 Z Z) Try.underlying39 Z ti39 Z hc60) nd ?_
      refine O.alloc ow42 Z Z (.inl Z) Z ti39 Z Z nd (fun b61 V62 le63 ow64 => ?_)
      refine O.store (k := 0) (cs := [.int .i64 x47.thread, .bool x47.bar, .int .i64 x47.at_, .int .i64 x47.val]) (c' := [.int .i64 x47.thread, .bool x47.bar, .int .i64 x47.at_, .int .i64 x47.val]) ow64 Z Z Z (.inl Z) Z (L 0 Z Z) (L 1 Z Z) ti39 (by simp [topV]) Z Z (nr Z) Z Z nd (fun V66 le67 ow68 => ?_)
      refine U.done (nr Z) ?_
      refine WP.seq ?_
      refine WP.usreg Z ?_
      refine U.p (v := .pointer (some ⟨b61, 1, none⟩)) Z Z (.inl Z) (S.fieldAddr Z (L 0 Z Z) Try.underlying39 Z ti4 Z Z) ?_
      refine U.k Z Z (.inl Z) (S.load Z (L 0 Z Z) Try.underlying4 Z ((ow68.own (k := 0) Z).cell Z)) nd ?_
      refine U.p Z Z (.inl Z) (S.not Z (L 0 Z Z)) ?_
      refine U.p Z Z (.inl Z) (S.move Z (L 0 Z Z)) ?_
      obtain ⟨y69, hy70, h71⟩ := bindS h49
      refine U.joinX 9 (fun e H => ∃ (u72 u73 u74 u75 : Value), ∃ V' : Vw, H = V'.H ∧ V66.le V' ∧ e = [(56, .bool y69), (55, u72), (54, u73), (53, u74), (52, u75)] ∧ Ow V' (.pt b61 (.cells 4 [.int .i64 x47.thread, .bool x47.bar, .int .i64 x47.at_, .int .i64 x47.val]) :: .pt b1 (.cells z2 [.int .i64 p0.n, v4, v6]) :: .os RT_Tref16_Event v4 p0.e :: .oss (RO.os (RT.int .i64)) v6 hs7 p0.come :: Rs)) ?_ ?_
      ·rintro _ _ ⟨u72, u73, u74, u75, V76, rfl, le77, rfl, ow78⟩
       refine U.done (nr Z) ?_
       refine WP.cond _ (L 0 Z Z) Z (fun c79 => ?_) (fun c79 => ?_)
       ·have h80 := ifT c79 h71
        refine WP.usreg Z ?_
        refine U.p Z Z (.inl Z) (S.assign Z K) ?_
        refine U.done (nr Z) ?_
        refine WP.ret ?_
        refine sqR ?_
        refine fin.slot (.inr Z) Z (L 0 Z Z) ⟨V76, Z, (((le41.trans le63).trans le67).trans le77), ?_⟩
        have ow81 := ow78.drop 0 Z
        have e82 := Option.some.inj h80
        subst e82
        exact ⟨rfl, ow81⟩
       ·have h83 := ifF c79 h71
        refine WP.skip ?_
        refine sqN ?_
        refine WP.seq ?_
        refine WP.usdreg Z Z Z ?_
        refine U.p Z Z (.inl Z) (S.move Z (L 48 Z Z)) ?_
        refine U.p Z Z (.inl Z) (S.nilCheck Z (L 0 Z Z)) ?_
        refine U.p (v := .pointer (some ⟨b1, 2, none⟩)) Z Z (.inl Z) (S.fieldAddr Z (L 0 Z Z) Try.underlying46 Z ti44 Z Z) ?_
        refine U.k Z Z (.inl Z) (S.load Z (L 0 Z Z) Try.underlying44 Z ((ow78.own (k := 1) Z).cell Z)) (fun _ => (okH.nil (fun r h => by cases h; exact (ow78.own (k := 1) Z).lt))) ?_
        refine U.p (v := .pointer (some ⟨b61, 0, none⟩)) Z Z (.inl Z) (S.fieldAddr Z (L 13 Z Z) Try.underlying39 Z ti3 Z Z) ?_
        refine U.k Z Z (.inl Z) (S.load Z (L 0 Z Z) Try.underlying3 Z ((ow78.own (k := 0) Z).cell Z)) (fun _ => (okH.cons trivial (okH.nil (fun r h => by cases h; exact (ow78.own (k := 0) Z).lt)))) ?_
        obtain ⟨x84, hx85, h86⟩ := bindS h83
        obtain ⟨b87, o88, n89, c90, hv91⟩ := ow78.sspt (k := 3) Z hx85
        refine U.p Z Z (.inl Z) (S.index Z ((L 2 Z Z).trans (ow78.sslen' (k := 3) Z hv91)) (L 0 Z Z) Try.underlying44 ti26 (ix_ge hx85) (ix_lt hx85)) ?_
        obtain ⟨h92, hh93, ow94⟩ := ow78.ssopen (k := 3) Z hx85
        have hcl96 := ow94.shcell (k := 4) Z hv91 hh93
        refine U.k Z Z (.inl Z) (S.load Z (L 0 Z Z) Try.underlying26 Z hcl96.2) (fun _ => (okH.cons trivial (okH.cons trivial (okH.nil (fun r h => by cases h; exact hcl96.1))))) ?_
        refine U.p Z Z (.inl Z) (ow94.oslen (k := 0) Z Z (L 0 Z Z) Try.underlying26) ?_
        refine U.p Z Z (.inl Z) (S.move Z K) ?_
        refine U.done (nr Z) ?_
        refine WP.blk ?_
        have ow97 := ow94.ssclose' (k := 4) (j := 0) Z Z (by decide) hh93 hx85
        have ow99 := ow97.pick 0 Z
        have ow100 := ow99.pick 3 Z
        have ow101 := ow100.pick 3 Z
        have ow102 := ow101.pick 3 Z
        unfold ref16_Storage_May_l1 at h86
        obtain ⟨n104, hn103⟩ := loopO_some.1 h86
        refine WP.loopI2 (fun n l V' => ∃ (x98 : Int), l = [(0, .pointer (some ⟨b1, 0, none⟩)), (1, .int .i64 p1), (2, .int .i64 p2), (7, .pointer (some ⟨b61, 0, none⟩)), (64, h92), (65, .int .i64 (x84.length : Int)), (66, .int .i64 x98)] ∧ V76.le V' ∧ Ow V' (.pt b1 (.cells z2 [.int .i64 p0.n, v4, v6]) :: .os RT_Tref16_Event v4 p0.e :: .oss (RO.os (RT.int .i64)) v6 hs7 p0.come :: .pt b61 (.cells 4 [.int .i64 x47.thread, .bool x47.bar, .int .i64 x47.at_, .int .i64 x47.val]) :: Rs) ∧ itO (fun s => ref16_Storage_May_l1b p0 p1 p2 x47 x84 s) n x98 = some r) n104 _ ⟨0, Z, .refl _, ow102, hn103⟩ (allCons (L 58 Z Z) (allCons (L 59 Z Z) (allCons (L 60 Z Z) (allCons (L 19 Z Z) (allCons (L 2 Z Z) (allCons (L 1 Z Z) (allCons (L 0 Z Z) allNil))))))) ?_
        rintro _ _ V105 ⟨x98, rfl, le106, ow107, h111⟩
        obtain ⟨m108, q109, rfl, h112, e110⟩ := itS h111
        replace h112 : ref16_Storage_May_l1b p0 p1 p2 x47 x84 x98 = some q109 := h112
        unfold ref16_Storage_May_l1b at h112
        refine WP.usreg Z ?_
        refine U.p Z Z (.inl Z) (S.lss Z (L 6 Z Z) (L 5 Z Z)) ?_
        refine U.done (nr Z) ?_
        refine WP.seq ?_
        refine WP.cond _ (L 0 Z Z) Z (fun c113 => ?_) (fun c113 => ?_)
        ·have h114 := ifT c113 h112
         refine WP.skip ?_
         refine sqN ?_
         refine WP.seq ?_
         refine WP.blk ?_
         refine WP.usreg Z ?_
         obtain ⟨x115, hx116, h117⟩ := bindS h114
         obtain ⟨h118, hh119, ow120⟩ := ow107.ssopen (k := 2) Z hx116
         obtain rfl : h118 = h92 := Option.some.inj (hh119.symm.trans hh93)
         obtain ⟨x122, hx123, h124⟩ := bindS h117
         obtain ⟨b125, o126, n127, c128, hv129⟩ := ow120.ospt (k := 0) Z hx123
         obtain ⟨_, hv130, _⟩ := ow120.osel (k := 0) Z hv129 hx123
         refine U.p Z Z (.inl Z) (S.index Z ((L 5 Z Z).trans hv130) (L 7 Z Z) Try.underlying26 ti3 (ix_ge hx123) (ix_lt hx123)) ?_
         obtain ⟨cs131, hv132, hlt133, hr134, hc135⟩ := ow120.osel (k := 0) Z hv129 hx123
         obtain rfl : cs131 = [.int .i64 x122] := hr134
         refine U.k Z Z (.inl Z) (S.load Z (L 0 Z Z) Try.underlying3 Z (hc135 0 _ Z)) nd ?_
         refine U.p Z Z (.inl Z) (S.assign Z (L 0 Z Z)) ?_
         refine U.done (nr Z) ?_
         refine WP.seq ?_
         refine WP.usreg Z ?_
         refine U.p Z Z (.inl Z) (S.move Z (L 0 Z Z)) ?_
         refine U.p Z Z (.inl Z) (S.move Z (L 7 Z Z)) ?_
         refine U.p Z Z (.inl Z) (S.eqlI Z (L 1 Z Z) (L 0 Z Z)) ?_
         refine U.done (nr Z) ?_
         refine WP.cond _ (L 0 Z Z) Z (fun c136 => ?_) (fun c136 => ?_)
         ·have h137 := ifT c136 h124
          refine WP.usreg Z ?_
          refine U.p Z Z (.inl Z) (S.assign Z K) ?_
          refine U.done (nr Z) ?_
          refine WP.ret ?_
          refine sqR (blkR (sqR (sqR (blkR (sqR ?_)))))
          have h138 := exitS h137 e110
          have ow139 := ow120.ssclose' (k := 3) (j := 0) Z Z (by decide) hh93 hx116
          refine fin.slot (.inr Z) Z (L 0 Z Z) ⟨V105, Z, ((((le41.trans le63).trans le67).trans le77).trans le106), ?_⟩
          have ow140 := ow139.drop 3 Z
          have e141 := Option.some.inj h138
          subst e141
          exact ⟨rfl, ow140⟩
         ·have h142 := ifF c136 h124
          refine WP.skip ?_
          refine sqN ?_
          refine WP.usreg Z ?_
          refine U.p Z Z (.inl Z) (S.move Z (L 7 Z Z)) ?_
          refine U.p Z Z (.inl Z) (S.nilCheck Z (L 0 Z Z)) ?_
          refine U.p (v := .pointer (some ⟨b1, 1, none⟩)) Z Z (.inl Z) (S.fieldAddr Z (L 0 Z Z) Try.underlying46 Z ti43 Z Z) ?_
          refine U.k Z Z (.inl Z) (S.load Z (L 0 Z Z) Try.underlying43 Z ((ow120.own (k := 1) Z).cell Z)) nd ?_
          refine U.p Z Z (.inl Z) (S.move Z (L 7 Z Z)) ?_
          refine U.p Z Z (.inl Z) (S.sub Z (L 0 Z Z) K) ?_
          obtain ⟨x143, hx144, h145⟩ := bindS h142
          obtain ⟨_, hv146, _⟩ := ow120.osel (k := 2) Z hv54 hx144
          refine U.p Z Z (.inl Z) (S.index Z ((L 2 Z Z).trans hv146) (L 0 Z Z) Try.underlying43 ti39 (ix_ge hx144) (ix_lt hx144)) ?_
          obtain ⟨cs147, hv148, hlt149, hr150, hc151⟩ := ow120.osel (k := 2) Z hv54 hx144
          obtain rfl : cs147 = [.int .i64 x143.thread, .bool x143.bar, .int .i64 x143.at_, .int .i64 x143.val] := hr150
          refine U.k Z Z (.inl Z) (S.loadN (cs := [.int .i64 x143.thread, .bool x143.bar, .int .i64 x143.at_, .int .i64 x143.val]) Z (L 0 Z Z) Try.underlying39 Z ti39 Z hc151) nd ?_
          refine O.alloc ow120 Z Z (.inl Z) Z ti39 Z Z nd (fun b152 V153 le154 ow155 => ?_)
          refine O.store (k := 0) (cs := [.int .i64 x143.thread, .bool x143.bar, .int .i64 x143.at_, .int .i64 x143.val]) (c' := [.int .i64 x143.thread, .bool x143.bar, .int .i64 x143.at_, .int .i64 x143.val]) ow155 Z Z Z (.inl Z) Z (L 0 Z Z) (L 1 Z Z) ti39 (by simp [topV]) Z Z (nr Z) Z Z nd (fun V157 le158 ow159 => ?_)
          refine U.done (nr Z) ?_
          refine WP.usreg Z ?_
          refine U.p (v := .pointer (some ⟨b152, 1, none⟩)) Z Z (.inl Z) (S.fieldAddr Z (L 0 Z Z) Try.underlying39 Z ti4 Z Z) ?_
          refine U.k Z Z (.inl Z) (S.load Z (L 0 Z Z) Try.underlying4 Z ((ow159.own (k := 0) Z).cell Z)) nd ?_
          refine U.p Z Z (.inl Z) (S.move Z (L 0 Z Z)) ?_
          have ow160 := ow159.ssclose' (k := 4) (j := 1) Z Z (by decide) hh93 hx116
          obtain ⟨y161, hy162, h163⟩ := bindS h145
          refine U.joinX 9 (fun e H => ∃ (u164 u165 u166 u167 u168 : Value), ∃ V' : Vw, H = V'.H ∧ V157.le V' ∧ e = [(89, .bool y161), (88, u164), (87, u165), (86, u166), (85, u167), (84, u168)] ∧ Ow V' (.pt b152 (.cells 4 [.int .i64 x143.thread, .bool x143.bar, .int .i64 x143.at_, .int .i64 x143.val]) :: .pt b1 (.cells z2 [.int .i64 p0.n, v4, v6]) :: .os RT_Tref16_Event v4 p0.e :: .oss (RO.os (RT.int .i64)) v6 hs7 p0.come :: .pt b61 (.cells 4 [.int .i64 x47.thread, .bool x47.bar, .int .i64 x47.at_, .int .i64 x47.val]) :: Rs)) ?_ ?_
          ·rintro _ _ ⟨u164, u165, u166, u167, u168, V169, rfl, le170, rfl, ow171⟩
           refine U.p Z Z (.inl Z) (S.move Z (L 0 Z Z)) ?_
           obtain ⟨y172, hy173, h174⟩ := bindS h163
           refine U.joinX 25 (fun e H => ∃ (u175 u176 u177 u178 u179 u180 u181 u182 u183 u184 u185 u186 u187 u188 : Value), ∃ V' : Vw, H = V'.H ∧ V169.le V' ∧ e = [(105, .bool y172), (104, u175), (103, u176), (102, u177), (101, u178), (100, u179), (99, u180), (98, u181), (97, u182), (96, u183), (95, u184), (94, u185), (93, u186), (92, u187), (91, u188)] ∧ Ow V' (.pt b152 (.cells 4 [.int .i64 x143.thread, .bool x143.bar, .int .i64 x143.at_, .int .i64 x143.val]) :: .pt b1 (.cells z2 [.int .i64 p0.n, v4, v6]) :: .os RT_Tref16_Event v4 p0.e :: .oss (RO.os (RT.int .i64)) v6 hs7 p0.come :: .pt b61 (.cells 4 [.int .i64 x47.thread, .bool x47.bar, .int .i64 x47.at_, .int .i64 x47.val]) :: Rs)) ?_ ?_
           ·rintro _ _ ⟨u175, u176, u177, u178, u179, u180, u181, u182, u183, u184, u185, u186, u187, u188, V189, rfl, le190, rfl, ow191⟩
            refine U.done (nr Z) ?_
            refine WP.cond _ (L 0 Z Z) Z (fun c192 => ?_) (fun c192 => ?_)
            ·have h193 := ifT c192 h174
             refine WP.usreg Z ?_
             refine U.p Z Z (.inl Z) (S.assign Z K) ?_
             refine U.done (nr Z) ?_
             refine WP.ret ?_
             refine blkR (sqR (sqR (blkR (sqR ?_))))
             have h194 := exitS h193 e110
             refine fin.slot (.inr Z) Z (L 0 Z Z) ⟨V189, Z, ((((((((le41.trans le63).trans le67).trans le77).trans le106).trans le154).trans le158).trans le170).trans le190), ?_⟩
             have ow195 := ow191.drop 0 Z
             have ow196 := ow195.drop 3 Z
             have e197 := Option.some.inj h194
             subst e197
             exact ⟨rfl, ow196⟩
            ·have h198 := ifF c192 h174
             refine WP.skip ?_
             refine blkN (sqN ?_)
             refine WP.ureg Z ?_
             refine U.p Z Z (.inl Z) (S.add Z (L 47 Z Z) K) ?_
             refine U.p Z Z (.inl Z) (S.move Z (L 0 Z Z)) ?_
             refine U.done (nr Z) ?_
             refine sqN ?_
             have ow199 := ow191.drop 0 Z
             exact ⟨_, V189, Z, ⟨m108, Nat.lt_succ_self _, w64 (x98 + 1), Z, ((((le106.trans le154).trans le158).trans le170).trans le190), ow199, backS h198 e110⟩, (allCons (L 43 Z Z) (allCons (L 44 Z Z) (allCons (L 45 Z Z) (allCons (L 46 Z Z) (allCons (L 47 Z Z) (allCons (L 48 Z Z) (allCons (L 0 Z Z) allNil)))))))⟩
           ·intro kk
            refine bcase (b := y161) (fun g200 => ?_) (fun g200 => ?_)
            ·have h201 := ifT g200 hy173
             refine U.x Z Z Z Z ((L 0 Z Z).trans (cB g200)) (by decide) ?_
             refine U.x Z Z Z Z ((L 1 Z Z).trans (cB g200)) (by decide) ?_
             refine U.x Z Z Z Z ((L 2 Z Z).trans (cB g200)) (by decide) ?_
             refine U.x Z Z Z Z ((L 3 Z Z).trans (cB g200)) (by decide) ?_
             refine U.z Z Z Z Z (L 0 Z Z) ?_
             refine U.z Z Z Z Z (L 1 Z Z) ?_
             refine U.x Z Z Z Z ((L 6 Z Z).trans (cB g200)) (by decide) ?_
             refine U.x Z Z Z Z ((L 7 Z Z).trans (cB g200)) (by decide) ?_
             refine U.z Z Z Z Z (L 0 Z Z) ?_
             refine U.z Z Z Z Z (L 1 Z Z) ?_
             refine U.z Z Z Z Z (L 2 Z Z) ?_
             refine U.z Z Z Z Z (L 3 Z Z) ?_
             refine U.z Z Z Z Z (L 4 Z Z) ?_
             refine U.x Z Z Z Z ((L 13 Z Z).trans (cB g200)) (by decide) ?_
             refine U.p Z Z (.inl Z) (S.pickT Z ((L 14 Z Z).trans (cB g200)) K) ?_
             have e202 := Option.some.inj h201
             subst e202
             exact kk [(105, .bool true), (104, .tuple #[]), (103, .tuple #[]), (102, .tuple #[]), (101, .tuple #[]), (100, .tuple #[]), (99, .tuple #[]), (98, .tuple #[]), (97, .tuple #[]), (96, .tuple #[]), (95, .tuple #[]), (94, .tuple #[]), (93, .tuple #[]), (92, .tuple #[]), (91, .tuple #[])] _ ⟨.tuple #[], .tuple #[], .tuple #[], .tuple #[], .tuple #[], .tuple #[], .tuple #[], .tuple #[], .tuple #[], .tuple #[], .tuple #[], .tuple #[], .tuple #[], .tuple #[], V169, Z, (.refl _), Z, ow171⟩
            ·have h203 := ifF g200 hy173
             refine U.p (v := .pointer (some ⟨b152, 1, none⟩)) Z Z (.inr ⟨_, _, _, Z, Z, ((L 0 Z Z).trans (cB g200))⟩) (S.fieldAddr Z (L 10 Z Z) Try.underlying39 Z ti4 Z Z) ?_
             refine U.k Z Z (.inr ⟨_, _, _, Z, Z, ((L 1 Z Z).trans (cB g200))⟩) (S.load Z (L 0 Z Z) Try.underlying4 Z ((ow171.own (k := 0) Z).cell Z)) nd ?_
             refine U.p Z Z (.inr ⟨_, _, _, Z, Z, ((L 2 Z Z).trans (cB g200))⟩) (S.not Z (L 0 Z Z)) ?_
             refine U.p Z Z (.inr ⟨_, _, _, Z, Z, ((L 3 Z Z).trans (cB g200))⟩) (S.move Z (L 0 Z Z)) ?_
             refine U.joinX 17 (fun e H => ∃ (u204 u205 : Value), H = V169.H ∧ e = [(97, .bool ((!x143.bar) && x47.bar)), (96, u204), (95, u205)]) ?_ ?_
             ·rintro _ _ ⟨u204, u205, rfl, rfl⟩
              refine U.p Z Z (.inr ⟨_, _, _, Z, Z, ((L 7 Z Z).trans (cB g200))⟩) (S.move Z (L 0 Z Z)) ?_
              obtain ⟨y209, hy210, h211⟩ := bindS h203
              refine U.joinX 24 (fun e H => ∃ (u212 u213 u214 u215 u216 : Value), ∃ V' : Vw, H = V'.H ∧ V169.le V' ∧ e = [(104, .bool y209), (103, u212), (102, u213), (101, u214), (100, u215), (99, u216)] ∧ Ow V' (.pt b152 (.cells 4 [.int .i64 x143.thread, .bool x143.bar, .int .i64 x143.at_, .int .i64 x143.val]) :: .pt b1 (.cells z2 [.int .i64 p0.n, v4, v6]) :: .os RT_Tref16_Event v4 p0.e :: .oss (RO.os (RT.int .i64)) v6 hs7 p0.come :: .pt b61 (.cells 4 [.int .i64 x47.thread, .bool x47.bar, .int .i64 x47.at_, .int .i64 x47.val]) :: Rs)) ?_ ?_
              ·rintro _ _ ⟨u212, u213, u214, u215, u216, V217, rfl, le218, rfl, ow219⟩
               refine U.p Z Z (.inl Z) (S.pickF Z ((L 14 Z Z).trans (cB g200)) (L 0 Z Z)) ?_
               have e220 := Option.some.inj h211
               subst e220
               exact kk [(105, .bool y209), (104, .bool y209), (103, u212), (102, u213), (101, u214), (100, u215), (99, u216), (98, .bool ((!x143.bar) && x47.bar)), (97, .bool ((!x143.bar) && x47.bar)), (96, u204), (95, u205), (94, .bool (!x143.bar)), (93, .bool (!x143.bar)), (92, .bool x143.bar), (91, .pointer (some ⟨b152, 1, none⟩))] _ ⟨.bool y209, u212, u213, u214, u215, u216, .bool ((!x143.bar) && x47.bar), .bool ((!x143.bar) && x47.bar), u204, u205, .bool (!x143.bar), .bool (!x143.bar), .bool x143.bar, .pointer (some ⟨b152, 1, none⟩), V217, Z, le218, Z, ow219⟩
              ·intro kk
               refine bcase (b := (!x143.bar) && x47.bar) (fun g221 => ?_) (fun g221 => ?_)
               ·have h222 := ifT g221 hy210
                refine U.p Z Z (.inr ⟨_, _, _, Z, Z, ((L 0 Z Z).trans (cB g221))⟩) (S.move Z (L 34 Z Z)) ?_
                refine U.p Z Z (.inr ⟨_, _, _, Z, Z, ((L 1 Z Z).trans (cB g221))⟩) (S.move Z (L 36 Z Z)) ?_
                refine U.p Z Z (.inr ⟨_, _, _, Z, Z, ((L 2 Z Z).trans (cB g221))⟩) (S.move Z (L 32 Z Z)) ?_
                have ow223 := ow171.pick 3 Z
                have ow224 := ow223.pick 3 Z
                have ow225 := ow224.pick 3 Z
                obtain ⟨x226, hx227, h228⟩ := bindS h222
                refine O.call (V := V169) Z Z (.inr ⟨_, _, _, Z, Z, ((L 3 Z Z).trans (cB g221))⟩) Z en36 (aC (L 2 Z Z) (aC (L 1 Z Z) (aC (L 0 Z Z) aN))) (wk_ref16_Storage_passed V169 _ p0 p1 x122 b1 z2 v4 v6 hs7 ow225 _ hx227) (fun _ _ _ _ => nd) (fun v229 V230 le231 hp232 => ?_)
                obtain ⟨rfl, ow233⟩ := hp232
                refine U.p Z Z (.inr ⟨_, _, _, Z, Z, ((L 4 Z Z).trans (cB g221))⟩) (S.not Z (L 0 Z Z)) ?_
                refine U.p Z Z (.inr ⟨_, _, _, Z, Z, ((L 13 Z Z).trans (cB g200))⟩) (S.pickT Z ((L 5 Z Z).trans (cB g221)) (L 0 Z Z)) ?_
                have e234 := Option.some.inj h228
                subst e234
                have ow235 := ow233.pick 4 Z
                have ow236 := ow235.pick 3 Z
                have ow237 := ow236.pick 3 Z
                have ow238 := ow237.pick 3 Z
                have ow239 := ow238.pick 4 Z
                exact kk [(104, .bool (!x226)), (103, .bool (!x226)), (102, .bool x226), (101, .int .i64 x122), (100, .int .i64 p1), (99, .pointer (some ⟨b1, 0, none⟩))] _ ⟨.bool (!x226), .bool x226, .int .i64 x122, .int .i64 p1, .pointer (some ⟨b1, 0, none⟩), V230, Z, le231, Z, ow239⟩
               ·have h240 := ifF g221 hy210
                refine U.x Z Z Z Z ((L 0 Z Z).trans (cB g221)) (by decide) ?_
                refine U.x Z Z Z Z ((L 1 Z Z).trans (cB g221)) (by decide) ?_
                refine U.x Z Z Z Z ((L 2 Z Z).trans (cB g221)) (by decide) ?_
                refine U.x Z Z Z Z ((L 3 Z Z).trans (cB g221)) (by decide) ?_
                refine U.x Z Z Z Z ((L 4 Z Z).trans (cB g221)) (by decide) ?_
                refine U.p Z Z (.inr ⟨_, _, _, Z, Z, ((L 13 Z Z).trans (cB g200))⟩) (S.pickF Z ((L 5 Z Z).trans (cB g221)) K) ?_
                have e241 := Option.some.inj h240
                subst e241
                exact kk [(104, .bool false), (103, .tuple #[]), (102, .tuple #[]), (101, .tuple #[]), (100, .tuple #[]), (99, .tuple #[])] _ ⟨.tuple #[], .tuple #[], .tuple #[], .tuple #[], .tuple #[], V169, Z, (.refl _), Z, ow171⟩
             ·intro kk
              refine bcase (b := !x143.bar) (fun g242 => ?_) (fun g242 => ?_)
              ·skip
               have k243 : x143.bar = false := nT g242
               refine U.p (v := .pointer (some ⟨b61, 1, none⟩)) Z Z (.inr ⟨_, _, _, Z, Z, ((L 0 Z Z).trans (cB g242))⟩) (S.fieldAddr Z (L 33 Z Z) Try.underlying39 Z ti4 Z Z) ?_
               refine U.k Z Z (.inr ⟨_, _, _, Z, Z, ((L 1 Z Z).trans (cB g242))⟩) (S.load Z (L 0 Z Z) Try.underlying4 Z ((ow171.own (k := 4) Z).cell Z)) nd ?_
               refine U.p Z Z (.inr ⟨_, _, _, Z, Z, ((L 6 Z Z).trans (cB g200))⟩) (S.pickT Z ((L 2 Z Z).trans (cB g242)) (L 0 Z Z)) ?_
               exact kk [(97, .bool x47.bar), (96, .bool x47.bar), (95, .pointer (some ⟨b61, 1, none⟩))] _ ⟨.bool x47.bar, .pointer (some ⟨b61, 1, none⟩), Z, (by rw [g242, Bool.true_and])⟩
              ·skip
               have k244 : x143.bar = true := nF g242
               refine U.x Z Z Z Z ((L 0 Z Z).trans (cB g242)) (by decide) ?_
               refine U.x Z Z Z Z ((L 1 Z Z).trans (cB g242)) (by decide) ?_
               refine U.p Z Z (.inr ⟨_, _, _, Z, Z, ((L 6 Z Z).trans (cB g200))⟩) (S.pickF Z ((L 2 Z Z).trans (cB g242)) K) ?_
               exact kk [(97, .bool false), (96, .tuple #[]), (95, .tuple #[])] _ ⟨.tuple #[], .tuple #[], Z, (by rw [g242, Bool.false_and])⟩
          ·intro kk
           refine bcase (b := x143.bar) (fun g245 => ?_) (fun g245 => ?_)
           ·have h246 := ifT g245 hy162
            refine U.p Z Z (.inr ⟨_, _, _, Z, Z, ((L 0 Z Z).trans (cB g245))⟩) (S.move Z (L 19 Z Z)) ?_
            refine U.p Z Z (.inr ⟨_, _, _, Z, Z, ((L 1 Z Z).trans (cB g245))⟩) (S.move Z (L 21 Z Z)) ?_
            refine U.p Z Z (.inr ⟨_, _, _, Z, Z, ((L 2 Z Z).trans (cB g245))⟩) (S.move Z (L 17 Z Z)) ?_
            have ow247 := ow160.pick 3 Z
            have ow248 := ow247.pick 3 Z
            have ow249 := ow248.pick 3 Z
            obtain ⟨x250, hx251, h252⟩ := bindS h246
            refine O.call (V := V157) Z Z (.inr ⟨_, _, _, Z, Z, ((L 3 Z Z).trans (cB g245))⟩) Z en35 (aC (L 2 Z Z) (aC (L 1 Z Z) (aC (L 0 Z Z) aN))) (wk_ref16_Storage_Has V157 _ p0 p1 x122 b1 z2 v4 v6 hs7 ow249 _ hx251) (fun _ _ _ _ => nd) (fun v253 V254 le255 hp256 => ?_)
            obtain ⟨rfl, ow257⟩ := hp256
            refine U.p Z Z (.inr ⟨_, _, _, Z, Z, ((L 4 Z Z).trans (cB g245))⟩) (S.not Z (L 0 Z Z)) ?_
            refine U.p Z Z (.inl Z) (S.pickT Z ((L 5 Z Z).trans (cB g245)) (L 0 Z Z)) ?_
            have e258 := Option.some.inj h252
            subst e258
            have ow259 := ow257.pick 4 Z
            have ow260 := ow259.pick 3 Z
            have ow261 := ow260.pick 3 Z
            have ow262 := ow261.pick 3 Z
            have ow263 := ow262.pick 4 Z
            exact kk [(89, .bool (!x250)), (88, .bool (!x250)), (87, .bool x250), (86, .int .i64 x122), (85, .int .i64 p1), (84, .pointer (some ⟨b1, 0, none⟩))] _ ⟨.bool (!x250), .bool x250, .int .i64 x122, .int .i64 p1, .pointer (some ⟨b1, 0, none⟩), V254, Z, le255, Z, ow263⟩
           ·have h264 := ifF g245 hy162
            refine U.x Z Z Z Z ((L 0 Z Z).trans (cB g245)) (by decide) ?_
            refine U.x Z Z Z Z ((L 1 Z Z).trans (cB g245)) (by decide) ?_
            refine U.x Z Z Z Z ((L 2 Z Z).trans (cB g245)) (by decide) ?_
            refine U.x Z Z Z Z ((L 3 Z Z).trans (cB g245)) (by decide) ?_
            refine U.x Z Z Z Z ((L 4 Z Z).trans (cB g245)) (by decide) ?_
            refine U.p Z Z (.inl Z) (S.pickF Z ((L 5 Z Z).trans (cB g245)) K) ?_
            have e265 := Option.some.inj h264
            subst e265
            exact kk [(89, .bool false), (88, .tuple #[]), (87, .tuple #[]), (86, .tuple #[]), (85, .tuple #[]), (84, .tuple #[])] _ ⟨.tuple #[], .tuple #[], .tuple #[], .tuple #[], .tuple #[], V157, Z, (.refl _), Z, ow160⟩
        ·have h266 := ifF c113 h112
         refine WP.exit ?_
         refine sqE (sqE (blkE (sqN ?_)))
         have h267 := exitS h266 e110
         refine WP.usreg Z ?_
         refine U.p Z Z (.inl Z) (S.assign Z K) ?_
         refine U.done (nr Z) ?_
         refine WP.ret ?_
         refine fin.slot (.inr Z) Z (L 0 Z Z) ⟨V105, Z, ((((le41.trans le63).trans le67).trans le77).trans le106), ?_⟩
         have ow268 := ow107.drop 3 Z
         have e269 := Option.some.inj h267
         subst e269
         exact ⟨rfl, ow268⟩
      ·intro kk
       refine bcase (b := !x47.bar) (fun g270 => ?_) (fun g270 => ?_)
       ·have h271 := ifT g270 hy70
        have k272 : x47.bar = false := nT g270
        refine U.p Z Z (.inr ⟨_, _, _, Z, Z, ((L 0 Z Z).trans (cB g270))⟩) (S.move Z (L 43 Z Z)) ?_
        refine U.p Z Z (.inr ⟨_, _, _, Z, Z, ((L 1 Z Z).trans (cB g270))⟩) (S.move Z (L 45 Z Z)) ?_
        refine U.p Z Z (.inr ⟨_, _, _, Z, Z, ((L 2 Z Z).trans (cB g270))⟩) (S.move Z (L 47 Z Z)) ?_
        have ow273 := ow68.pick 3 Z
        have ow274 := ow273.pick 3 Z
        have ow275 := ow274.pick 3 Z
        obtain ⟨x276, hx277, h278⟩ := bindS h271
        refine O.call (V := V66) Z Z (.inr ⟨_, _, _, Z, Z, ((L 3 Z Z).trans (cB g270))⟩) Z en36 (aC (L 2 Z Z) (aC (L 1 Z Z) (aC (L 0 Z Z) aN))) (wk_ref16_Storage_passed V66 _ p0 p1 p2 b1 z2 v4 v6 hs7 ow275 _ hx277) (fun _ _ _ _ => nd) (fun v279 V280 le281 hp282 => ?_)
        obtain ⟨rfl, ow283⟩ := hp282
        refine U.p Z Z (.inl Z) (S.pickT Z ((L 4 Z Z).trans (cB g270)) (L 0 Z Z)) ?_
        have e284 := Option.some.inj h278
        subst e284
        have ow285 := ow283.pick 2 Z
        have ow286 := ow285.pick 2 Z
        have ow287 := ow286.pick 2 Z
        have ow288 := ow287.pick 3 Z
        exact kk [(56, .bool x276), (55, .bool x276), (54, .int .i64 p2), (53, .int .i64 p1), (52, .pointer (some ⟨b1, 0, none⟩))] _ ⟨.bool x276, .int .i64 p2, .int .i64 p1, .pointer (some ⟨b1, 0, none⟩), V280, Z, le281, Z, ow288⟩
       ·have h289 := ifF g270 hy70
        have k290 : x47.bar = true := nF g270
        refine U.x Z Z Z Z ((L 0 Z Z).trans (cB g270)) (by decide) ?_
        refine U.x Z Z Z Z ((L 1 Z Z).trans (cB g270)) (by decide) ?_
        refine U.x Z Z Z Z ((L 2 Z Z).trans (cB g270)) (by decide) ?_
        refine U.x Z Z Z Z ((L 3 Z Z).trans (cB g270)) (by decide) ?_
        refine U.p Z Z (.inl Z) (S.pickF Z ((L 4 Z Z).trans (cB g270)) K) ?_
        have e291 := Option.some.inj h289
        subst e291
        exact kk [(56, .bool false), (55, .tuple #[]), (54, .tuple #[]), (53, .tuple #[]), (52, .tuple #[])] _ ⟨.tuple #[], .tuple #[], .tuple #[], .tuple #[], V66, Z, (.refl _), Z, ow68⟩
    ·intro kk
     refine bcase (b := (((decide (p1 < 0)) || (decide (p0.n ≤ p1))) || (decide (p2 < 1))) || (decide ((p0.e.length : Int) < p2))) (fun g292 => ?_) (fun g292 => ?_)
     ·have h293 := ifT g292 hy34
      refine U.x Z Z Z Z ((L 0 Z Z).trans (cB g292)) (by decide) ?_
      refine U.x Z Z Z Z ((L 1 Z Z).trans (cB g292)) (by decide) ?_
      refine U.x Z Z Z Z ((L 2 Z Z).trans (cB g292)) (by decide) ?_
      refine U.x Z Z Z Z ((L 3 Z Z).trans (cB g292)) (by decide) ?_
      refine U.p Z Z (.inl Z) (S.pickT Z ((L 4 Z Z).trans (cB g292)) K) ?_
      have e294 := Option.some.inj h293
      subst e294
      exact kk [(39, .bool true), (38, .tuple #[]), (37, .tuple #[]), (36, .tuple #[]), (35, .tuple #[])] _ ⟨.tuple #[], .tuple #[], .tuple #[], .tuple #[], V, Z, (.refl _), Z, ow⟩
     ·have h295 := ifF g292 hy34
      refine U.p Z Z (.inr ⟨_, _, _, Z, Z, ((L 0 Z Z).trans (cB g292))⟩) (S.move Z (L 25 Z Z)) ?_
      refine U.p Z Z (.inr ⟨_, _, _, Z, Z, ((L 1 Z Z).trans (cB g292))⟩) (S.move Z (L 27 Z Z)) ?_
      refine U.p Z Z (.inr ⟨_, _, _, Z, Z, ((L 2 Z Z).trans (cB g292))⟩) (S.move Z (L 29 Z Z)) ?_
      have ow296 := ow.pick 2 Z
      have ow297 := ow296.pick 2 Z
      have ow298 := ow297.pick 2 Z
      obtain ⟨x299, hx300, h301⟩ := bindS h295
      refine O.call (V := V) Z Z (.inr ⟨_, _, _, Z, Z, ((L 3 Z Z).trans (cB g292))⟩) Z en35 (aC (L 2 Z Z) (aC (L 1 Z Z) (aC (L 0 Z Z) aN))) (wk_ref16_Storage_Has V _ p0 p1 p2 b1 z2 v4 v6 hs7 ow298 _ hx300) (fun _ _ _ _ => nd) (fun v302 V303 le304 hp305 => ?_)
      obtain ⟨rfl, ow306⟩ := hp305
      refine U.p Z Z (.inl Z) (S.pickF Z ((L 4 Z Z).trans (cB g292)) (L 0 Z Z)) ?_
      have e307 := Option.some.inj h301
      subst e307
      exact kk [(39, .bool x299), (38, .bool x299), (37, .int .i64 p2), (36, .int .i64 p1), (35, .pointer (some ⟨b1, 0, none⟩))] _ ⟨.bool x299, .int .i64 p2, .int .i64 p1, .pointer (some ⟨b1, 0, none⟩), V303, Z, le304, Z, ow306⟩
   ·intro kk
    refine bcase (b := ((decide (p1 < 0)) || (decide (p0.n ≤ p1))) || (decide (p2 < 1))) (fun g308 => ?_) (fun g308 => ?_)
    ·skip
     refine U.x Z Z Z Z ((L 0 Z Z).trans (cB g308)) (by decide) ?_
     refine U.x Z Z Z Z ((L 1 Z Z).trans (cB g308)) (by decide) ?_
     refine U.x Z Z Z Z ((L 2 Z Z).trans (cB g308)) (by decide) ?_
     refine U.x Z Z Z Z ((L 3 Z Z).trans (cB g308)) (by decide) ?_
     refine U.x Z Z Z Z ((L 4 Z Z).trans (cB g308)) (by decide) ?_
     refine U.x Z Z Z Z ((L 5 Z Z).trans (cB g308)) (by decide) ?_
     refine U.x Z Z Z Z ((L 6 Z Z).trans (cB g308)) (by decide) ?_
     refine U.p Z Z (.inl Z) (S.pickT Z ((L 7 Z Z).trans (cB g308)) K) ?_
     exact kk [(33, .bool true), (32, .tuple #[]), (31, .tuple #[]), (30, .tuple #[]), (29, .tuple #[]), (28, .tuple #[]), (27, .tuple #[]), (26, .tuple #[])] _ ⟨.tuple #[], .tuple #[], .tuple #[], .tuple #[], .tuple #[], .tuple #[], .tuple #[], Z, (by rw [g308, Bool.true_or])⟩
    ·skip
     refine U.p Z Z (.inr ⟨_, _, _, Z, Z, ((L 0 Z Z).trans (cB g308))⟩) (S.move Z (L 18 Z Z)) ?_
     refine U.p Z Z (.inr ⟨_, _, _, Z, Z, ((L 1 Z Z).trans (cB g308))⟩) (S.move Z (L 17 Z Z)) ?_
     refine U.p Z Z (.inr ⟨_, _, _, Z, Z, ((L 2 Z Z).trans (cB g308))⟩) (S.nilCheck Z (L 0 Z Z)) ?_
     refine U.p (v := .pointer (some ⟨b1, 1, none⟩)) Z Z (.inr ⟨_, _, _, Z, Z, ((L 3 Z Z).trans (cB g308))⟩) (S.fieldAddr Z (L 0 Z Z) Try.underlying46 Z ti43 Z Z) ?_
     refine U.k Z Z (.inr ⟨_, _, _, Z, Z, ((L 4 Z Z).trans (cB g308))⟩) (S.load Z (L 0 Z Z) Try.underlying43 Z ((ow.own (k := 0) Z).cell Z)) nd ?_
     refine U.p Z Z (.inr ⟨_, _, _, Z, Z, ((L 5 Z Z).trans (cB g308))⟩) (ow.oslen (k := 1) Z Z (L 0 Z Z) Try.underlying43) ?_
     refine U.p Z Z (.inr ⟨_, _, _, Z, Z, ((L 6 Z Z).trans (cB g308))⟩) (S.gtr Z (L 5 Z Z) (L 0 Z Z)) ?_
     refine U.p Z Z (.inl Z) (S.pickF Z ((L 7 Z Z).trans (cB g308)) (L 0 Z Z)) ?_
     exact kk [(33, .bool (decide ((p0.e.length : Int) < p2))), (32, .bool (decide ((p0.e.length : Int) < p2))), (31, .int .i64 (p0.e.length : Int)), (30, v4), (29, .pointer (some ⟨b1, 1, none⟩)), (28, .pointer (some ⟨b1, 0, none⟩)), (27, .pointer (some ⟨b1, 0, none⟩)), (26, .int .i64 p2)] _ ⟨.bool (decide ((p0.e.length : Int) < p2)), .int .i64 (p0.e.length : Int), v4, .pointer (some ⟨b1, 1, none⟩), .pointer (some ⟨b1, 0, none⟩), .pointer (some ⟨b1, 0, none⟩), .int .i64 p2, Z, (by rw [g308, Bool.false_or])⟩
  ·intro kk
   refine bcase (b := (decide (p1 < 0)) || (decide (p0.n ≤ p1))) (fun g309 => ?_) (fun g309 => ?_)
   ·skip
    refine U.x Z Z Z Z ((L 0 Z Z).trans (cB g309)) (by decide) ?_
    refine U.x Z Z Z Z ((L 1 Z Z).trans (cB g309)) (by decide) ?_
    refine U.p Z Z (.inl Z) (S.pickT Z ((L 2 Z Z).trans (cB g309)) K) ?_
    exact kk [(24, .bool true), (23, .tuple #[]), (22, .tuple #[])] _ ⟨.tuple #[], .tuple #[], Z, (by rw [g309, Bool.true_or])⟩
   ·skip
    refine U.p Z Z (.inr ⟨_, _, _, Z, Z, ((L 0 Z Z).trans (cB g309))⟩) (S.move Z (L 14 Z Z)) ?_
    refine U.p Z Z (.inr ⟨_, _, _, Z, Z, ((L 1 Z Z).trans (cB g309))⟩) (S.lss Z (L 0 Z Z) K) ?_
    refine U.p Z Z (.inl Z) (S.pickF Z ((L 2 Z Z).trans (cB g309)) (L 0 Z Z)) ?_
    exact kk [(24, .bool (decide (p2 < 1))), (23, .bool (decide (p2 < 1))), (22, .int .i64 p2)] _ ⟨.bool (decide (p2 < 1)), .int .i64 p2, Z, (by rw [g309, Bool.false_or])⟩
 ·intro kk
  refine bcase (b := decide (p1 < 0)) (fun g310 => ?_) (fun g310 => ?_)
  ·skip
   refine U.x Z Z Z Z ((L 0 Z Z).trans (cB g310)) (by decide) ?_
   refine U.x Z Z Z Z ((L 1 Z Z).trans (cB g310)) (by decide) ?_
   refine U.x Z Z Z Z ((L 2 Z Z).trans (cB g310)) (by decide) ?_
   refine U.x Z Z Z Z ((L 3 Z Z).trans (cB g310)) (by decide) ?_
   refine U.x Z Z Z Z ((L 4 Z Z).trans (cB g310)) (by decide) ?_
   refine U.x Z Z Z Z ((L 5 Z Z).trans (cB g310)) (by decide) ?_
   refine U.p Z Z (.inl Z) (S.pickT Z ((L 6 Z Z).trans (cB g310)) K) ?_
   exact kk [(20, .bool true), (19, .tuple #[]), (18, .tuple #[]), (17, .tuple #[]), (16, .tuple #[]), (15, .tuple #[]), (14, .tuple #[])] _ ⟨.tuple #[], .tuple #[], .tuple #[], .tuple #[], .tuple #[], .tuple #[], Z, (by rw [g310, Bool.true_or])⟩
  ·skip
   refine U.p Z Z (.inr ⟨_, _, _, Z, Z, ((L 0 Z Z).trans (cB g310))⟩) (S.move Z (L 5 Z Z)) ?_
   refine U.p Z Z (.inr ⟨_, _, _, Z, Z, ((L 1 Z Z).trans (cB g310))⟩) (S.move Z (L 5 Z Z)) ?_
   refine U.p Z Z (.inr ⟨_, _, _, Z, Z, ((L 2 Z Z).trans (cB g310))⟩) (S.nilCheck Z (L 0 Z Z)) ?_
   refine U.p (v := .pointer (some ⟨b1, 0, none⟩)) Z Z (.inr ⟨_, _, _, Z, Z, ((L 3 Z Z).trans (cB g310))⟩) (S.fieldAddr Z (L 0 Z Z) Try.underlying46 Z ti3 Z Z) ?_
   refine U.k Z Z (.inr ⟨_, _, _, Z, Z, ((L 4 Z Z).trans (cB g310))⟩) (S.load Z (L 0 Z Z) Try.underlying3 Z ((ow.own (k := 0) Z).cell Z)) nd ?_
   refine U.p Z Z (.inr ⟨_, _, _, Z, Z, ((L 5 Z Z).trans (cB g310))⟩) (S.geq Z (L 4 Z Z) (L 0 Z Z)) ?_
   refine U.p Z Z (.inl Z) (S.pickF Z ((L 6 Z Z).trans (cB g310)) (L 0 Z Z)) ?_
   exact kk [(20, .bool (decide (p0.n ≤ p1))), (19, .bool (decide (p0.n ≤ p1))), (18, .int .i64 p0.n), (17, .pointer (some ⟨b1, 0, none⟩)), (16, .pointer (some ⟨b1, 0, none⟩)), (15, .pointer (some ⟨b1, 0, none⟩)), (14, .int .i64 p1)] _ ⟨.bool (decide (p0.n ≤ p1)), .int .i64 p0.n, .pointer (some ⟨b1, 0, none⟩), .pointer (some ⟨b1, 0, none⟩), .pointer (some ⟨b1, 0, none⟩), .int .i64 p1, Z, (by rw [g310, Bool.false_or])⟩
theorem wk_storage_Storage_Go (V : Vw) (Rs : List At) (p0 : Tstorage_Storage) (p1 : Int) (p2 : Int) (b1 : Nat) (z2 : Nat) (v4 : Value) (v6 : Value) (hs7 : List Value) (v9 : Value) (hs10 : List Value) (v12 : Value) (hs13 : List Value) (v15 : Value) (ow : Ow V (.pt b1 (.cells z2 [v4, v6, v9, v12, v15]) :: .os RT_Tref16_Event v4 p0.events :: .oss (RO.os (RT.int .i64)) v6 hs7 p0.seen :: .oss (RO.om RT.bool false) v9 hs10 p0.has :: .oss (RO.om (RT.int .i64) false) v12 hs13 p0.now :: .om (RT.int .i64) false v15 p0.last :: Rs)) (r : Int × Tstorage_Storage) (h : storage_Storage_Go p0 p1 p2 = some r) : ∃ v V', Cl Try.prog 0 18 #[.pointer (some ⟨b1, 0, none⟩), .int .i64 p1, .int .i64 p2] V.H v V'.H ∧ V.le V' ∧ (∃ (v17 : Value) (hs18 : List Value) (v20 : Value) (hs21 : List Value) (v23 : Value) (hs24 : List Value) (v26 : Value), v = .int .i64 r.1 ∧ Ow V' (.pt b1 (.cells z2 [v4, v17, v20, v23, v26]) :: .os RT_Tref16_Event v4 r.2.events :: .oss (RO.os (RT.int .i64)) v17 hs18 r.2.seen :: .oss (RO.om RT.bool false) v20 hs21 r.2.has :: .oss (RO.om (RT.int .i64) false) v23 hs24 r.2.now :: .om (RT.int .i64) false v26 r.2.last :: Rs)) := by
 refine Ct.of (Nat.zero_le _) Try.func18 Z (nr Z) ?_
 unfold storage_Storage_Go at h
 refine WP.usreg Z ?_
 refine U.p Z Z (.inl Z) (S.assign Z K) ?_
 refine U.done (nr Z) ?_
 refine WP.seq ?_
 refine WP.blk ?_
 refine WP.usreg Z ?_
 refine U.p Z Z (.inl Z) (S.move Z (L 1 Z Z)) ?_
 refine U.p Z Z (.inl Z) (S.nilP Z (.inl Z) (L 0 Z Z) K Try.underlying24) ?_
 refine U.p Z Z (.inl Z) (S.assign Z (L 0 Z Z)) ?_
 refine U.done (nr Z) ?_
 refine WP.cond false (L 0 Z Z) Z (fun h => by cases h) (fun _ => ?_)
 refine WP.usreg Z ?_
 refine U.p Z Z (.inl Z) (S.move Z (L 4 Z Z)) ?_
 refine U.p Z Z (.inl Z) (S.move Z (L 6 Z Z)) ?_
 refine U.p Z Z (.inl Z) (S.move Z (L 8 Z Z)) ?_
 have ow28 := ow.pick 5 Z
 have ow29 := ow28.pick 5 Z
 have ow30 := ow29.pick 5 Z
 have ow31 := ow30.pick 5 Z
 have ow32 := ow31.pick 5 Z
 have ow33 := ow32.pick 5 Z
 obtain ⟨x34, hx35, h36⟩ := bindS h
 refine O.call (V := V) Z Z (.inl Z) Z en25 (aC (L 2 Z Z) (aC (L 1 Z Z) (aC (L 0 Z Z) aN))) (wk_storage_Storage_May V _ p0 p1 p2 b1 z2 v4 v6 hs7 v9 hs10 v12 hs13 v15 ow33 _ hx35) (fun _ _ _ _ => nd) (fun v37 V38 le39 hp40 => ?_)
 obtain ⟨rfl, ow41⟩ := hp40
 refine U.p Z Z (.inl Z) (S.not Z (L 0 Z Z)) ?_
 refine U.p Z Z (.inl Z) (S.assign Z (L 0 Z Z)) ?_
 refine U.done (nr Z) ?_
 refine WP.cond _ (L 0 Z Z) Z (fun c42 => ?_) (fun c42 => ?_)
 ·have h43 := ifT c42 h36
  have k44 : x34 = false := nT c42
  refine WP.usreg Z ?_
  refine U.p Z Z (.inl Z) (S.assign Z K) ?_
  refine U.done (nr Z) ?_
  refine WP.ret ?_
  refine blkR (sqR ?_)
  refine fin.slot (.inr Z) Z (L 0 Z Z) ⟨V38, Z, le39, ?_⟩
  have e45 := Option.some.inj h43
  subst e45
  exact ⟨v6, hs7, v9, hs10, v12, hs13, v15, Z, ow41⟩
 ·have h46 := ifF c42 h36
  have k47 : x34 = true := nF c42
  refine WP.skip ?_
  refine blkN (sqN ?_)
  refine WP.usreg Z ?_
  refine U.p Z Z (.inl Z) (S.move Z (L 10 Z Z)) ?_
  refine U.p Z Z (.inl Z) (S.move Z (L 12 Z Z)) ?_
  refine U.p Z Z (.inl Z) (S.move Z (L 14 Z Z)) ?_
  have ow48 := ow41.pick 5 Z
  have ow49 := ow48.pick 5 Z
  have ow50 := ow49.pick 5 Z
  have ow51 := ow50.pick 5 Z
  have ow52 := ow51.pick 5 Z
  have ow53 := ow52.pick 5 Z
  obtain ⟨x54, hx55, h56⟩ := bindS h46
  refine O.call (V := V38) Z Z (.inl Z) Z en31 (aC (L 2 Z Z) (aC (L 1 Z Z) (aC (L 0 Z Z) aN))) (wk_storage_Storage_come V38 _ p0 p1 p2 b1 z2 v4 v6 hs7 v9 hs10 v12 hs13 v15 ow53 _ hx55) (fun _ _ _ _ => nd) (fun v57 V58 le59 hp60 => ?_)
  obtain ⟨v62, hs63, v65, hs66, v68, hs69, v71, ow61⟩ := hp60
  refine U.done (nr Z) ?_
  refine WP.usreg Z ?_
  refine U.p Z Z (.inl Z) (S.assign Z K) ?_
  refine U.done (nr Z) ?_
  refine WP.ret ?_
  refine fin.slot (.inr Z) Z (L 0 Z Z) ⟨V58, Z, (le39.trans le59), ?_⟩
  have e73 := Option.some.inj h56
  subst e73
  exact ⟨v62, hs63, v65, hs66, v68, hs69, v71, Z, ow61⟩
theorem wk_storage_Storage_Threads (V : Vw) (Rs : List At) (p0 : Tstorage_Storage) (b1 : Nat) (z2 : Nat) (v4 : Value) (v6 : Value) (hs7 : List Value) (v9 : Value) (hs10 : List Value) (v12 : Value) (hs13 : List Value) (v15 : Value) (ow : Ow V (.pt b1 (.cells z2 [v4, v6, v9, v12, v15]) :: .os RT_Tref16_Event v4 p0.events :: .oss (RO.os (RT.int .i64)) v6 hs7 p0.seen :: .oss (RO.om RT.bool false) v9 hs10 p0.has :: .oss (RO.om (RT.int .i64) false) v12 hs13 p0.now :: .om (RT.int .i64) false v15 p0.last :: Rs)) (r : Int) (h : storage_Storage_Threads p0 = some r) : ∃ v V', Cl Try.prog 0 11 #[.pointer (some ⟨b1, 0, none⟩)] V.H v V'.H ∧ V.le V' ∧ (v = .int .i64 r ∧ Ow V' (.pt b1 (.cells z2 [v4, v6, v9, v12, v15]) :: .os RT_Tref16_Event v4 p0.events :: .oss (RO.os (RT.int .i64)) v6 hs7 p0.seen :: .oss (RO.om RT.bool false) v9 hs10 p0.has :: .oss (RO.om (RT.int .i64) false) v12 hs13 p0.now :: .om (RT.int .i64) false v15 p0.last :: Rs)) := by
 refine Ct.of (Nat.zero_le _) Try.func11 Z (nr Z) ?_
 unfold storage_Storage_Threads at h
 refine WP.usreg Z ?_
 refine U.p Z Z (.inl Z) (S.assign Z K) ?_
 refine U.done (nr Z) ?_
 refine WP.seq ?_
 refine WP.usreg Z ?_
 refine U.p Z Z (.inl Z) (S.move Z (L 1 Z Z)) ?_
 refine U.p Z Z (.inl Z) (S.nilP Z (.inl Z) (L 0 Z Z) K Try.underlying24) ?_
 refine U.done (nr Z) ?_
 refine WP.cond false (L 0 Z Z) Z (fun h => by cases h) (fun _ => ?_)
 refine WP.skip ?_
 refine sqN ?_
 refine WP.usreg Z ?_
 refine U.p Z Z (.inl Z) (S.move Z (L 3 Z Z)) ?_
 refine U.p Z Z (.inl Z) (S.nilCheck Z (L 0 Z Z)) ?_
 refine U.p (v := .pointer (some ⟨b1, 1, none⟩)) Z Z (.inl Z) (S.fieldAddr Z (L 0 Z Z) Try.underlying62 Z ti44 Z Z) ?_
 refine U.k Z Z (.inl Z) (S.load Z (L 0 Z Z) Try.underlying44 Z ((ow.own (k := 0) Z).cell Z)) nd ?_
 refine U.p Z Z (.inl Z) (ow.sslen (k := 2) Z Z (L 0 Z Z) Try.underlying44) ?_
 refine U.p Z Z (.inl Z) (S.assign Z (L 0 Z Z)) ?_
 refine U.done (nr Z) ?_
 refine WP.ret ?_
 refine fin.slot (.inr Z) Z (L 0 Z Z) ⟨V, Z, (.refl _), ?_⟩
 have e17 := Option.some.inj h
 subst e17
 exact ⟨rfl, ow⟩
theorem wk_storage_Storage_Settle (V : Vw) (Rs : List At) (p0 : Tstorage_Storage) (b1 : Nat) (z2 : Nat) (v4 : Value) (v6 : Value) (hs7 : List Value) (v9 : Value) (hs10 : List Value) (v12 : Value) (hs13 : List Value) (v15 : Value) (ow : Ow V (.pt b1 (.cells z2 [v4, v6, v9, v12, v15]) :: .os RT_Tref16_Event v4 p0.events :: .oss (RO.os (RT.int .i64)) v6 hs7 p0.seen :: .oss (RO.om RT.bool false) v9 hs10 p0.has :: .oss (RO.om (RT.int .i64) false) v12 hs13 p0.now :: .om (RT.int .i64) false v15 p0.last :: Rs)) (r : Tstorage_Storage) (h : storage_Storage_Settle p0 = some r) : ∃ v V', Cl Try.prog 0 23 #[.pointer (some ⟨b1, 0, none⟩)] V.H v V'.H ∧ V.le V' ∧ (∃ (v17 : Value) (hs18 : List Value) (v20 : Value) (hs21 : List Value) (v23 : Value) (hs24 : List Value) (v26 : Value), Ow V' (.pt b1 (.cells z2 [v4, v17, v20, v23, v26]) :: .os RT_Tref16_Event v4 r.events :: .oss (RO.os (RT.int .i64)) v17 hs18 r.seen :: .oss (RO.om RT.bool false) v20 hs21 r.has :: .oss (RO.om (RT.int .i64) false) v23 hs24 r.now :: .om (RT.int .i64) false v26 r.last :: Rs)) := by
 refine Ct.of (Nat.zero_le _) Try.func23 Z (nr Z) ?_
 unfold storage_Storage_Settle at h
 refine WP.usreg Z ?_
 refine U.p Z Z (.inl Z) (S.move Z (L 0 Z Z)) ?_
 have ow28 := ow.pick 5 Z
 have ow29 := ow28.pick 5 Z
 have ow30 := ow29.pick 5 Z
 have ow31 := ow30.pick 5 Z
 have ow32 := ow31.pick 5 Z
 have ow33 := ow32.pick 5 Z
 obtain ⟨x34, hx35, h36⟩ := bindS h
 refine O.call (V := V) Z Z (.inl Z) Z en11 (aC (L 0 Z Z) aN) (wk_storage_Storage_Threads V _ p0 b1 z2 v4 v6 hs7 v9 hs10 v12 hs13 v15 ow33 _ hx35) (fun _ _ _ _ => nd) (fun v37 V38 le39 hp40 => ?_)
 obtain ⟨rfl, ow41⟩ := hp40
 refine U.p Z Z (.inl Z) (S.move Z K) ?_
 refine U.done (nr Z) ?_
 refine WP.blk ?_
 unfold storage_Storage_Settle_l1 at h36
 obtain ⟨n60, hn59⟩ := loopO_some.1 h36
 refine WP.loopI2 (fun n l V' => ∃ (xs42 : List Tref16_Event) (v44 : Value) (hs45 : List Value) (xs46 : List (List Int)) (v48 : Value) (hs49 : List Value) (xs50 : List (List (Int × Bool))) (v52 : Value) (hs53 : List Value) (xs54 : List (List (Int × Int))) (v56 : Value) (xs57 : List (Int × Int)) (x58 : Int), l = [(0, .pointer (some ⟨b1, 0, none⟩)), (5, .int .i64 x34), (6, .int .i64 x58)] ∧ V38.le V' ∧ Ow V' (.pt b1 (.cells z2 [v4, v44, v48, v52, v56]) :: .os RT_Tref16_Event v4 xs42 :: .oss (RO.os (RT.int .i64)) v44 hs45 xs46 :: .oss (RO.om RT.bool false) v48 hs49 xs50 :: .oss (RO.om (RT.int .i64) false) v52 hs53 xs54 :: .om (RT.int .i64) false v56 xs57 :: Rs) ∧ itO (fun s => storage_Storage_Settle_l1b x34 s.1 s.2.1 s.2.2.1 s.2.2.2.1 s.2.2.2.2.1 s.2.2.2.2.2) n (xs42, xs46, xs50, xs54, xs57, x58) = some r) n60 _ ⟨p0.events, v6, hs7, p0.seen, v9, hs10, p0.has, v12, hs13, p0.now, v15, p0.last, 0, Z, .refl _, ow41, hn59⟩ (allCons (L 3 Z Z) (allCons (L 1 Z Z) (allCons (L 0 Z Z) allNil))) ?_
 rintro _ _ V61 ⟨xs42, v44, hs45, xs46, v48, hs49, xs50, v52, hs53, xs54, v56, xs57, x58, rfl, le62, ow63, h67⟩
 obtain ⟨m64, q65, rfl, h68, e66⟩ := itS h67
 replace h68 : storage_Storage_Settle_l1b x34 xs42 xs46 xs50 xs54 xs57 x58 = some q65 := h68
 unfold storage_Storage_Settle_l1b at h68
 refine WP.usreg Z ?_
 refine U.p Z Z (.inl Z) (S.lss Z (L 2 Z Z) (L 1 Z Z)) ?_
 refine U.done (nr Z) ?_
 refine WP.seq ?_
 refine WP.cond _ (L 0 Z Z) Z (fun c69 => ?_) (fun c69 => ?_)
 ·have h70 := ifT c69 h68
  refine WP.skip ?_
  refine sqN ?_
  refine WP.seq ?_
  refine WP.blk ?_
  refine WP.usreg Z ?_
  refine U.p Z Z (.inl Z) (S.move Z (L 3 Z Z)) ?_
  refine U.p Z Z (.inl Z) (S.assign Z (L 0 Z Z)) ?_
  refine U.done (nr Z) ?_
  refine WP.usreg Z ?_
  refine U.p Z Z (.inl Z) (S.move Z (L 3 Z Z)) ?_
  refine U.p Z Z (.inl Z) (S.nilCheck Z (L 0 Z Z)) ?_
  refine U.p (v := .pointer (some ⟨b1, 0, none⟩)) Z Z (.inl Z) (S.fieldAddr Z (L 0 Z Z) Try.underlying62 Z ti53 Z Z) ?_
  refine U.k Z Z (.inl Z) (S.load Z (L 0 Z Z) Try.underlying53 Z ((ow63.own (k := 0) Z).cell Z)) nd ?_
  refine U.p Z Z (.inl Z) (ow63.oslen (k := 1) Z Z (L 0 Z Z) Try.underlying53) ?_
  refine U.p Z Z (.inl Z) (S.move Z K) ?_
  refine U.done (nr Z) ?_
  refine WP.blk ?_
  unfold storage_Storage_Settle_l2 at h70
  obtain ⟨n89, hn88⟩ := loopO_some.1 h70
  refine WP.loopI2 (fun n l V' => ∃ (xs71 : List Tref16_Event) (v73 : Value) (hs74 : List Value) (xs75 : List (List Int)) (v77 : Value) (hs78 : List Value) (xs79 : List (List (Int × Bool))) (v81 : Value) (hs82 : List Value) (xs83 : List (List (Int × Int))) (v85 : Value) (xs86 : List (Int × Int)) (x87 : Int), l = [(0, .pointer (some ⟨b1, 0, none⟩)), (2, .int .i64 x58), (5, .int .i64 x34), (6, .int .i64 x58), (13, .int .i64 (xs42.length : Int)), (14, .int .i64 x87)] ∧ V61.le V' ∧ Ow V' (.pt b1 (.cells z2 [v4, v73, v77, v81, v85]) :: .os RT_Tref16_Event v4 xs71 :: .oss (RO.os (RT.int .i64)) v73 hs74 xs75 :: .oss (RO.om RT.bool false) v77 hs78 xs79 :: .oss (RO.om (RT.int .i64) false) v81 hs82 xs83 :: .om (RT.int .i64) false v85 xs86 :: Rs) ∧ itO (fun s => storage_Storage_Settle_l2b xs42 x58 s.1 s.2.1 s.2.2.1 s.2.2.2.1 s.2.2.2.2.1 s.2.2.2.2.2) n (xs71, xs75, xs79, xs83, xs86, x87) = some q65) n89 _ ⟨xs42, v44, hs45, xs46, v48, hs49, xs50, v52, hs53, xs54, v56, xs57, 0, Z, .refl _, ow63, hn88⟩ (allCons (L 9 Z Z) (allCons (L 6 Z Z) (allCons (L 10 Z Z) (allCons (L 11 Z Z) (allCons (L 1 Z Z) (allCons (L 0 Z Z) allNil)))))) ?_
  rintro _ _ V90 ⟨xs71, v73, hs74, xs75, v77, hs78, xs79, v81, hs82, xs83, v85, xs86, x87, rfl, le91, ow92, h96⟩
  obtain ⟨m93, q94, rfl, h97, e95⟩ := itS h96
  replace h97 : storage_Storage_Settle_l2b xs42 x58 xs71 xs75 xs79 xs83 xs86 x87 = some q94 := h97
  unfold storage_Storage_Settle_l2b at h97
  refine WP.usreg Z ?_
  refine U.p Z Z (.inl Z) (S.lss Z (L 5 Z Z) (L 4 Z Z)) ?_
  refine U.done (nr Z) ?_
  refine WP.seq ?_
  refine WP.cond _ (L 0 Z Z) Z (fun c98 => ?_) (fun c98 => ?_)
  ·have h99 := ifT c98 h97
   refine WP.skip ?_
   refine sqN ?_
   refine WP.seqI (fun l V' => ∃ (xs100 : List Tref16_Event) (v102 : Value) (hs103 : List Value) (xs104 : List (List Int)) (v106 : Value) (hs107 : List Value) (xs108 : List (List (Int × Bool))) (v110 : Value) (hs111 : List Value) (xs112 : List (List (Int × Int))) (v114 : Value) (xs115 : List (Int × Int)), l = [(0, .pointer (some ⟨b1, 0, none⟩)), (2, .int .i64 x58), (5, .int .i64 x34), (6, .int .i64 x58), (13, .int .i64 (xs42.length : Int)), (14, .int .i64 x87)] ∧ V90.le V' ∧ Ow V' (.pt b1 (.cells z2 [v4, v102, v106, v110, v114]) :: .os RT_Tref16_Event v4 xs100 :: .oss (RO.os (RT.int .i64)) v102 hs103 xs104 :: .oss (RO.om RT.bool false) v106 hs107 xs108 :: .oss (RO.om (RT.int .i64) false) v110 hs111 xs112 :: .om (RT.int .i64) false v114 xs115 :: Rs) ∧ storage_Storage_Settle_k1 x87 xs100 xs104 xs108 xs112 xs115 = some q94) ?_ ?_
   ·rintro _ V116 ⟨xs100, v102, hs103, xs104, v106, hs107, xs108, v110, hs111, xs112, v114, xs115, rfl, le117, ow118, h119⟩
    unfold storage_Storage_Settle_k1 at h119
    refine WP.ureg Z ?_
    refine U.p Z Z (.inl Z) (S.add Z (L 5 Z Z) K) ?_
    refine U.p Z Z (.inl Z) (S.move Z (L 0 Z Z)) ?_
    refine U.done (nr Z) ?_
    refine sqN ?_
    exact ⟨_, V116, Z, ⟨m93, Nat.lt_succ_self _, xs100, v102, hs103, xs104, v106, hs107, xs108, v110, hs111, xs112, v114, xs115, w64 (x87 + 1), Z, (le91.trans le117), ow118, backS h119 e95⟩, (allCons (L 2 Z Z) (allCons (L 3 Z Z) (allCons (L 4 Z Z) (allCons (L 5 Z Z) (allCons (L 6 Z Z) (allCons (L 0 Z Z) allNil))))))⟩
   ·skip
    refine WP.blk ?_
    refine WP.usreg Z ?_
    refine U.p Z Z (.inl Z) (S.move Z (L 6 Z Z)) ?_
    refine U.p Z Z (.inl Z) (S.assign Z (L 0 Z Z)) ?_
    refine U.done (nr Z) ?_
    refine WP.usreg Z ?_
    refine U.p Z Z (.inl Z) (S.move Z (L 3 Z Z)) ?_
    refine U.p Z Z (.inl Z) (S.move Z (L 5 Z Z)) ?_
    refine U.p Z Z (.inl Z) (S.move Z (L 2 Z Z)) ?_
    refine U.p Z Z (.inl Z) (S.add Z (L 0 Z Z) K) ?_
    have ow120 := ow92.pick 5 Z
    have ow121 := ow120.pick 5 Z
    have ow122 := ow121.pick 5 Z
    have ow123 := ow122.pick 5 Z
    have ow124 := ow123.pick 5 Z
    have ow125 := ow124.pick 5 Z
    obtain ⟨x126, hx127, h128⟩ := bindS h99
    refine O.call (V := V90) Z Z (.inl Z) Z en25 (aC (L 3 Z Z) (aC (L 2 Z Z) (aC (L 0 Z Z) aN))) (wk_storage_Storage_May V90 _ (⟨xs71, xs75, xs79, xs83, xs86⟩ : Tstorage_Storage) x58 (w64 (x87 + 1)) b1 z2 v4 v73 hs74 v77 hs78 v81 hs82 v85 ow125 _ hx127) (fun _ _ _ _ => nd) (fun v129 V130 le131 hp132 => ?_)
    obtain ⟨rfl, ow133⟩ := hp132
    refine U.done (nr Z) ?_
    refine WP.cond _ (L 0 Z Z) Z (fun c134 => ?_) (fun c134 => ?_)
    ·have h135 := ifT c134 h128
     refine WP.ureg Z ?_
     refine U.p Z Z (.inl Z) (S.move Z (L 8 Z Z)) ?_
     refine U.p Z Z (.inl Z) (S.move Z (L 10 Z Z)) ?_
     refine U.p Z Z (.inl Z) (S.move Z (L 7 Z Z)) ?_
     refine U.p Z Z (.inl Z) (S.add Z (L 0 Z Z) K) ?_
     have ow136 := ow133.pick 5 Z
     have ow137 := ow136.pick 5 Z
     have ow138 := ow137.pick 5 Z
     have ow139 := ow138.pick 5 Z
     have ow140 := ow139.pick 5 Z
     have ow141 := ow140.pick 5 Z
     obtain ⟨x142, hx143, h144⟩ := bindS h135
     refine O.call (V := V130) Z Z (.inl Z) Z en18 (aC (L 3 Z Z) (aC (L 2 Z Z) (aC (L 0 Z Z) aN))) (wk_storage_Storage_Go V130 _ (⟨xs71, xs75, xs79, xs83, xs86⟩ : Tstorage_Storage) x58 (w64 (x87 + 1)) b1 z2 v4 v73 hs74 v77 hs78 v81 hs82 v85 ow141 _ hx143) (fun _ _ _ _ => nd) (fun v145 V146 le147 hp148 => ?_)
     obtain ⟨v150, hs151, v153, hs154, v156, hs157, v159, rfl, ow149⟩ := hp148
     refine U.done (nr Z) ?_
     refine blkN (sqN ?_)
     exact ⟨_, V146, Z, ⟨x142.2.events, v150, hs151, x142.2.seen, v153, hs154, x142.2.has, v156, hs157, x142.2.now, v159, x142.2.last, Z, (le131.trans le147), ow149, h144⟩, (allCons (L 13 Z Z) (allCons (L 14 Z Z) (allCons (L 15 Z Z) (allCons (L 16 Z Z) (allCons (L 17 Z Z) (allCons (L 18 Z Z) allNil))))))⟩
    ·have h161 := ifF c134 h128
     refine WP.skip ?_
     refine blkN (sqN ?_)
     exact ⟨_, V130, Z, ⟨xs71, v73, hs74, xs75, v77, hs78, xs79, v81, hs82, xs83, v85, xs86, Z, le131, ow133, h161⟩, (allCons (L 8 Z Z) (allCons (L 9 Z Z) (allCons (L 10 Z Z) (allCons (L 11 Z Z) (allCons (L 12 Z Z) (allCons (L 13 Z Z) allNil))))))⟩
  ·have h162 := ifF c98 h97
   refine WP.exit ?_
   refine sqE (sqE (blkE (blkN (sqN ?_))))
   have h163 := exitS h162 e95
   refine WP.ureg Z ?_
   refine U.p Z Z (.inl Z) (S.add Z (L 4 Z Z) K) ?_
   refine U.p Z Z (.inl Z) (S.move Z (L 0 Z Z)) ?_
   refine U.done (nr Z) ?_
   refine sqN ?_
   exact ⟨_, V90, Z, ⟨m64, Nat.lt_succ_self _, xs71, v73, hs74, xs75, v77, hs78, xs79, v81, hs82, xs83, v85, xs86, w64 (x58 + 1), Z, (le62.trans le91), ow92, backS h163 e66⟩, (allCons (L 3 Z Z) (allCons (L 5 Z Z) (allCons (L 0 Z Z) allNil)))⟩
 ·have h164 := ifF c69 h68
  refine WP.exit ?_
  refine sqE (sqE (blkE ?_))
  have h165 := exitS h164 e66
  refine fin.slots' (.inl Z) fsN Z ⟨V61, Z, (le39.trans le62), ?_⟩
  have e166 := Option.some.inj h165
  subst e166
  exact ⟨v44, hs45, v48, hs49, v52, hs53, v56, ow63⟩
theorem wk_slices_Clone (V : Vw) (Rs : List At) (p0 : List Tref16_Event) (v1 : Value) (ow : Ow V (.os RT_Tref16_Event v1 p0 :: Rs)) (r : List Tref16_Event) (h : slices_Clone p0 = some r) : ∃ v V', Cl Try.prog 0 32 #[v1] V.H v V'.H ∧ V.le V' ∧ (∃ (v3 : Value), v = v3 ∧ Ow V' (.os RT_Tref16_Event v3 r :: .os RT_Tref16_Event v1 p0 :: Rs)) := by
 refine Ct.of (Nat.zero_le _) Try.func32 Z (nr Z) ?_
 unfold slices_Clone at h
 refine WP.usreg Z ?_
 refine U.p Z Z (.inl Z) (S.assign Z K) ?_
 refine U.done (nr Z) ?_
 refine WP.seq ?_
 refine WP.usreg Z ?_
 refine U.p Z Z (.inl Z) (S.move Z (L 1 Z Z)) ?_
 refine U.p Z Z (.inl Z) (ow.oseqNil (k := 0) Z Z (L 0 Z Z) K Try.underlying53) ?_
 refine U.done (nr Z) ?_
 refine WP.cond _ (L 0 Z Z) Z (fun c5 => ?_) (fun c5 => ?_)
 ·have hz := (ow.osnil_of (k := 0) Z c5)
  have h6 : (some [] : Option _) = some r := by simpa [hz, ap, apw, apk] using h
  refine WP.usreg Z ?_
  refine U.p Z Z (.inl Z) (S.assign Z K) ?_
  refine U.done (nr Z) ?_
  refine WP.ret ?_
  refine sqR ?_
  have ow7 := ow.nil RT_Tref16_Event
  refine fin.slot (.inr Z) Z (L 0 Z Z) ⟨V, Z, (.refl _), ?_⟩
  have e9 := Option.some.inj h6
  subst e9
  exact ⟨(.slice none 0 0), Z, ow7⟩
 ·skip
  refine WP.skip ?_
  refine sqN ?_
  refine WP.usreg Z ?_
  refine O.lit (R := RT_Tref16_Event) ow Z Z (.inl Z) Z Try.underlying53 ti55 Z Z Z (nr Z) Z aN .nil (fun _ => nd) (fun v10 V11 le12 ow13 => ?_)
  refine U.p Z Z (.inl Z) (S.move Z (L 4 Z Z)) ?_
  obtain ⟨xs15, hx16, h17⟩ := bindS h
  refine O.append (k := 0) ow13 Z Z Z (.inl Z) Z (L 1 Z Z) (L 0 Z Z) Try.underlying53 ti55 Z Z (nr Z) (ow13.src (k := 1) Z Try.underlying53) hx16 (fun _ _ => nd) (fun v18 V19 le20 ow21 => ?_)
  refine U.p Z Z (.inl Z) (S.assign Z (L 0 Z Z)) ?_
  refine U.done (nr Z) ?_
  refine WP.ret ?_
  refine fin.slot (.inr Z) Z (L 0 Z Z) ⟨V19, Z, (le12.trans le20), ?_⟩
  have e23 := Option.some.inj h17
  subst e23
  exact ⟨v18, Z, ow21⟩
theorem wk_storage_Storage_Events (V : Vw) (Rs : List At) (p0 : Tstorage_Storage) (b1 : Nat) (z2 : Nat) (v4 : Value) (v6 : Value) (hs7 : List Value) (v9 : Value) (hs10 : List Value) (v12 : Value) (hs13 : List Value) (v15 : Value) (ow : Ow V (.pt b1 (.cells z2 [v4, v6, v9, v12, v15]) :: .os RT_Tref16_Event v4 p0.events :: .oss (RO.os (RT.int .i64)) v6 hs7 p0.seen :: .oss (RO.om RT.bool false) v9 hs10 p0.has :: .oss (RO.om (RT.int .i64) false) v12 hs13 p0.now :: .om (RT.int .i64) false v15 p0.last :: Rs)) (r : List Tref16_Event) (h : storage_Storage_Events p0 = some r) : ∃ v V', Cl Try.prog 0 24 #[.pointer (some ⟨b1, 0, none⟩)] V.H v V'.H ∧ V.le V' ∧ (∃ (v17 : Value), v = v17 ∧ Ow V' (.os RT_Tref16_Event v17 r :: .pt b1 (.cells z2 [v4, v6, v9, v12, v15]) :: .os RT_Tref16_Event v4 p0.events :: .oss (RO.os (RT.int .i64)) v6 hs7 p0.seen :: .oss (RO.om RT.bool false) v9 hs10 p0.has :: .oss (RO.om (RT.int .i64) false) v12 hs13 p0.now :: .om (RT.int .i64) false v15 p0.last :: Rs)) := by
 refine Ct.of (Nat.zero_le _) Try.func24 Z (nr Z) ?_
 unfold storage_Storage_Events at h
 refine WP.usreg Z ?_
 refine U.p Z Z (.inl Z) (S.assign Z K) ?_
 refine U.done (nr Z) ?_
 refine WP.seq ?_
 refine WP.usreg Z ?_
 refine U.p Z Z (.inl Z) (S.move Z (L 1 Z Z)) ?_
 refine U.p Z Z (.inl Z) (S.nilP Z (.inl Z) (L 0 Z Z) K Try.underlying24) ?_
 refine U.done (nr Z) ?_
 refine WP.cond false (L 0 Z Z) Z (fun h => by cases h) (fun _ => ?_)
 refine WP.skip ?_
 refine sqN ?_
 refine WP.usreg Z ?_
 refine U.p Z Z (.inl Z) (S.move Z (L 3 Z Z)) ?_
 refine U.p Z Z (.inl Z) (S.nilCheck Z (L 0 Z Z)) ?_
 refine U.p (v := .pointer (some ⟨b1, 0, none⟩)) Z Z (.inl Z) (S.fieldAddr Z (L 0 Z Z) Try.underlying62 Z ti53 Z Z) ?_
 refine U.k Z Z (.inl Z) (S.load Z (L 0 Z Z) Try.underlying53 Z ((ow.own (k := 0) Z).cell Z)) nd ?_
 have ow19 := ow.pick 1 Z
 obtain ⟨x20, hx21, h22⟩ := bindS h
 refine O.call (V := V) Z Z (.inl Z) Z en32 (aC (L 0 Z Z) aN) (wk_slices_Clone V _ p0.events v4 ow19 _ hx21) (fun _ _ _ _ => nd) (fun v23 V24 le25 hp26 => ?_)
 obtain ⟨_, rfl, ow27⟩ := hp26
 refine U.p Z Z (.inl Z) (S.assign Z (L 0 Z Z)) ?_
 refine U.done (nr Z) ?_
 refine WP.ret ?_
 refine fin.slot (.inr Z) Z (L 0 Z Z) ⟨V24, Z, le25, ?_⟩
 have ow30 := ow27.pick 6 Z
 have ow31 := ow30.pick 6 Z
 have ow32 := ow31.pick 6 Z
 have ow33 := ow32.pick 6 Z
 have ow34 := ow33.pick 5 Z
 have ow35 := ow34.pick 6 Z
 have ow36 := ow35.pick 6 Z
 have e37 := Option.some.inj h22
 subst e37
 exact ⟨v23, Z, ow36⟩
theorem wk_storage_Storage_Acked (V : Vw) (Rs : List At) (p0 : Tstorage_Storage) (p1 : Int) (b1 : Nat) (z2 : Nat) (v4 : Value) (v6 : Value) (hs7 : List Value) (v9 : Value) (hs10 : List Value) (v12 : Value) (hs13 : List Value) (v15 : Value) (ow : Ow V (.pt b1 (.cells z2 [v4, v6, v9, v12, v15]) :: .os RT_Tref16_Event v4 p0.events :: .oss (RO.os (RT.int .i64)) v6 hs7 p0.seen :: .oss (RO.om RT.bool false) v9 hs10 p0.has :: .oss (RO.om (RT.int .i64) false) v12 hs13 p0.now :: .om (RT.int .i64) false v15 p0.last :: Rs)) (r : Bool) (h : storage_Storage_Acked p0 p1 = some r) : ∃ v V', Cl Try.prog 0 22 #[.pointer (some ⟨b1, 0, none⟩), .int .i64 p1] V.H v V'.H ∧ V.le V' ∧ (v = .bool r ∧ Ow V' (.pt b1 (.cells z2 [v4, v6, v9, v12, v15]) :: .os RT_Tref16_Event v4 p0.events :: .oss (RO.os (RT.int .i64)) v6 hs7 p0.seen :: .oss (RO.om RT.bool false) v9 hs10 p0.has :: .oss (RO.om (RT.int .i64) false) v12 hs13 p0.now :: .om (RT.int .i64) false v15 p0.last :: Rs)) := by
 refine Ct.of (Nat.zero_le _) Try.func22 Z (nr Z) ?_
 unfold storage_Storage_Acked at h
 refine WP.usreg Z ?_
 refine U.p Z Z (.inl Z) (S.assign Z K) ?_
 refine U.done (nr Z) ?_
 refine WP.seq ?_
 refine WP.usreg Z ?_
 refine U.p Z Z (.inl Z) (S.move Z (L 1 Z Z)) ?_
 refine U.p Z Z (.inl Z) (S.nilP Z (.inl Z) (L 0 Z Z) K Try.underlying24) ?_
 refine U.p Z Z (.inl Z) (S.move Z (L 0 Z Z)) ?_
 refine U.p Z Z (.inr ⟨_, _, _, Z, Z, (L 0 Z Z)⟩) (S.move Z (L 5 Z Z)) ?_
 refine U.p Z Z (.inr ⟨_, _, _, Z, Z, (L 1 Z Z)⟩) (S.lss Z (L 0 Z Z) K) ?_
 refine U.p Z Z (.inl Z) (S.pickF Z (L 2 Z Z) (L 0 Z Z)) ?_
 refine U.p Z Z (.inl Z) (S.move Z (L 0 Z Z)) ?_
 refine U.joinX 15 (fun e H => ∃ (u17 u18 u19 u20 u21 u22 u23 : Value), H = V.H ∧ e = [(20, .bool ((decide (p1 < 1)) || (decide ((p0.events.length : Int) < p1)))), (19, u17), (18, u18), (17, u19), (16, u20), (15, u21), (14, u22), (13, u23)]) ?_ ?_
 ·rintro _ _ ⟨u17, u18, u19, u20, u21, u22, u23, rfl, rfl⟩
  refine U.p Z Z (.inl Z) (S.move Z (L 0 Z Z)) ?_
  obtain ⟨y27, hy28, h29⟩ := bindS h
  refine U.joinX 27 (fun e H => ∃ (u30 u31 u32 u33 u34 u35 u36 u37 u38 u39 : Value), H = V.H ∧ e = [(32, .bool y27), (31, u30), (30, u31), (29, u32), (28, u33), (27, u34), (26, u35), (25, u36), (24, u37), (23, u38), (22, u39)]) ?_ ?_
  ·rintro _ _ ⟨u30, u31, u32, u33, u34, u35, u36, u37, u38, u39, rfl, rfl⟩
   refine U.done (nr Z) ?_
   refine WP.cond _ (L 0 Z Z) Z (fun c43 => ?_) (fun c43 => ?_)
   ·have h44 := ifT c43 h29
    refine WP.usreg Z ?_
    refine U.p Z Z (.inl Z) (S.assign Z K) ?_
    refine U.done (nr Z) ?_
    refine WP.ret ?_
    refine sqR ?_
    refine fin.slot (.inr Z) Z (L 0 Z Z) ⟨V, Z, (.refl _), ?_⟩
    have e45 := Option.some.inj h44
    subst e45
    exact ⟨rfl, ow⟩
   ·have h46 := ifF c43 h29
    refine WP.skip ?_
    refine sqN ?_
    refine WP.seq ?_
    refine WP.usreg Z ?_
    refine U.p Z Z (.inl Z) (S.move Z (L 28 Z Z)) ?_
    refine U.p Z Z (.inl Z) (S.nilCheck Z (L 0 Z Z)) ?_
    refine U.p (v := .pointer (some ⟨b1, 1, none⟩)) Z Z (.inl Z) (S.fieldAddr Z (L 0 Z Z) Try.underlying62 Z ti44 Z Z) ?_
    refine U.k Z Z (.inl Z) (S.load Z (L 0 Z Z) Try.underlying44 Z ((ow.own (k := 0) Z).cell Z)) nd ?_
    refine U.p Z Z (.inl Z) (ow.sslen (k := 2) Z Z (L 0 Z Z) Try.underlying44) ?_
    refine U.p Z Z (.inl Z) (S.move Z K) ?_
    refine U.done (nr Z) ?_
    refine WP.blk ?_
    unfold storage_Storage_Acked_l1 at h46
    obtain ⟨n49, hn48⟩ := loopO_some.1 h46
    refine WP.loopI2 (fun n l V' => ∃ (x47 : Int), l = [(0, .pointer (some ⟨b1, 0, none⟩)), (1, .int .i64 p1), (37, .int .i64 (p0.seen.length : Int)), (38, .int .i64 x47)] ∧ V.le V' ∧ Ow V' (.pt b1 (.cells z2 [v4, v6, v9, v12, v15]) :: .os RT_Tref16_Event v4 p0.events :: .oss (RO.os (RT.int .i64)) v6 hs7 p0.seen :: .oss (RO.om RT.bool false) v9 hs10 p0.has :: .oss (RO.om (RT.int .i64) false) v12 hs13 p0.now :: .om (RT.int .i64) false v15 p0.last :: Rs) ∧ itO (fun s => storage_Storage_Acked_l1b p0 p1 s) n x47 = some r) n49 _ ⟨0, Z, .refl _, ow, hn48⟩ (allCons (L 34 Z Z) (allCons (L 35 Z Z) (allCons (L 1 Z Z) (allCons (L 0 Z Z) allNil)))) ?_
    rintro _ _ V50 ⟨x47, rfl, le51, ow52, h56⟩
    obtain ⟨m53, q54, rfl, h57, e55⟩ := itS h56
    replace h57 : storage_Storage_Acked_l1b p0 p1 x47 = some q54 := h57
    unfold storage_Storage_Acked_l1b at h57
    refine WP.usreg Z ?_
    refine U.p Z Z (.inl Z) (S.lss Z (L 3 Z Z) (L 2 Z Z)) ?_
    refine U.done (nr Z) ?_
    refine WP.seq ?_
    refine WP.cond _ (L 0 Z Z) Z (fun c58 => ?_) (fun c58 => ?_)
    ·have h59 := ifT c58 h57
     refine WP.skip ?_
     refine sqN ?_
     refine WP.seq ?_
     refine WP.blk ?_
     refine WP.usreg Z ?_
     refine U.p Z Z (.inl Z) (S.move Z (L 4 Z Z)) ?_
     refine U.p Z Z (.inl Z) (S.assign Z (L 0 Z Z)) ?_
     refine U.done (nr Z) ?_
     refine WP.usreg Z ?_
     refine U.p Z Z (.inl Z) (S.move Z (L 3 Z Z)) ?_
     refine U.p Z Z (.inl Z) (S.move Z (L 1 Z Z)) ?_
     refine U.p Z Z (.inl Z) (S.move Z (L 6 Z Z)) ?_
     have ow60 := ow52.pick 5 Z
     have ow61 := ow60.pick 5 Z
     have ow62 := ow61.pick 5 Z
     have ow63 := ow62.pick 5 Z
     have ow64 := ow63.pick 5 Z
     have ow65 := ow64.pick 5 Z
     obtain ⟨x66, hx67, h68⟩ := bindS h59
     refine O.call (V := V50) Z Z (.inl Z) Z en20 (aC (L 2 Z Z) (aC (L 1 Z Z) (aC (L 0 Z Z) aN))) (wk_storage_Storage_Seen V50 _ p0 x47 p1 b1 z2 v4 v6 hs7 v9 hs10 v12 hs13 v15 ow65 _ hx67) (fun _ _ _ _ => nd) (fun v69 V70 le71 hp72 => ?_)
     obtain ⟨rfl, ow73⟩ := hp72
     refine U.p Z Z (.inl Z) (S.not Z (L 0 Z Z)) ?_
     refine U.done (nr Z) ?_
     refine WP.cond _ (L 0 Z Z) Z (fun c74 => ?_) (fun c74 => ?_)
     ·have h75 := ifT c74 h68
      have k76 : x66 = false := nT c74
      refine WP.usreg Z ?_
      refine U.p Z Z (.inl Z) (S.assign Z K) ?_
      refine U.done (nr Z) ?_
      refine WP.ret ?_
      refine blkR (sqR (sqR (blkR (sqR ?_))))
      have h77 := exitS h75 e55
      refine fin.slot (.inr Z) Z (L 0 Z Z) ⟨V70, Z, (le51.trans le71), ?_⟩
      have e78 := Option.some.inj h77
      subst e78
      exact ⟨rfl, ow73⟩
     ·have h79 := ifF c74 h68
      have k80 : x66 = true := nF c74
      refine WP.skip ?_
      refine blkN (sqN ?_)
      refine WP.ureg Z ?_
      refine U.p Z Z (.inl Z) (S.add Z (L 11 Z Z) K) ?_
      refine U.p Z Z (.inl Z) (S.move Z (L 0 Z Z)) ?_
      refine U.done (nr Z) ?_
      refine sqN ?_
      exact ⟨_, V70, Z, ⟨m53, Nat.lt_succ_self _, w64 (x47 + 1), Z, (le51.trans le71), ow73, backS h79 e55⟩, (allCons (L 10 Z Z) (allCons (L 11 Z Z) (allCons (L 12 Z Z) (allCons (L 0 Z Z) allNil))))⟩
    ·have h81 := ifF c58 h57
     refine WP.exit ?_
     refine sqE (sqE (blkE (sqN ?_)))
     have h82 := exitS h81 e55
     refine WP.usreg Z ?_
     refine U.p Z Z (.inl Z) (S.assign Z K) ?_
     refine U.done (nr Z) ?_
     refine WP.ret ?_
     refine fin.slot (.inr Z) Z (L 0 Z Z) ⟨V50, Z, le51, ?_⟩
     have e83 := Option.some.inj h82
     subst e83
     exact ⟨rfl, ow52⟩
  ·intro kk
   refine bcase (b := (decide (p1 < 1)) || (decide ((p0.events.length : Int) < p1))) (fun g84 => ?_) (fun g84 => ?_)
   ·have h85 := ifT g84 hy28
    refine U.x Z Z Z Z ((L 0 Z Z).trans (cB g84)) (by decide) ?_
    refine U.x Z Z Z Z ((L 1 Z Z).trans (cB g84)) (by decide) ?_
    refine U.x Z Z Z Z ((L 2 Z Z).trans (cB g84)) (by decide) ?_
    refine U.x Z Z Z Z ((L 3 Z Z).trans (cB g84)) (by decide) ?_
    refine U.x Z Z Z Z ((L 4 Z Z).trans (cB g84)) (by decide) ?_
    refine U.x Z Z Z Z ((L 5 Z Z).trans (cB g84)) (by decide) ?_
    refine U.x Z Z Z Z ((L 6 Z Z).trans (cB g84)) (by decide) ?_
    refine U.x Z Z Z Z ((L 7 Z Z).trans (cB g84)) (by decide) ?_
    refine U.x Z Z Z Z ((L 8 Z Z).trans (cB g84)) (by decide) ?_
    refine U.x Z Z Z Z ((L 9 Z Z).trans (cB g84)) (by decide) ?_
    refine U.p Z Z (.inl Z) (S.pickT Z ((L 10 Z Z).trans (cB g84)) K) ?_
    have e86 := Option.some.inj h85
    subst e86
    exact kk [(32, .bool true), (31, .tuple #[]), (30, .tuple #[]), (29, .tuple #[]), (28, .tuple #[]), (27, .tuple #[]), (26, .tuple #[]), (25, .tuple #[]), (24, .tuple #[]), (23, .tuple #[]), (22, .tuple #[])] _ ⟨.tuple #[], .tuple #[], .tuple #[], .tuple #[], .tuple #[], .tuple #[], .tuple #[], .tuple #[], .tuple #[], .tuple #[], Z, Z⟩
   ·have h87 := ifF g84 hy28
    refine U.p Z Z (.inr ⟨_, _, _, Z, Z, ((L 0 Z Z).trans (cB g84))⟩) (S.move Z (L 17 Z Z)) ?_
    refine U.p Z Z (.inr ⟨_, _, _, Z, Z, ((L 1 Z Z).trans (cB g84))⟩) (S.nilCheck Z (L 0 Z Z)) ?_
    refine U.p (v := .pointer (some ⟨b1, 0, none⟩)) Z Z (.inr ⟨_, _, _, Z, Z, ((L 2 Z Z).trans (cB g84))⟩) (S.fieldAddr Z (L 0 Z Z) Try.underlying62 Z ti53 Z Z) ?_
    refine U.k Z Z (.inr ⟨_, _, _, Z, Z, ((L 3 Z Z).trans (cB g84))⟩) (S.load Z (L 0 Z Z) Try.underlying53 Z ((ow.own (k := 0) Z).cell Z)) nd ?_
    refine U.p Z Z (.inr ⟨_, _, _, Z, Z, ((L 4 Z Z).trans (cB g84))⟩) (S.move Z (L 22 Z Z)) ?_
    refine U.p Z Z (.inr ⟨_, _, _, Z, Z, ((L 5 Z Z).trans (cB g84))⟩) (S.sub Z (L 0 Z Z) K) ?_
    obtain ⟨x88, hx89, h90⟩ := bindS h87
    obtain ⟨b91, o92, n93, c94, hv95⟩ := ow.ospt (k := 1) Z hx89
    obtain ⟨_, hv96, _⟩ := ow.osel (k := 1) Z hv95 hx89
    refine U.p Z Z (.inr ⟨_, _, _, Z, Z, ((L 6 Z Z).trans (cB g84))⟩) (S.index Z ((L 2 Z Z).trans hv96) (L 0 Z Z) Try.underlying53 ti55 (ix_ge hx89) (ix_lt hx89)) ?_
    refine U.p (v := .pointer (some ⟨b91, o92 + Int.toNat (w64 (p1 - 1)) * 4 + 1, none⟩)) Z Z (.inr ⟨_, _, _, Z, Z, ((L 7 Z Z).trans (cB g84))⟩) (S.fieldAddr Z (L 0 Z Z) Try.underlying55 Z ti4 Z Z) ?_
    obtain ⟨cs97, hv98, hlt99, hr100, hc101⟩ := ow.osel (k := 1) Z hv95 hx89
    obtain rfl : cs97 = [.int .i64 x88.thread, .bool x88.bar, .int .i64 x88.at_, .int .i64 x88.val] := hr100
    refine U.k Z Z (.inr ⟨_, _, _, Z, Z, ((L 8 Z Z).trans (cB g84))⟩) (S.load Z (L 0 Z Z) Try.underlying4 Z (hc101 1 _ Z)) nd ?_
    refine U.p Z Z (.inr ⟨_, _, _, Z, Z, ((L 9 Z Z).trans (cB g84))⟩) (S.not Z (L 0 Z Z)) ?_
    refine U.p Z Z (.inl Z) (S.pickF Z ((L 10 Z Z).trans (cB g84)) (L 0 Z Z)) ?_
    have e102 := Option.some.inj h90
    subst e102
    exact kk [(32, .bool (!x88.bar)), (31, .bool (!x88.bar)), (30, .bool x88.bar), (29, .pointer (some ⟨b91, o92 + Int.toNat (w64 (p1 - 1)) * 4 + 1, none⟩)), (28, .pointer (some ⟨b91, o92 + Int.toNat (w64 (p1 - 1)) * 4, none⟩)), (27, .int .i64 (w64 (p1 - 1))), (26, .int .i64 p1), (25, v4), (24, .pointer (some ⟨b1, 0, none⟩)), (23, .pointer (some ⟨b1, 0, none⟩)), (22, .pointer (some ⟨b1, 0, none⟩))] _ ⟨.bool (!x88.bar), .bool x88.bar, .pointer (some ⟨b91, o92 + Int.toNat (w64 (p1 - 1)) * 4 + 1, none⟩), .pointer (some ⟨b91, o92 + Int.toNat (w64 (p1 - 1)) * 4, none⟩), .int .i64 (w64 (p1 - 1)), .int .i64 p1, v4, .pointer (some ⟨b1, 0, none⟩), .pointer (some ⟨b1, 0, none⟩), .pointer (some ⟨b1, 0, none⟩), Z, Z⟩
 ·intro kk
  refine bcase (b := decide (p1 < 1)) (fun g103 => ?_) (fun g103 => ?_)
  ·skip
   refine U.x Z Z Z Z ((L 0 Z Z).trans (cB g103)) (by decide) ?_
   refine U.x Z Z Z Z ((L 1 Z Z).trans (cB g103)) (by decide) ?_
   refine U.x Z Z Z Z ((L 2 Z Z).trans (cB g103)) (by decide) ?_
   refine U.x Z Z Z Z ((L 3 Z Z).trans (cB g103)) (by decide) ?_
   refine U.x Z Z Z Z ((L 4 Z Z).trans (cB g103)) (by decide) ?_
   refine U.x Z Z Z Z ((L 5 Z Z).trans (cB g103)) (by decide) ?_
   refine U.x Z Z Z Z ((L 6 Z Z).trans (cB g103)) (by decide) ?_
   refine U.p Z Z (.inl Z) (S.pickT Z ((L 7 Z Z).trans (cB g103)) K) ?_
   exact kk [(20, .bool true), (19, .tuple #[]), (18, .tuple #[]), (17, .tuple #[]), (16, .tuple #[]), (15, .tuple #[]), (14, .tuple #[]), (13, .tuple #[])] _ ⟨.tuple #[], .tuple #[], .tuple #[], .tuple #[], .tuple #[], .tuple #[], .tuple #[], Z, (by rw [g103, Bool.true_or])⟩
  ·skip
   refine U.p Z Z (.inr ⟨_, _, _, Z, Z, ((L 0 Z Z).trans (cB g103))⟩) (S.move Z (L 9 Z Z)) ?_
   refine U.p Z Z (.inr ⟨_, _, _, Z, Z, ((L 1 Z Z).trans (cB g103))⟩) (S.move Z (L 9 Z Z)) ?_
   refine U.p Z Z (.inr ⟨_, _, _, Z, Z, ((L 2 Z Z).trans (cB g103))⟩) (S.nilCheck Z (L 0 Z Z)) ?_
   refine U.p (v := .pointer (some ⟨b1, 0, none⟩)) Z Z (.inr ⟨_, _, _, Z, Z, ((L 3 Z Z).trans (cB g103))⟩) (S.fieldAddr Z (L 0 Z Z) Try.underlying62 Z ti53 Z Z) ?_
   refine U.k Z Z (.inr ⟨_, _, _, Z, Z, ((L 4 Z Z).trans (cB g103))⟩) (S.load Z (L 0 Z Z) Try.underlying53 Z ((ow.own (k := 0) Z).cell Z)) nd ?_
   refine U.p Z Z (.inr ⟨_, _, _, Z, Z, ((L 5 Z Z).trans (cB g103))⟩) (ow.oslen (k := 1) Z Z (L 0 Z Z) Try.underlying53) ?_
   refine U.p Z Z (.inr ⟨_, _, _, Z, Z, ((L 6 Z Z).trans (cB g103))⟩) (S.gtr Z (L 5 Z Z) (L 0 Z Z)) ?_
   refine U.p Z Z (.inl Z) (S.pickF Z ((L 7 Z Z).trans (cB g103)) (L 0 Z Z)) ?_
   exact kk [(20, .bool (decide ((p0.events.length : Int) < p1))), (19, .bool (decide ((p0.events.length : Int) < p1))), (18, .int .i64 (p0.events.length : Int)), (17, v4), (16, .pointer (some ⟨b1, 0, none⟩)), (15, .pointer (some ⟨b1, 0, none⟩)), (14, .pointer (some ⟨b1, 0, none⟩)), (13, .int .i64 p1)] _ ⟨.bool (decide ((p0.events.length : Int) < p1)), .int .i64 (p0.events.length : Int), v4, .pointer (some ⟨b1, 0, none⟩), .pointer (some ⟨b1, 0, none⟩), .pointer (some ⟨b1, 0, none⟩), .int .i64 p1, Z, (by rw [g103, Bool.false_or])⟩
end Go.Vm.G16s
