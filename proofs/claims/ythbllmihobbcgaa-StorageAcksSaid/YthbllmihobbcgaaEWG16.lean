/-
  What the functions compute is what the plain ones say, for all inputs at which those answer.
-/
import Derived.Test.YthbllmihobbcgaaEDG16
import Derived.Test.YthbllmihobbcgaaProg
set_option linter.unusedSimpArgs false
set_option linter.unusedVariables false
namespace Go.Vm.G16
open Go Go.Proofs

theorem ti3 : tinfo Try.prog 3 (.int .i64 0) 1 8 := by unfold tinfo; kernel_rfl
theorem ti4 : tinfo Try.prog 4 (.bool false) 1 1 := by unfold tinfo; kernel_rfl
theorem ti26 : tinfo Try.prog 26 (.slice none 0 0) 1 24 := by unfold tinfo; kernel_rfl
theorem ti35 : tinfo Try.prog 35 (.agg #[.int .i64 0, .int .i64 0, .int .i64 0, .int .i64 0, .int .i64 0]) 5 40 := by unfold tinfo; kernel_rfl
theorem ti39 : tinfo Try.prog 39 (.agg #[.int .i64 0, .bool false, .int .i64 0, .int .i64 0]) 4 32 := by unfold tinfo; kernel_rfl
theorem ti43 : tinfo Try.prog 43 (.slice none 0 0) 1 24 := by unfold tinfo; kernel_rfl
theorem ti44 : tinfo Try.prog 44 (.slice none 0 0) 1 24 := by unfold tinfo; kernel_rfl
theorem ti46 : tinfo Try.prog 46 (.agg #[.int .i64 0, .slice none 0 0, .slice none 0 0]) 3 56 := by unfold tinfo; kernel_rfl
theorem ti50 : tinfo Try.prog 50 (.agg #[.int .i64 0, .int .i64 0, .int .i64 0, .int .i64 0, .int .i64 0, .int .i64 0, .int .i64 0, .int .i64 0]) 8 64 := by unfold tinfo; kernel_rfl
theorem ti53 : tinfo Try.prog 53 (.slice none 0 0) 1 24 := by unfold tinfo; kernel_rfl
theorem ti55 : tinfo Try.prog 55 (.agg #[.int .i64 0, .bool false, .int .i64 0, .int .i64 0]) 4 32 := by unfold tinfo; kernel_rfl
theorem ti58 : tinfo Try.prog 58 (.map none) 1 8 := by unfold tinfo; kernel_rfl
theorem ti59 : tinfo Try.prog 59 (.slice none 0 0) 1 24 := by unfold tinfo; kernel_rfl
theorem ti60 : tinfo Try.prog 60 (.slice none 0 0) 1 24 := by unfold tinfo; kernel_rfl
theorem ti62 : tinfo Try.prog 62 (.agg #[.slice none 0 0, .slice none 0 0, .slice none 0 0, .slice none 0 0, .map none]) 5 104 := by unfold tinfo; kernel_rfl
theorem ti63 : tinfo Try.prog 63 (.map none) 1 8 := by unfold tinfo; kernel_rfl
theorem pl39 : placesAre Try.prog 39 #[(0, 1), (1, 1), (2, 1), (3, 1)] := ⟨_, Try.underlying39, by kernel_rfl⟩
theorem pl46 : placesAre Try.prog 46 #[(0, 1), (1, 1), (2, 1)] := ⟨_, Try.underlying46, by kernel_rfl⟩
theorem pl55 : placesAre Try.prog 55 #[(0, 1), (1, 1), (2, 1), (3, 1)] := ⟨_, Try.underlying55, by kernel_rfl⟩
theorem pl62 : placesAre Try.prog 62 #[(0, 1), (1, 1), (2, 1), (3, 1), (4, 1)] := ⟨_, Try.underlying62, by kernel_rfl⟩
theorem en9 : enterable Try.prog 9 := ⟨Try.f9, Try.func9, by kernel_rfl, rfl⟩
theorem en10 : enterable Try.prog 10 := ⟨Try.f10, Try.func10, by kernel_rfl, rfl⟩
theorem en11 : enterable Try.prog 11 := ⟨Try.f11, Try.func11, by kernel_rfl, rfl⟩
theorem en12 : enterable Try.prog 12 := ⟨Try.f12, Try.func12, by kernel_rfl, rfl⟩
theorem en13 : enterable Try.prog 13 := ⟨Try.f13, Try.func13, by kernel_rfl, rfl⟩
theorem en14 : enterable Try.prog 14 := ⟨Try.f14, Try.func14, by kernel_rfl, rfl⟩
theorem en15 : enterable Try.prog 15 := ⟨Try.f15, Try.func15, by kernel_rfl, rfl⟩
theorem en16 : enterable Try.prog 16 := ⟨Try.f16, Try.func16, by kernel_rfl, rfl⟩
theorem en17 : enterable Try.prog 17 := ⟨Try.f17, Try.func17, by kernel_rfl, rfl⟩
theorem en18 : enterable Try.prog 18 := ⟨Try.f18, Try.func18, by kernel_rfl, rfl⟩
theorem en19 : enterable Try.prog 19 := ⟨Try.f19, Try.func19, by kernel_rfl, rfl⟩
theorem en20 : enterable Try.prog 20 := ⟨Try.f20, Try.func20, by kernel_rfl, rfl⟩
theorem en21 : enterable Try.prog 21 := ⟨Try.f21, Try.func21, by kernel_rfl, rfl⟩
theorem en22 : enterable Try.prog 22 := ⟨Try.f22, Try.func22, by kernel_rfl, rfl⟩
theorem en23 : enterable Try.prog 23 := ⟨Try.f23, Try.func23, by kernel_rfl, rfl⟩
theorem en24 : enterable Try.prog 24 := ⟨Try.f24, Try.func24, by kernel_rfl, rfl⟩
theorem en25 : enterable Try.prog 25 := ⟨Try.f25, Try.func25, by kernel_rfl, rfl⟩
theorem en29 : enterable Try.prog 29 := ⟨Try.f29, Try.func29, by kernel_rfl, rfl⟩
theorem en30 : enterable Try.prog 30 := ⟨Try.f30, Try.func30, by kernel_rfl, rfl⟩
theorem en31 : enterable Try.prog 31 := ⟨Try.f31, Try.func31, by kernel_rfl, rfl⟩
theorem en32 : enterable Try.prog 32 := ⟨Try.f32, Try.func32, by kernel_rfl, rfl⟩
theorem en33 : enterable Try.prog 33 := ⟨Try.f33, Try.func33, by kernel_rfl, rfl⟩
theorem en34 : enterable Try.prog 34 := ⟨Try.f34, Try.func34, by kernel_rfl, rfl⟩
theorem en41 : enterable Try.prog 41 := ⟨Try.f41, Try.func41, by kernel_rfl, rfl⟩

set_option maxHeartbeats 4000000 in
set_option maxRecDepth 10000 in
theorem wk_storage_New (V : Vw) (Rs : List At) (p0 : Int) (ow : Ow V (Rs)) (r : Tstorage_Storage) (h : storage_New p0 = some r) : ∃ v V', Cl Try.prog 0 10 #[.int .i64 p0] V.H v V'.H ∧ V.le V' ∧ (∃ (b1 : Nat) (z2 : Nat) (v4 : Value) (v6 : Value) (hs7 : List Value) (v9 : Value) (hs10 : List Value) (v12 : Value) (hs13 : List Value) (v15 : Value), v = .pointer (some ⟨b1, 0, none⟩) ∧ Ow V' (.pt b1 (.cells z2 [v4, v6, v9, v12, v15]) :: .os RT_Tref16_Event v4 r.events :: .oss (RO.os (RT.int .i64)) v6 hs7 r.seen :: .oss (RO.om RT.bool false) v9 hs10 r.has :: .oss (RO.om (RT.int .i64) false) v12 hs13 r.now :: .om (RT.int .i64) false v15 r.last :: Rs)) := by
  refine Ct.of (Nat.zero_le _) Try.func10 rfl (Nat.le_of_ble_eq_true rfl) ?_
  unfold storage_New at h
  refine WP.usreg rfl ?_
  refine U.p rfl rfl (.inl rfl) (S.assign rfl K) ?_
  refine U.done (Nat.le_of_ble_eq_true rfl) ?_
  refine WP.usreg rfl ?_
  refine O.makeMap (RT.int .i64) false ow rfl rfl (.inl rfl) rfl (fun _ => nd) (fun v17 V18 le19 ow20 => ?_)
  refine U.p (v := .agg #[.slice none 0 0, .slice none 0 0, .slice none 0 0, .slice none 0 0, v17]) rfl rfl (.inl rfl) (S.build (vs := [v17]) rfl ti62 rfl pl62 (aC (L 0 rfl rfl) aN) (allC (ow20.omne (k := 0) rfl) allN) (fill1 rfl (ow20.omcells (k := 0) rfl) (Nat.le_of_ble_eq_true rfl) rfl)) ?_
  refine O.box ow20 rfl rfl (.inl rfl) rfl (L 0 rfl rfl) (by simp [topV]) rfl nd (fun b22 V23 le24 ow25 => ?_)
  refine U.p rfl rfl (.inl rfl) (S.assign rfl (L 0 rfl rfl)) ?_
  refine U.done (Nat.le_of_ble_eq_true rfl) ?_
  refine WP.seq ?_
  refine WP.usreg rfl ?_
  refine U.p rfl rfl (.inl rfl) (S.move rfl (L 5 rfl rfl)) ?_
  refine U.p rfl rfl (.inl rfl) (S.maxI rfl (L 0 rfl rfl) K) ?_
  refine U.p rfl rfl (.inl rfl) (S.minI rfl (L 0 rfl rfl) K) ?_
  refine U.p rfl rfl (.inl rfl) (S.move rfl K) ?_
  refine U.done (Nat.le_of_ble_eq_true rfl) ?_
  refine WP.blk ?_
  have ow40 := ow25.ssnil (RO.os (RT.int .i64))
  have ow42 := ow40.ssnil (RO.om RT.bool false)
  have ow44 := ow42.ssnil (RO.om (RT.int .i64) false)
  have ow46 := ow44.pick 4 rfl
  have ow47 := ow46.pick 1 rfl
  have ow48 := ow47.pick 2 rfl
  have ow49 := ow48.pick 3 rfl
  have ow50 := ow49.pick 4 rfl
  unfold storage_New_l1 at h
  obtain ⟨n52, hn51⟩ := loopO_some.1 h
  refine WP.loopI2 (fun n l V' => ∃ (v28 : Value) (hs29 : List Value) (xs30 : List (List Int)) (v32 : Value) (hs33 : List Value) (xs34 : List (List (Int × Bool))) (v36 : Value) (hs37 : List Value) (xs38 : List (List (Int × Int))) (x39 : Int), l = [(3, .pointer (some ⟨b22, 0, none⟩)), (9, .int .i64 (min (max p0 0) 8)), (10, .int .i64 x39)] ∧ V23.le V' ∧ Ow V' (.pt b22 (.cells 0 [.slice none 0 0, v28, v32, v36, v17]) :: .oss (RO.os (RT.int .i64)) v28 hs29 xs30 :: .oss (RO.om RT.bool false) v32 hs33 xs34 :: .oss (RO.om (RT.int .i64) false) v36 hs37 xs38 :: .om (RT.int .i64) false v17 [] :: Rs) ∧ itO (fun s => storage_New_l1b p0 s.1 s.2.1 s.2.2.1 s.2.2.2) n (xs30, xs34, xs38, x39) = some r) n52 _ ⟨(.slice none 0 0), [], [], (.slice none 0 0), [], [], (.slice none 0 0), [], [], 0, rfl, .refl _, ow50, hn51⟩ (allCons (L 4 rfl rfl) (allCons (L 1 rfl rfl) (allCons (L 0 rfl rfl) allNil))) ?_
  rintro _ _ V53 ⟨v28, hs29, xs30, v32, hs33, xs34, v36, hs37, xs38, x39, rfl, le54, ow55, h59⟩
  obtain ⟨m56, q57, rfl, h60, e58⟩ := itS h59
  replace h60 : storage_New_l1b p0 xs30 xs34 xs38 x39 = some q57 := h60
  unfold storage_New_l1b at h60
  refine WP.usreg rfl ?_
  refine U.p rfl rfl (.inl rfl) (S.lss rfl (L 2 rfl rfl) (L 1 rfl rfl)) ?_
  refine U.done (Nat.le_of_ble_eq_true rfl) ?_
  refine WP.seq ?_
  refine WP.cond _ (L 0 rfl rfl) rfl (fun c61 => ?_) (fun c61 => ?_)
  · have h62 := ifT c61 h60
    refine WP.skip ?_
    refine sqN ?_
    refine WP.seq ?_
    refine WP.blk ?_
    refine WP.udreg rfl rfl rfl ?_
    refine U.p rfl rfl (.inl rfl) (S.move rfl (L 1 rfl rfl)) ?_
    refine U.p rfl rfl (.inl rfl) (S.move rfl (L 2 rfl rfl)) ?_
    refine U.p rfl rfl (.inl rfl) (S.move rfl (L 3 rfl rfl)) ?_
    refine U.p rfl rfl (.inl rfl) (S.move rfl (L 4 rfl rfl)) ?_
    refine U.p rfl rfl (.inl rfl) (S.nilCheck rfl (L 0 rfl rfl)) ?_
    refine U.p (v := .pointer (some ⟨b22, 1, none⟩)) rfl rfl (.inl rfl) (S.fieldAddr rfl (L 0 rfl rfl) Try.underlying62 rfl ti44 rfl rfl) ?_
    refine U.k rfl rfl (.inl rfl) (S.load rfl (L 0 rfl rfl) Try.underlying44 rfl ((ow55.own (k := 0) rfl).cell rfl)) (fun _ => (okH.nil (fun r h => by cases h; exact (ow55.own (k := 0) rfl).lt))) ?_
    have ow63 := ow55.nil (RT.int .i64)
    refine O.litS (RI := (RO.os (RT.int .i64))) (Bs := [.os (RT.int .i64) (.slice none 0 0) []]) (As := .pt b22 (.cells 0 [.slice none 0 0, v28, v32, v36, v17]) :: .oss (RO.os (RT.int .i64)) v28 hs29 xs30 :: .oss (RO.om RT.bool false) v32 hs33 xs34 :: .oss (RO.om (RT.int .i64) false) v36 hs37 xs38 :: .om (RT.int .i64) false v17 [] :: Rs) (us := ([(.slice none 0 0)] : List Value)) (ys := [[]]) ow63 rfl rfl (.inl rfl) rfl Try.underlying44 ti26 rfl rfl (Nat.le_of_ble_eq_true rfl) rfl (aC K aN) (fun p hp => all1 hp) (fun _ => (fun _ => (okH.cons trivial (okH.nil (fun r h => nomatch h))))) (fun v65 V66 le67 ow68 => ?_)
    have ow70 := ow68.pick 2 rfl
    obtain ⟨xs71, hx72, h73⟩ := bindS h62
    refine O.appendS ow70 rfl rfl (.inl rfl) rfl (L 1 rfl rfl) (L 0 rfl rfl) Try.underlying44 ti26 rfl (Nat.le_of_ble_eq_true rfl) Try.underlying44 hx72 (by simp) (fun V1 hs => (fun _ => (okH.cons (Or.inl rfl) (okH.cons (Or.inl rfl) (okH.nil (fun r h => nomatch h)))))) (fun v74 V75 le76 ow77 => ?_)
    refine U.p rfl rfl (.inl rfl) (S.move rfl (L 10 rfl rfl)) ?_
    refine U.p rfl rfl (.inl rfl) (S.nilCheck rfl (L 0 rfl rfl)) ?_
    refine U.p (v := .pointer (some ⟨b22, 2, none⟩)) rfl rfl (.inl rfl) (S.fieldAddr rfl (L 0 rfl rfl) Try.underlying62 rfl ti59 rfl rfl) ?_
    refine U.k rfl rfl (.inl rfl) (S.load rfl (L 0 rfl rfl) Try.underlying59 rfl ((ow77.own (k := 1) rfl).cell rfl)) (fun _ => (okH.cons (Or.inr ((ow77.own (k := 1) rfl).get.trans (ow70.own (k := 2) rfl).get.symm)) (okH.cons trivial (okH.cons trivial (okH.nil (fun r h => by cases h; exact (ow77.own (k := 1) rfl).lt)))))) ?_
    refine O.makeMap RT.bool false ow77 rfl rfl (.inl rfl) rfl (fun _ => (fun _ => (okH.cons trivial (okH.cons trivial (okH.cons trivial (okH.cons trivial (okH.nil (fun r h => nomatch h)))))))) (fun v79 V80 le81 ow82 => ?_)
    refine O.litS (RI := (RO.om RT.bool false)) (Bs := [.om RT.bool false v79 []]) (As := .oss (RO.os (RT.int .i64)) v74 (hs29 ++ ([(.slice none 0 0)] : List Value)) xs71 :: .pt b22 (.cells 0 [.slice none 0 0, v28, v32, v36, v17]) :: .oss (RO.om RT.bool false) v32 hs33 xs34 :: .oss (RO.om (RT.int .i64) false) v36 hs37 xs38 :: .om (RT.int .i64) false v17 [] :: Rs) (us := ([v79] : List Value)) (ys := [[]]) ow82 rfl rfl (.inl rfl) rfl Try.underlying59 ti63 rfl rfl (Nat.le_of_ble_eq_true rfl) rfl (aC (L 0 rfl rfl) aN) (fun p hp => all1 hp) (fun _ => (fun _ => (okH.cons trivial (okH.cons trivial (okH.cons trivial (okH.cons trivial (okH.cons trivial (okH.nil (fun r h => nomatch h))))))))) (fun v84 V85 le86 ow87 => ?_)
    have ow89 := ow87.pick 3 rfl
    obtain ⟨xs90, hx91, h92⟩ := bindS h73
    refine O.appendS ow89 rfl rfl (.inl rfl) rfl (L 2 rfl rfl) (L 0 rfl rfl) Try.underlying59 ti63 rfl (Nat.le_of_ble_eq_true rfl) Try.underlying59 hx91 (by simp) (fun V1 hs => (fun _ => (okH.cons (Or.inl rfl) (okH.cons (Or.inl rfl) (okH.cons (Or.inl rfl) (okH.cons rfl (okH.cons (Or.inl rfl) (okH.cons (Or.inl rfl) (okH.nil (fun r h => nomatch h)))))))))) (fun v93 V94 le95 ow96 => ?_)
    refine U.p rfl rfl (.inl rfl) (S.move rfl (L 17 rfl rfl)) ?_
    refine U.p rfl rfl (.inl rfl) (S.nilCheck rfl (L 0 rfl rfl)) ?_
    refine U.p (v := .pointer (some ⟨b22, 3, none⟩)) rfl rfl (.inl rfl) (S.fieldAddr rfl (L 0 rfl rfl) Try.underlying62 rfl ti60 rfl rfl) ?_
    refine U.k rfl rfl (.inl rfl) (S.load rfl (L 0 rfl rfl) Try.underlying60 rfl ((ow96.own (k := 2) rfl).cell rfl)) (fun _ => (okH.cons (Or.inr ((ow96.own (k := 2) rfl).get.trans (ow89.own (k := 3) rfl).get.symm)) (okH.cons trivial (okH.cons trivial (okH.cons trivial (okH.cons (Or.inr ((ow77.own (k := 1) rfl).get.trans (ow70.own (k := 2) rfl).get.symm)) (okH.cons trivial (okH.cons trivial (okH.nil (fun r h => by cases h; exact (ow96.own (k := 2) rfl).lt)))))))))) ?_
    refine O.makeMap (RT.int .i64) false ow96 rfl rfl (.inl rfl) rfl (fun _ => (fun _ => (okH.cons trivial (okH.cons trivial (okH.cons trivial (okH.cons trivial (okH.cons trivial (okH.cons trivial (okH.cons trivial (okH.cons trivial (okH.nil (fun r h => nomatch h)))))))))))) (fun v98 V99 le100 ow101 => ?_)
    refine O.litS (RI := (RO.om (RT.int .i64) false)) (Bs := [.om (RT.int .i64) false v98 []]) (As := .oss (RO.om RT.bool false) v93 (hs33 ++ ([v79] : List Value)) xs90 :: .oss (RO.os (RT.int .i64)) v74 (hs29 ++ ([(.slice none 0 0)] : List Value)) xs71 :: .pt b22 (.cells 0 [.slice none 0 0, v28, v32, v36, v17]) :: .oss (RO.om (RT.int .i64) false) v36 hs37 xs38 :: .om (RT.int .i64) false v17 [] :: Rs) (us := ([v98] : List Value)) (ys := [[]]) ow101 rfl rfl (.inl rfl) rfl Try.underlying60 ti58 rfl rfl (Nat.le_of_ble_eq_true rfl) rfl (aC (L 0 rfl rfl) aN) (fun p hp => all1 hp) (fun _ => (fun _ => (okH.cons trivial (okH.cons trivial (okH.cons trivial (okH.cons trivial (okH.cons trivial (okH.cons trivial (okH.cons trivial (okH.cons trivial (okH.cons trivial (okH.nil (fun r h => nomatch h))))))))))))) (fun v103 V104 le105 ow106 => ?_)
    have ow108 := ow106.pick 4 rfl
    obtain ⟨xs109, hx110, h111⟩ := bindS h92
    refine O.appendS ow108 rfl rfl (.inl rfl) rfl (L 2 rfl rfl) (L 0 rfl rfl) Try.underlying60 ti58 rfl (Nat.le_of_ble_eq_true rfl) Try.underlying60 hx110 (by simp) (fun V1 hs => (fun _ => (okH.cons (Or.inl rfl) (okH.cons (Or.inl rfl) (okH.cons (Or.inl rfl) (okH.cons rfl (okH.cons (Or.inl rfl) (okH.cons (Or.inl rfl) (okH.cons (Or.inl rfl) (okH.cons rfl (okH.cons (Or.inl rfl) (okH.cons (Or.inl rfl) (okH.nil (fun r h => nomatch h)))))))))))))) (fun v112 V113 le114 ow115 => ?_)
    refine U.p rfl rfl (.inl rfl) (S.nilCheck rfl (L 22 rfl rfl)) ?_
    refine U.p (v := .pointer (some ⟨b22, 1, none⟩)) rfl rfl (.inl rfl) (S.fieldAddr rfl (L 0 rfl rfl) Try.underlying62 rfl ti44 rfl rfl) ?_
    refine O.store (k := 3) (cs := [v74]) (c' := [.slice none 0 0, v74, v32, v36, v17]) ow115 rfl rfl rfl (.inl rfl) rfl (L 0 rfl rfl) (L 16 rfl rfl) ti44 (ow115.ssne (k := 2) rfl) (by rw [ow115.sscells (k := 2) rfl]) rfl (Nat.le_of_ble_eq_true rfl) (by have q0 := (ow115.ssone (k := 2) rfl); simp only [List.all_cons, List.all_nil, q0]; rfl) rfl (fun _ => (okH.cons rfl (okH.cons (Or.inl rfl) (okH.cons (Or.inl rfl) (okH.cons (Or.inl rfl) (okH.cons rfl (okH.cons (Or.inl rfl) (okH.cons (Or.inl rfl) (okH.cons (Or.inl rfl) (okH.cons rfl (okH.cons (Or.inl rfl) (okH.cons (Or.inl rfl) (okH.nil (fun r h => nomatch h)))))))))))))) (fun V117 le118 ow119 => ?_)
    refine U.p rfl rfl (.inl rfl) (S.nilCheck rfl (L 23 rfl rfl)) ?_
    refine U.p (v := .pointer (some ⟨b22, 2, none⟩)) rfl rfl (.inl rfl) (S.fieldAddr rfl (L 0 rfl rfl) Try.underlying62 rfl ti59 rfl rfl) ?_
    refine O.store (k := 3) (cs := [v93]) (c' := [.slice none 0 0, v74, v93, v36, v17]) ow119 rfl rfl rfl (.inl rfl) rfl (L 0 rfl rfl) (L 11 rfl rfl) ti59 (ow119.ssne (k := 1) rfl) (by rw [ow119.sscells (k := 1) rfl]) rfl (Nat.le_of_ble_eq_true rfl) (by have q0 := (ow119.ssone (k := 1) rfl); simp only [List.all_cons, List.all_nil, q0]; rfl) rfl (fun _ => (okH.cons rfl (okH.cons rfl (okH.cons (Or.inl rfl) (okH.cons (Or.inl rfl) (okH.cons (Or.inl rfl) (okH.cons rfl (okH.cons (Or.inl rfl) (okH.cons (Or.inl rfl) (okH.cons (Or.inl rfl) (okH.cons rfl (okH.cons (Or.inl rfl) (okH.cons (Or.inl rfl) (okH.nil (fun r h => nomatch h))))))))))))))) (fun V120 le121 ow122 => ?_)
    refine U.p rfl rfl (.inl rfl) (S.nilCheck rfl (L 24 rfl rfl)) ?_
    refine U.p (v := .pointer (some ⟨b22, 3, none⟩)) rfl rfl (.inl rfl) (S.fieldAddr rfl (L 0 rfl rfl) Try.underlying62 rfl ti60 rfl rfl) ?_
    refine O.store (k := 3) (cs := [v112]) (c' := [.slice none 0 0, v74, v93, v112, v17]) ow122 rfl rfl rfl (.inl rfl) rfl (L 0 rfl rfl) (L 6 rfl rfl) ti60 (ow122.ssne (k := 0) rfl) (by rw [ow122.sscells (k := 0) rfl]) rfl (Nat.le_of_ble_eq_true rfl) (by have q0 := (ow122.ssone (k := 0) rfl); simp only [List.all_cons, List.all_nil, q0]; rfl) rfl (fun _ => (okH.cons rfl (okH.cons rfl (okH.cons rfl (okH.cons (Or.inl rfl) (okH.cons (Or.inl rfl) (okH.cons (Or.inl rfl) (okH.cons rfl (okH.cons (Or.inl rfl) (okH.cons (Or.inl rfl) (okH.cons (Or.inl rfl) (okH.cons rfl (okH.cons (Or.inl rfl) (okH.cons (Or.inl rfl) (okH.nil (fun r h => nomatch h)))))))))))))))) (fun V123 le124 ow125 => ?_)
    refine U.done (Nat.le_of_ble_eq_true rfl) ?_
    refine blkN (sqN ?_)
    refine WP.ureg rfl ?_
    refine U.p rfl rfl (.inl rfl) (S.add rfl (L 32 rfl rfl) K) ?_
    refine U.p rfl rfl (.inl rfl) (S.move rfl (L 0 rfl rfl)) ?_
    refine U.done (Nat.le_of_ble_eq_true rfl) ?_
    refine sqN ?_
    have ow126 := ow125.pick 4 rfl
    have ow127 := ow126.pick 1 rfl
    have ow128 := ow127.pick 2 rfl
    have ow129 := ow128.pick 3 rfl
    have ow130 := ow129.pick 4 rfl
    exact ⟨_, V123, rfl, ⟨m56, Nat.lt_succ_self _, v74, hs29 ++ ([(.slice none 0 0)] : List Value), xs71, v93, hs33 ++ ([v79] : List Value), xs90, v112, hs37 ++ ([v98] : List Value), xs109, w64 (x39 + 1), rfl, (((((((((((le54.trans le67).trans le76).trans le81).trans le86).trans le95).trans le100).trans le105).trans le114).trans le118).trans le121).trans le124), ow130, backS h111 e58⟩, (allCons (L 32 rfl rfl) (allCons (L 33 rfl rfl) (allCons (L 0 rfl rfl) allNil)))⟩
  · have h131 := ifF c61 h60
    refine WP.exit ?_
    refine sqE (sqE (blkE (sqN ?_)))
    have h132 := exitS h131 e58
    refine WP.usreg rfl ?_
    refine U.p rfl rfl (.inl rfl) (S.move rfl (L 1 rfl rfl)) ?_
    refine U.p rfl rfl (.inl rfl) (S.assign rfl (L 0 rfl rfl)) ?_
    refine U.done (Nat.le_of_ble_eq_true rfl) ?_
    refine WP.ret ?_
    have ow133 := ow55.nil RT_Tref16_Event
    refine fin.slot (.inr rfl) rfl (L 0 rfl rfl) ⟨V53, rfl, ((le19.trans le24).trans le54), ?_⟩
    have ow135 := ow133.pick 5 rfl
    have ow136 := ow135.pick 5 rfl
    have ow137 := ow136.pick 5 rfl
    have ow138 := ow137.pick 5 rfl
    have ow139 := ow138.pick 4 rfl
    have ow140 := ow139.pick 5 rfl
    have e141 := Option.some.inj h132
    subst e141
    exact ⟨b22, 0, (.slice none 0 0), v28, hs29, v32, hs33, v36, hs37, v17, rfl, ow140⟩

set_option maxHeartbeats 4000000 in
set_option maxRecDepth 10000 in
theorem wk_storage_Storage_thread (V : Vw) (Rs : List At) (p0 : Tstorage_Storage) (p1 : Int) (b1 : Nat) (z2 : Nat) (v4 : Value) (v6 : Value) (hs7 : List Value) (v9 : Value) (hs10 : List Value) (v12 : Value) (hs13 : List Value) (v15 : Value) (ow : Ow V (.pt b1 (.cells z2 [v4, v6, v9, v12, v15]) :: .os RT_Tref16_Event v4 p0.events :: .oss (RO.os (RT.int .i64)) v6 hs7 p0.seen :: .oss (RO.om RT.bool false) v9 hs10 p0.has :: .oss (RO.om (RT.int .i64) false) v12 hs13 p0.now :: .om (RT.int .i64) false v15 p0.last :: Rs)) (r : Bool) (h : storage_Storage_thread p0 p1 = some r) : ∃ v V', Cl Try.prog 0 29 #[.pointer (some ⟨b1, 0, none⟩), .int .i64 p1] V.H v V'.H ∧ V.le V' ∧ (v = .bool r ∧ Ow V' (.pt b1 (.cells z2 [v4, v6, v9, v12, v15]) :: .os RT_Tref16_Event v4 p0.events :: .oss (RO.os (RT.int .i64)) v6 hs7 p0.seen :: .oss (RO.om RT.bool false) v9 hs10 p0.has :: .oss (RO.om (RT.int .i64) false) v12 hs13 p0.now :: .om (RT.int .i64) false v15 p0.last :: Rs)) := by
  refine Ct.of (Nat.zero_le _) Try.func29 rfl (Nat.le_of_ble_eq_true rfl) ?_
  unfold storage_Storage_thread at h
  refine WP.usreg rfl ?_
  refine U.p rfl rfl (.inl rfl) (S.assign rfl K) ?_
  refine U.done (Nat.le_of_ble_eq_true rfl) ?_
  refine WP.usreg rfl ?_
  refine U.p rfl rfl (.inl rfl) (S.move rfl (L 1 rfl rfl)) ?_
  refine U.p rfl rfl (.inl rfl) (S.nilP rfl (.inr rfl) (L 0 rfl rfl) K Try.underlying24) ?_
  refine U.p rfl rfl (.inl rfl) (S.move rfl (L 0 rfl rfl)) ?_
  refine U.p rfl rfl (.inr ⟨_, _, _, rfl, rfl, (L 0 rfl rfl)⟩) (S.move rfl (L 5 rfl rfl)) ?_
  refine U.p rfl rfl (.inr ⟨_, _, _, rfl, rfl, (L 1 rfl rfl)⟩) (S.geq rfl (L 0 rfl rfl) K) ?_
  refine U.p rfl rfl (.inl rfl) (S.pickT rfl (L 2 rfl rfl) (L 0 rfl rfl)) ?_
  refine U.p rfl rfl (.inl rfl) (S.move rfl (L 0 rfl rfl)) ?_
  refine U.joinX 15 (fun e H => ∃ (u17 u18 u19 u20 u21 u22 u23 : Value), H = V.H ∧ e = [(19, .bool ((decide (0 ≤ p1)) && (decide (p1 < (p0.seen.length : Int))))), (18, u17), (17, u18), (16, u19), (15, u20), (14, u21), (13, u22), (12, u23)]) ?_ ?_
  · rintro _ _ ⟨u17, u18, u19, u20, u21, u22, u23, rfl, rfl⟩
    refine U.p rfl rfl (.inl rfl) (S.assign rfl (L 0 rfl rfl)) ?_
    refine U.done (Nat.le_of_ble_eq_true rfl) ?_
    refine WP.ret ?_
    refine fin.slot (.inr rfl) rfl (L 0 rfl rfl) ⟨V, rfl, (.refl _), ?_⟩
    have e27 := Option.some.inj h
    subst e27
    exact ⟨rfl, ow⟩
  · intro kk
    refine bcase (b := decide (0 ≤ p1)) (fun g28 => ?_) (fun g28 => ?_)
    · skip
      refine U.p rfl rfl (.inr ⟨_, _, _, rfl, rfl, ((L 0 rfl rfl).trans (congrArg Value.bool g28))⟩) (S.move rfl (L 9 rfl rfl)) ?_
      refine U.p rfl rfl (.inr ⟨_, _, _, rfl, rfl, ((L 1 rfl rfl).trans (congrArg Value.bool g28))⟩) (S.move rfl (L 9 rfl rfl)) ?_
      refine U.p rfl rfl (.inr ⟨_, _, _, rfl, rfl, ((L 2 rfl rfl).trans (congrArg Value.bool g28))⟩) (S.nilCheck rfl (L 0 rfl rfl)) ?_
      refine U.p (v := .pointer (some ⟨b1, 1, none⟩)) rfl rfl (.inr ⟨_, _, _, rfl, rfl, ((L 3 rfl rfl).trans (congrArg Value.bool g28))⟩) (S.fieldAddr rfl (L 0 rfl rfl) Try.underlying62 rfl ti44 rfl rfl) ?_
      refine U.k rfl rfl (.inr ⟨_, _, _, rfl, rfl, ((L 4 rfl rfl).trans (congrArg Value.bool g28))⟩) (S.load rfl (L 0 rfl rfl) Try.underlying44 rfl ((ow.own (k := 0) rfl).cell rfl)) nd ?_
      refine U.p rfl rfl (.inr ⟨_, _, _, rfl, rfl, ((L 5 rfl rfl).trans (congrArg Value.bool g28))⟩) (ow.sslen (k := 2) rfl rfl (L 0 rfl rfl) Try.underlying44) ?_
      refine U.p rfl rfl (.inr ⟨_, _, _, rfl, rfl, ((L 6 rfl rfl).trans (congrArg Value.bool g28))⟩) (S.lss rfl (L 5 rfl rfl) (L 0 rfl rfl)) ?_
      refine U.p rfl rfl (.inl rfl) (S.pickT rfl ((L 7 rfl rfl).trans (congrArg Value.bool g28)) (L 0 rfl rfl)) ?_
      exact kk [(19, .bool (decide (p1 < (p0.seen.length : Int)))), (18, .bool (decide (p1 < (p0.seen.length : Int)))), (17, .int .i64 (p0.seen.length : Int)), (16, v6), (15, .pointer (some ⟨b1, 1, none⟩)), (14, .pointer (some ⟨b1, 0, none⟩)), (13, .pointer (some ⟨b1, 0, none⟩)), (12, .int .i64 p1)] _ ⟨.bool (decide (p1 < (p0.seen.length : Int))), .int .i64 (p0.seen.length : Int), v6, .pointer (some ⟨b1, 1, none⟩), .pointer (some ⟨b1, 0, none⟩), .pointer (some ⟨b1, 0, none⟩), .int .i64 p1, rfl, (by rw [g28, Bool.true_and])⟩
    · skip
      refine U.x rfl rfl rfl rfl ((L 0 rfl rfl).trans (congrArg Value.bool g28)) (by decide) ?_
      refine U.x rfl rfl rfl rfl ((L 1 rfl rfl).trans (congrArg Value.bool g28)) (by decide) ?_
      refine U.x rfl rfl rfl rfl ((L 2 rfl rfl).trans (congrArg Value.bool g28)) (by decide) ?_
      refine U.x rfl rfl rfl rfl ((L 3 rfl rfl).trans (congrArg Value.bool g28)) (by decide) ?_
      refine U.x rfl rfl rfl rfl ((L 4 rfl rfl).trans (congrArg Value.bool g28)) (by decide) ?_
      refine U.x rfl rfl rfl rfl ((L 5 rfl rfl).trans (congrArg Value.bool g28)) (by decide) ?_
      refine U.x rfl rfl rfl rfl ((L 6 rfl rfl).trans (congrArg Value.bool g28)) (by decide) ?_
      refine U.p rfl rfl (.inl rfl) (S.pickF rfl ((L 7 rfl rfl).trans (congrArg Value.bool g28)) K) ?_
      exact kk [(19, .bool false), (18, .tuple #[]), (17, .tuple #[]), (16, .tuple #[]), (15, .tuple #[]), (14, .tuple #[]), (13, .tuple #[]), (12, .tuple #[])] _ ⟨.tuple #[], .tuple #[], .tuple #[], .tuple #[], .tuple #[], .tuple #[], .tuple #[], rfl, (by rw [g28, Bool.false_and])⟩

set_option maxHeartbeats 4000000 in
set_option maxRecDepth 10000 in
theorem wk_storage_Storage_come (V : Vw) (Rs : List At) (p0 : Tstorage_Storage) (p1 : Int) (p2 : Int) (b1 : Nat) (z2 : Nat) (v4 : Value) (v6 : Value) (hs7 : List Value) (v9 : Value) (hs10 : List Value) (v12 : Value) (hs13 : List Value) (v15 : Value) (ow : Ow V (.pt b1 (.cells z2 [v4, v6, v9, v12, v15]) :: .os RT_Tref16_Event v4 p0.events :: .oss (RO.os (RT.int .i64)) v6 hs7 p0.seen :: .oss (RO.om RT.bool false) v9 hs10 p0.has :: .oss (RO.om (RT.int .i64) false) v12 hs13 p0.now :: .om (RT.int .i64) false v15 p0.last :: Rs)) (r : Tstorage_Storage) (h : storage_Storage_come p0 p1 p2 = some r) : ∃ v V', Cl Try.prog 0 31 #[.pointer (some ⟨b1, 0, none⟩), .int .i64 p1, .int .i64 p2] V.H v V'.H ∧ V.le V' ∧ (∃ (v17 : Value) (v19 : Value) (hs20 : List Value) (v22 : Value) (hs23 : List Value) (v25 : Value) (hs26 : List Value) (v28 : Value), Ow V' (.pt b1 (.cells z2 [v17, v19, v22, v25, v28]) :: .os RT_Tref16_Event v17 r.events :: .oss (RO.os (RT.int .i64)) v19 hs20 r.seen :: .oss (RO.om RT.bool false) v22 hs23 r.has :: .oss (RO.om (RT.int .i64) false) v25 hs26 r.now :: .om (RT.int .i64) false v28 r.last :: Rs)) := by
  refine Ct.of (Nat.zero_le _) Try.func31 rfl (Nat.le_of_ble_eq_true rfl) ?_
  unfold storage_Storage_come at h
  refine WP.usdreg rfl rfl rfl ?_
  refine U.p rfl rfl (.inl rfl) (S.move rfl (L 0 rfl rfl)) ?_
  refine U.p rfl rfl (.inl rfl) (S.nilCheck rfl (L 0 rfl rfl)) ?_
  refine U.p (v := .pointer (some ⟨b1, 1, none⟩)) rfl rfl (.inl rfl) (S.fieldAddr rfl (L 0 rfl rfl) Try.underlying62 rfl ti44 rfl rfl) ?_
  refine U.k rfl rfl (.inl rfl) (S.load rfl (L 0 rfl rfl) Try.underlying44 rfl ((ow.own (k := 0) rfl).cell rfl)) (fun _ => (okH.nil (fun r h => by cases h; exact (ow.own (k := 0) rfl).lt))) ?_
  refine U.p rfl rfl (.inl rfl) (S.move rfl (L 5 rfl rfl)) ?_
  refine U.p rfl rfl (.inl rfl) (S.move rfl (L 5 rfl rfl)) ?_
  refine U.p rfl rfl (.inl rfl) (S.nilCheck rfl (L 0 rfl rfl)) ?_
  refine U.p (v := .pointer (some ⟨b1, 1, none⟩)) rfl rfl (.inl rfl) (S.fieldAddr rfl (L 0 rfl rfl) Try.underlying62 rfl ti44 rfl rfl) ?_
  refine U.k rfl rfl (.inl rfl) (S.load rfl (L 0 rfl rfl) Try.underlying44 rfl ((ow.own (k := 0) rfl).cell rfl)) (fun _ => (okH.cons trivial (okH.nil (fun r h => by cases h; exact (ow.own (k := 0) rfl).lt)))) ?_
  refine U.p rfl rfl (.inl rfl) (S.move rfl (L 10 rfl rfl)) ?_
  obtain ⟨x30, hx31, h32⟩ := bindS h
  obtain ⟨b33, o34, n35, c36, hv37⟩ := ow.sspt (k := 2) rfl hx31
  refine U.p rfl rfl (.inl rfl) (S.index rfl ((L 1 rfl rfl).trans (ow.sslen' (k := 2) rfl hv37)) (L 0 rfl rfl) Try.underlying44 ti26 (ix_ge hx31) (ix_lt hx31)) ?_
  obtain ⟨h38, hh39, ow40⟩ := ow.ssopen (k := 2) rfl hx31
  have hcl42 := ow40.shcell (k := 3) rfl hv37 hh39
  refine U.k rfl rfl (.inl rfl) (S.load rfl (L 0 rfl rfl) Try.underlying26 rfl hcl42.2) (fun _ => (okH.cons trivial (okH.cons trivial (okH.nil (fun r h => by cases h; exact hcl42.1))))) ?_
  refine U.p rfl rfl (.inl rfl) (S.move rfl (L 14 rfl rfl)) ?_
  refine O.lit (R := (RT.int .i64)) ow40 rfl rfl (.inl rfl) rfl Try.underlying26 ti3 rfl rfl rfl (Nat.le_of_ble_eq_true rfl) rfl (aC (L 0 rfl rfl) aN) (.cons _ _ p2 _ (by simp [topV]) rfl .nil) (fun _ => (fun _ => (okH.cons trivial (okH.cons trivial (okH.cons trivial (okH.nil (fun r h => nomatch h))))))) (fun v43 V44 le45 ow46 => ?_)
  obtain ⟨xs48, hx49, h50⟩ := bindS h32
  refine O.append (k := 1) ow46 rfl rfl rfl (.inl rfl) rfl (L 2 rfl rfl) (L 0 rfl rfl) Try.underlying26 ti3 rfl rfl (Nat.le_of_ble_eq_true rfl) (ow46.src (k := 0) rfl Try.underlying26) hx49 (fun V1 hs => (fun _ => (okH.cons (Or.inl rfl) (okH.cons (Or.inl rfl) (okH.cons (Or.inl rfl) (okH.cons (Or.inr (hs _ (ow46.own (k := 2) rfl).lt (ow46.noos (j := 2) (k := 1) rfl rfl (by decide)))) (okH.nil (fun r h => nomatch h)))))))) (fun v51 V52 le53 ow54 => ?_)
  obtain ⟨x56, hx57, h58⟩ := bindS h50
  refine U.p rfl rfl (.inl rfl) (S.index rfl ((L 11 rfl rfl).trans (ow54.shlen' (k := 4) rfl hv37)) (L 10 rfl rfl) Try.underlying44 ti26 (ix_ge hx57) (ix_lt hx57)) ?_
  refine O.storeH (k := 4) ow54 rfl hv37 rfl rfl (.inl rfl) rfl (L 0 rfl rfl) (L 1 rfl rfl) ti26 (ow54.osne (k := 1) rfl) (by rw [ow54.oscells (k := 1) rfl]) (ow54.osone (k := 1) rfl) (fun H1 hs => (fun _ => (okH.cons rfl (okH.cons (Or.inl rfl) (okH.cons (Or.inl rfl) (okH.cons (Or.inl rfl) (okH.cons (Or.inl rfl) (okH.nil (fun r h => nomatch h))))))))) (fun V59 le60 ow61 => ?_)
  have hh62 := ow61.shset (k := 4) rfl
  refine U.done (Nat.le_of_ble_eq_true rfl) ?_
  refine WP.usreg rfl ?_
  refine U.p rfl rfl (.inl rfl) (S.move rfl (L 16 rfl rfl)) ?_
  refine U.p rfl rfl (.inl rfl) (S.nilCheck rfl (L 0 rfl rfl)) ?_
  refine U.p (v := .pointer (some ⟨b1, 2, none⟩)) rfl rfl (.inl rfl) (S.fieldAddr rfl (L 0 rfl rfl) Try.underlying62 rfl ti59 rfl rfl) ?_
  refine U.k rfl rfl (.inl rfl) (S.load rfl (L 0 rfl rfl) Try.underlying59 rfl ((ow61.own (k := 2) rfl).cell rfl)) nd ?_
  refine U.p rfl rfl (.inl rfl) (S.move rfl (L 21 rfl rfl)) ?_
  obtain ⟨x63, hx64, h65⟩ := bindS h58
  obtain ⟨b66, o67, n68, c69, hv70⟩ := ow61.sspt (k := 5) rfl hx64
  refine U.p rfl rfl (.inl rfl) (S.index rfl ((L 1 rfl rfl).trans (ow61.sslen' (k := 5) rfl hv70)) (L 0 rfl rfl) Try.underlying59 ti63 (ix_ge hx64) (ix_lt hx64)) ?_
  obtain ⟨h71, hh72, ow73⟩ := ow61.ssopen (k := 5) rfl hx64
  have hcl75 := ow73.shcell (k := 6) rfl hv70 hh72
  refine U.k rfl rfl (.inl rfl) (S.load rfl (L 0 rfl rfl) Try.underlying63 rfl hcl75.2) nd ?_
  refine U.p rfl rfl (.inl rfl) (S.move rfl (L 25 rfl rfl)) ?_
  refine O.mapUpdate (k := 0) (w := true) ow73 rfl rfl rfl (.inl rfl) rfl (L 1 rfl rfl) (L 0 rfl rfl) K Try.underlying63 Try.underlying3 (cell_vrel rfl) (fun _ _ => nd) (fun V76 le77 ow78 => ?_)
  refine U.done (Nat.le_of_ble_eq_true rfl) ?_
  refine WP.usreg rfl ?_
  refine U.p rfl rfl (.inl rfl) (S.move rfl (L 24 rfl rfl)) ?_
  refine U.p rfl rfl (.inl rfl) (S.nilCheck rfl (L 0 rfl rfl)) ?_
  refine U.p (v := .pointer (some ⟨b1, 0, none⟩)) rfl rfl (.inl rfl) (S.fieldAddr rfl (L 0 rfl rfl) Try.underlying62 rfl ti53 rfl rfl) ?_
  refine U.k rfl rfl (.inl rfl) (S.load rfl (L 0 rfl rfl) Try.underlying53 rfl ((ow78.own (k := 3) rfl).cell rfl)) nd ?_
  refine U.p rfl rfl (.inl rfl) (S.move rfl (L 30 rfl rfl)) ?_
  refine U.p rfl rfl (.inl rfl) (S.sub rfl (L 0 rfl rfl) K) ?_
  obtain ⟨x79, hx80, h81⟩ := bindS h65
  obtain ⟨b82, o83, n84, c85, hv86⟩ := ow78.ospt (k := 4) rfl hx80
  obtain ⟨_, hv87, _⟩ := ow78.osel (k := 4) rfl hv86 hx80
  refine U.p rfl rfl (.inl rfl) (S.index rfl ((L 2 rfl rfl).trans hv87) (L 0 rfl rfl) Try.underlying53 ti55 (ix_ge hx80) (ix_lt hx80)) ?_
  obtain ⟨cs88, hv89, hlt90, hr91, hc92⟩ := ow78.osel (k := 4) rfl hv86 hx80
  obtain rfl : cs88 = [.int .i64 x79.thread, .bool x79.bar, .int .i64 x79.at_, .int .i64 x79.val] := hr91
  refine U.k rfl rfl (.inl rfl) (S.loadN (cs := [.int .i64 x79.thread, .bool x79.bar, .int .i64 x79.at_, .int .i64 x79.val]) rfl (L 0 rfl rfl) Try.underlying55 rfl ti55 rfl hc92) nd ?_
  refine O.alloc ow78 rfl rfl (.inl rfl) rfl ti55 rfl rfl nd (fun b93 V94 le95 ow96 => ?_)
  refine O.store (k := 0) (cs := [.int .i64 x79.thread, .bool x79.bar, .int .i64 x79.at_, .int .i64 x79.val]) (c' := [.int .i64 x79.thread, .bool x79.bar, .int .i64 x79.at_, .int .i64 x79.val]) ow96 rfl rfl rfl (.inl rfl) rfl (L 0 rfl rfl) (L 1 rfl rfl) ti55 (by simp [topV]) rfl rfl (Nat.le_of_ble_eq_true rfl) rfl rfl nd (fun V98 le99 ow100 => ?_)
  refine U.done (Nat.le_of_ble_eq_true rfl) ?_
  refine WP.usreg rfl ?_
  refine U.p (v := .pointer (some ⟨b93, 1, none⟩)) rfl rfl (.inl rfl) (S.fieldAddr rfl (L 0 rfl rfl) Try.underlying55 rfl ti4 rfl rfl) ?_
  refine U.k rfl rfl (.inl rfl) (S.load rfl (L 0 rfl rfl) Try.underlying4 rfl ((ow100.own (k := 0) rfl).cell rfl)) nd ?_
  refine U.p rfl rfl (.inl rfl) (S.not rfl (L 0 rfl rfl)) ?_
  refine U.done (Nat.le_of_ble_eq_true rfl) ?_
  refine WP.cond _ (L 0 rfl rfl) rfl (fun c101 => ?_) (fun c101 => ?_)
  · have h102 := ifT c101 h81
    have k103 : x79.bar = false := by simpa using c101
    refine WP.udreg rfl rfl rfl ?_
    refine U.p rfl rfl (.inl rfl) (S.move rfl (L 36 rfl rfl)) ?_
    refine U.p rfl rfl (.inl rfl) (S.nilCheck rfl (L 0 rfl rfl)) ?_
    refine U.p (v := .pointer (some ⟨b1, 3, none⟩)) rfl rfl (.inl rfl) (S.fieldAddr rfl (L 0 rfl rfl) Try.underlying62 rfl ti60 rfl rfl) ?_
    refine U.k rfl rfl (.inl rfl) (S.load rfl (L 0 rfl rfl) Try.underlying60 rfl ((ow100.own (k := 4) rfl).cell rfl)) (fun _ => (okH.nil (fun r h => by cases h; exact (ow100.own (k := 4) rfl).lt))) ?_
    refine U.p rfl rfl (.inl rfl) (S.move rfl (L 41 rfl rfl)) ?_
    obtain ⟨x104, hx105, h106⟩ := bindS h102
    obtain ⟨b107, o108, n109, c110, hv111⟩ := ow100.sspt (k := 8) rfl hx105
    refine U.p rfl rfl (.inl rfl) (S.index rfl ((L 1 rfl rfl).trans (ow100.sslen' (k := 8) rfl hv111)) (L 0 rfl rfl) Try.underlying60 ti58 (ix_ge hx105) (ix_lt hx105)) ?_
    obtain ⟨h112, hh113, ow114⟩ := ow100.ssopen (k := 8) rfl hx105
    have hcl116 := ow114.shcell (k := 9) rfl hv111 hh113
    refine U.k rfl rfl (.inl rfl) (S.load rfl (L 0 rfl rfl) Try.underlying58 rfl hcl116.2) (fun _ => (okH.cons trivial (okH.nil (fun r h => by cases h; exact hcl116.1)))) ?_
    refine U.p (v := .pointer (some ⟨b93, 2, none⟩)) rfl rfl (.inl rfl) (S.fieldAddr rfl (L 10 rfl rfl) Try.underlying55 rfl ti3 rfl rfl) ?_
    refine U.k rfl rfl (.inl rfl) (S.load rfl (L 0 rfl rfl) Try.underlying3 rfl ((ow114.own (k := 1) rfl).cell rfl)) (fun _ => (okH.cons trivial (okH.cons trivial (okH.nil (fun r h => by cases h; exact (ow114.own (k := 1) rfl).lt))))) ?_
    refine U.p rfl rfl (.inl rfl) (S.move rfl (L 47 rfl rfl)) ?_
    refine O.mapUpdate (k := 0) (w := p2) ow114 rfl rfl rfl (.inl rfl) rfl (L 3 rfl rfl) (L 1 rfl rfl) (L 0 rfl rfl) Try.underlying58 Try.underlying3 (cell_vrel rfl) (fun H1 hs => (fun _ => (okH.cons (Or.inl rfl) (okH.cons (Or.inl rfl) (okH.cons (Or.inl rfl) (okH.nil (fun r h => nomatch h))))))) (fun V117 le118 ow119 => ?_)
    refine U.done (Nat.le_of_ble_eq_true rfl) ?_
    have ow120 := ow119.ssclose (k := 7) (j := 4) rfl rfl (by decide) hh62
    have ow121 := ow120.ssclose (k := 7) (j := 2) rfl rfl (by decide) hh72
    have ow122 := ow121.ssclose (k := 7) (j := 0) rfl rfl (by decide) hh113
    refine fin.slots' (.inl rfl) fsN rfl ⟨V117, rfl, ((((((le45.trans le53).trans le60).trans le77).trans le95).trans le99).trans le118), ?_⟩
    have ow123 := ow122.drop 0 rfl
    have ow124 := ow123.drop 0 rfl
    have e125 := Option.some.inj h106
    subst e125
    exact ⟨v4, v6, hs7.set (Int.toNat p1) v51, v9, hs10, v12, hs13, v15, ow124⟩
  · have h126 := ifF c101 h81
    have k127 : x79.bar = true := by simpa using c101
    refine WP.skip ?_
    have ow128 := ow100.ssclose (k := 6) (j := 3) rfl rfl (by decide) hh62
    have ow129 := ow128.ssclose (k := 6) (j := 1) rfl rfl (by decide) hh72
    refine fin.slots' (.inl rfl) fsN rfl ⟨V98, rfl, (((((le45.trans le53).trans le60).trans le77).trans le95).trans le99), ?_⟩
    have ow130 := ow129.drop 0 rfl
    have ow131 := ow130.drop 0 rfl
    have e132 := Option.some.inj h126
    subst e132
    exact ⟨v4, v6, hs7.set (Int.toNat p1) v51, v9, hs10, v12, hs13, v15, ow131⟩

set_option maxHeartbeats 4000000 in
set_option maxRecDepth 10000 in
theorem wk_storage_Storage_accept (V : Vw) (Rs : List At) (p0 : Tstorage_Storage) (p1 : Tref16_Event) (b1 : Nat) (z2 : Nat) (v4 : Value) (v6 : Value) (hs7 : List Value) (v9 : Value) (hs10 : List Value) (v12 : Value) (hs13 : List Value) (v15 : Value) (ow : Ow V (.pt b1 (.cells z2 [v4, v6, v9, v12, v15]) :: .os RT_Tref16_Event v4 p0.events :: .oss (RO.os (RT.int .i64)) v6 hs7 p0.seen :: .oss (RO.om RT.bool false) v9 hs10 p0.has :: .oss (RO.om (RT.int .i64) false) v12 hs13 p0.now :: .om (RT.int .i64) false v15 p0.last :: Rs)) (r : Int × Tstorage_Storage) (h : storage_Storage_accept p0 p1 = some r) : ∃ v V', Cl Try.prog 0 30 #[.pointer (some ⟨b1, 0, none⟩), .agg #[.int .i64 p1.thread, .bool p1.bar, .int .i64 p1.at_, .int .i64 p1.val]] V.H v V'.H ∧ V.le V' ∧ (∃ (v17 : Value) (v19 : Value) (hs20 : List Value) (v22 : Value) (hs23 : List Value) (v25 : Value) (hs26 : List Value) (v28 : Value), v = .int .i64 r.1 ∧ Ow V' (.pt b1 (.cells z2 [v17, v19, v22, v25, v28]) :: .os RT_Tref16_Event v17 r.2.events :: .oss (RO.os (RT.int .i64)) v19 hs20 r.2.seen :: .oss (RO.om RT.bool false) v22 hs23 r.2.has :: .oss (RO.om (RT.int .i64) false) v25 hs26 r.2.now :: .om (RT.int .i64) false v28 r.2.last :: Rs)) := by
  refine Ct.of (Nat.zero_le _) Try.func30 rfl (Nat.le_of_ble_eq_true rfl) ?_
  unfold storage_Storage_accept at h
  refine WP.usreg rfl ?_
  refine O.box ow rfl rfl (.inl rfl) rfl (L 1 rfl rfl) (by simp [topV]) rfl nd (fun b30 V31 le32 ow33 => ?_)
  refine U.p rfl rfl (.inl rfl) (S.assign rfl K) ?_
  refine U.done (Nat.le_of_ble_eq_true rfl) ?_
  refine WP.usdreg rfl rfl rfl ?_
  refine U.p rfl rfl (.inl rfl) (S.move rfl (L 2 rfl rfl)) ?_
  refine U.p rfl rfl (.inl rfl) (S.move rfl (L 3 rfl rfl)) ?_
  refine U.p rfl rfl (.inl rfl) (S.nilCheck rfl (L 0 rfl rfl)) ?_
  refine U.p (v := .pointer (some ⟨b1, 0, none⟩)) rfl rfl (.inl rfl) (S.fieldAddr rfl (L 0 rfl rfl) Try.underlying62 rfl ti53 rfl rfl) ?_
  refine U.k rfl rfl (.inl rfl) (S.load rfl (L 0 rfl rfl) Try.underlying53 rfl ((ow33.own (k := 1) rfl).cell rfl)) (fun _ => (okH.nil (fun r h => by cases h; exact (ow33.own (k := 1) rfl).lt))) ?_
  refine U.k rfl rfl (.inl rfl) (S.loadB rfl (L 6 rfl rfl) Try.underlying55 rfl ti55 (ow33.own (k := 0) rfl).get rfl) (fun _ => (okH.cons trivial (okH.nil (fun r h => by cases h; exact (ow33.own (k := 0) rfl).lt)))) ?_
  refine O.lit (R := RT_Tref16_Event) ow33 rfl rfl (.inl rfl) rfl Try.underlying53 ti55 rfl rfl rfl (Nat.le_of_ble_eq_true rfl) rfl (aC (L 0 rfl rfl) aN) (.cons _ _ p1 _ (by simp [topV]) rfl .nil) (fun _ => (fun _ => (okH.cons trivial (okH.cons trivial (okH.nil (fun r h => nomatch h)))))) (fun v35 V36 le37 ow38 => ?_)
  obtain ⟨xs40, hx41, h42⟩ := bindS h
  refine O.append (k := 3) ow38 rfl rfl rfl (.inl rfl) rfl (L 2 rfl rfl) (L 0 rfl rfl) Try.underlying53 ti55 rfl rfl (Nat.le_of_ble_eq_true rfl) (ow38.src (k := 0) rfl Try.underlying53) hx41 (fun V1 hs => (fun _ => (okH.cons (Or.inl rfl) (okH.cons (Or.inl rfl) (okH.cons (Or.inl rfl) (okH.nil (fun r h => nomatch h))))))) (fun v43 V44 le45 ow46 => ?_)
  refine U.p rfl rfl (.inl rfl) (S.nilCheck rfl (L 7 rfl rfl)) ?_
  refine U.p (v := .pointer (some ⟨b1, 0, none⟩)) rfl rfl (.inl rfl) (S.fieldAddr rfl (L 0 rfl rfl) Try.underlying62 rfl ti53 rfl rfl) ?_
  refine O.store (k := 2) (cs := [v43]) (c' := [v43, v6, v9, v12, v15]) ow46 rfl rfl rfl (.inl rfl) rfl (L 0 rfl rfl) (L 2 rfl rfl) ti53 (ow46.osne (k := 3) rfl) (by rw [ow46.oscells (k := 3) rfl]) rfl (Nat.le_of_ble_eq_true rfl) (by have q0 := (ow46.osone (k := 3) rfl); simp only [List.all_cons, List.all_nil, q0]; rfl) rfl (fun _ => (okH.cons rfl (okH.cons (Or.inl rfl) (okH.cons (Or.inl rfl) (okH.cons (Or.inl rfl) (okH.nil (fun r h => nomatch h))))))) (fun V48 le49 ow50 => ?_)
  refine U.done (Nat.le_of_ble_eq_true rfl) ?_
  refine WP.usreg rfl ?_
  refine U.p rfl rfl (.inl rfl) (S.move rfl (L 12 rfl rfl)) ?_
  refine U.p rfl rfl (.inl rfl) (S.nilCheck rfl (L 0 rfl rfl)) ?_
  refine U.p (v := .pointer (some ⟨b1, 0, none⟩)) rfl rfl (.inl rfl) (S.fieldAddr rfl (L 0 rfl rfl) Try.underlying62 rfl ti53 rfl rfl) ?_
  refine U.k rfl rfl (.inl rfl) (S.load rfl (L 0 rfl rfl) Try.underlying53 rfl ((ow50.own (k := 2) rfl).cell rfl)) nd ?_
  refine U.p rfl rfl (.inl rfl) (ow50.oslen (k := 3) rfl rfl (L 0 rfl rfl) Try.underlying53) ?_
  refine U.p rfl rfl (.inl rfl) (S.assign rfl (L 0 rfl rfl)) ?_
  refine U.done (Nat.le_of_ble_eq_true rfl) ?_
  refine WP.seqI (fun l V' => ∃ (xs51 : List (Int × Int)), l = [(0, .pointer (some ⟨b1, 0, none⟩)), (3, .pointer (some ⟨b30, 0, none⟩)), (5, .int .i64 (xs40.length : Int))] ∧ V48.le V' ∧ Ow V' (.pt b1 (.cells z2 [v43, v6, v9, v12, v15]) :: .os RT_Tref16_Event v43 xs40 :: .oss (RO.os (RT.int .i64)) v6 hs7 p0.seen :: .oss (RO.om RT.bool false) v9 hs10 p0.has :: .oss (RO.om (RT.int .i64) false) v12 hs13 p0.now :: .om (RT.int .i64) false v15 xs51 :: .pt b30 (.cells 0 [.int .i64 p1.thread, .bool p1.bar, .int .i64 p1.at_, .int .i64 p1.val]) :: Rs) ∧ storage_Storage_accept_k1 p0 p1 xs40 xs51 = some r) ?_ ?_
  · rintro _ V52 ⟨xs51, rfl, le53, ow54, h55⟩
    unfold storage_Storage_accept_k1 at h55
    refine WP.usreg rfl ?_
    refine U.p rfl rfl (.inl rfl) (S.move rfl (L 0 rfl rfl)) ?_
    refine U.p (v := .pointer (some ⟨b30, 0, none⟩)) rfl rfl (.inl rfl) (S.fieldAddr rfl (L 2 rfl rfl) Try.underlying55 rfl ti3 rfl rfl) ?_
    refine U.k rfl rfl (.inl rfl) (S.load rfl (L 0 rfl rfl) Try.underlying3 rfl ((ow54.own (k := 6) rfl).cell rfl)) nd ?_
    refine U.p rfl rfl (.inl rfl) (S.move rfl (L 5 rfl rfl)) ?_
    have ow56 := ow54.pick 5 rfl
    have ow57 := ow56.pick 5 rfl
    have ow58 := ow57.pick 5 rfl
    have ow59 := ow58.pick 5 rfl
    have ow60 := ow59.pick 5 rfl
    have ow61 := ow60.pick 5 rfl
    obtain ⟨x62, hx63, h64⟩ := bindS h55
    refine O.call (V := V52) rfl rfl (.inl rfl) rfl en31 (aC (L 3 rfl rfl) (aC (L 1 rfl rfl) (aC (L 0 rfl rfl) aN))) (wk_storage_Storage_come V52 _ (⟨xs40, p0.seen, p0.has, p0.now, xs51⟩ : Tstorage_Storage) p1.thread (xs40.length : Int) b1 z2 v43 v6 hs7 v9 hs10 v12 hs13 v15 ow61 _ hx63) (fun _ _ _ _ => nd) (fun v65 V66 le67 hp68 => ?_)
    obtain ⟨v70, v72, hs73, v75, hs76, v78, hs79, v81, ow69⟩ := hp68
    refine U.done (Nat.le_of_ble_eq_true rfl) ?_
    refine WP.usreg rfl ?_
    refine U.p rfl rfl (.inl rfl) (S.move rfl (L 7 rfl rfl)) ?_
    refine U.p rfl rfl (.inl rfl) (S.assign rfl (L 0 rfl rfl)) ?_
    refine U.done (Nat.le_of_ble_eq_true rfl) ?_
    refine WP.ret ?_
    refine fin.slot (.inr rfl) rfl (L 0 rfl rfl) ⟨V66, rfl, (((((le32.trans le37).trans le45).trans le49).trans le53).trans le67), ?_⟩
    have ow83 := ow69.drop 6 rfl
    have e84 := Option.some.inj h64
    subst e84
    exact ⟨v70, v72, hs73, v75, hs76, v78, hs79, v81, rfl, ow83⟩
  · skip
    refine WP.usreg rfl ?_
    refine U.p (v := .pointer (some ⟨b30, 1, none⟩)) rfl rfl (.inl rfl) (S.fieldAddr rfl (L 17 rfl rfl) Try.underlying55 rfl ti4 rfl rfl) ?_
    refine U.k rfl rfl (.inl rfl) (S.load rfl (L 0 rfl rfl) Try.underlying4 rfl ((ow50.own (k := 1) rfl).cell rfl)) nd ?_
    refine U.p rfl rfl (.inl rfl) (S.not rfl (L 0 rfl rfl)) ?_
    refine U.done (Nat.le_of_ble_eq_true rfl) ?_
    refine WP.cond _ (L 0 rfl rfl) rfl (fun c85 => ?_) (fun c85 => ?_)
    · have h86 := ifT c85 h42
      have k87 : p1.bar = false := by simpa using c85
      refine WP.udreg rfl rfl rfl ?_
      refine U.p rfl rfl (.inl rfl) (S.move rfl (L 21 rfl rfl)) ?_
      refine U.p rfl rfl (.inl rfl) (S.nilCheck rfl (L 0 rfl rfl)) ?_
      refine U.p (v := .pointer (some ⟨b1, 4, none⟩)) rfl rfl (.inl rfl) (S.fieldAddr rfl (L 0 rfl rfl) Try.underlying62 rfl ti58 rfl rfl) ?_
      refine U.k rfl rfl (.inl rfl) (S.load rfl (L 0 rfl rfl) Try.underlying58 rfl ((ow50.own (k := 2) rfl).cell rfl)) (fun _ => (okH.nil (fun r h => by cases h; exact (ow50.own (k := 2) rfl).lt))) ?_
      refine U.p (v := .pointer (some ⟨b30, 2, none⟩)) rfl rfl (.inl rfl) (S.fieldAddr rfl (L 24 rfl rfl) Try.underlying55 rfl ti3 rfl rfl) ?_
      refine U.k rfl rfl (.inl rfl) (S.load rfl (L 0 rfl rfl) Try.underlying3 rfl ((ow50.own (k := 1) rfl).cell rfl)) (fun _ => (okH.cons trivial (okH.nil (fun r h => by cases h; exact (ow50.own (k := 1) rfl).lt)))) ?_
      refine U.p rfl rfl (.inl rfl) (S.move rfl (L 9 rfl rfl)) ?_
      refine O.mapUpdate (k := 7) (w := (xs40.length : Int)) ow50 rfl rfl rfl (.inl rfl) rfl (L 3 rfl rfl) (L 1 rfl rfl) (L 0 rfl rfl) Try.underlying58 Try.underlying3 (cell_vrel rfl) (fun H1 hs => (fun _ => (okH.cons (Or.inl rfl) (okH.cons (Or.inl rfl) (okH.nil (fun r h => nomatch h)))))) (fun V88 le89 ow90 => ?_)
      refine U.done (Nat.le_of_ble_eq_true rfl) ?_
      refine sqN ?_
      have ow91 := ow90.drop 0 rfl
      have ow92 := ow91.pick 0 rfl
      have ow93 := ow92.pick 6 rfl
      have ow94 := ow93.pick 6 rfl
      have ow95 := ow94.pick 6 rfl
      have ow96 := ow95.pick 6 rfl
      have ow97 := ow96.pick 6 rfl
      have ow98 := ow97.pick 6 rfl
      exact ⟨_, V88, rfl, ⟨mS p0.last p1.at_ (xs40.length : Int), rfl, le89, ow98, h86⟩, (allCons (L 28 rfl rfl) (allCons (L 27 rfl rfl) (allCons (L 10 rfl rfl) allNil)))⟩
    · have h99 := ifF c85 h42
      have k100 : p1.bar = true := by simpa using c85
      refine WP.skip ?_
      refine sqN ?_
      have ow101 := ow50.drop 0 rfl
      have ow102 := ow101.pick 0 rfl
      have ow103 := ow102.pick 6 rfl
      have ow104 := ow103.pick 6 rfl
      have ow105 := ow104.pick 6 rfl
      have ow106 := ow105.pick 6 rfl
      have ow107 := ow106.pick 6 rfl
      have ow108 := ow107.pick 6 rfl
      exact ⟨_, V48, rfl, ⟨p0.last, rfl, (.refl _), ow108, h99⟩, (allCons (L 21 rfl rfl) (allCons (L 20 rfl rfl) (allCons (L 3 rfl rfl) allNil)))⟩

set_option maxHeartbeats 4000000 in
set_option maxRecDepth 10000 in
theorem wk_storage_Storage_Write (V : Vw) (Rs : List At) (p0 : Tstorage_Storage) (p1 : Int) (p2 : Int) (p3 : Int) (b1 : Nat) (z2 : Nat) (v4 : Value) (v6 : Value) (hs7 : List Value) (v9 : Value) (hs10 : List Value) (v12 : Value) (hs13 : List Value) (v15 : Value) (ow : Ow V (.pt b1 (.cells z2 [v4, v6, v9, v12, v15]) :: .os RT_Tref16_Event v4 p0.events :: .oss (RO.os (RT.int .i64)) v6 hs7 p0.seen :: .oss (RO.om RT.bool false) v9 hs10 p0.has :: .oss (RO.om (RT.int .i64) false) v12 hs13 p0.now :: .om (RT.int .i64) false v15 p0.last :: Rs)) (r : Int × Tstorage_Storage) (h : storage_Storage_Write p0 p1 p2 p3 = some r) : ∃ v V', Cl Try.prog 0 15 #[.pointer (some ⟨b1, 0, none⟩), .int .i64 p1, .int .i64 p2, .int .i64 p3] V.H v V'.H ∧ V.le V' ∧ (∃ (v17 : Value) (v19 : Value) (hs20 : List Value) (v22 : Value) (hs23 : List Value) (v25 : Value) (hs26 : List Value) (v28 : Value), v = .int .i64 r.1 ∧ Ow V' (.pt b1 (.cells z2 [v17, v19, v22, v25, v28]) :: .os RT_Tref16_Event v17 r.2.events :: .oss (RO.os (RT.int .i64)) v19 hs20 r.2.seen :: .oss (RO.om RT.bool false) v22 hs23 r.2.has :: .oss (RO.om (RT.int .i64) false) v25 hs26 r.2.now :: .om (RT.int .i64) false v28 r.2.last :: Rs)) := by
  refine Ct.of (Nat.zero_le _) Try.func15 rfl (Nat.le_of_ble_eq_true rfl) ?_
  unfold storage_Storage_Write at h
  refine WP.usreg rfl ?_
  refine U.p rfl rfl (.inl rfl) (S.assign rfl K) ?_
  refine U.done (Nat.le_of_ble_eq_true rfl) ?_
  refine WP.seq ?_
  refine WP.usreg rfl ?_
  refine U.p rfl rfl (.inl rfl) (S.move rfl (L 1 rfl rfl)) ?_
  refine U.p rfl rfl (.inl rfl) (S.move rfl (L 3 rfl rfl)) ?_
  have ow30 := ow.pick 5 rfl
  have ow31 := ow30.pick 5 rfl
  have ow32 := ow31.pick 5 rfl
  have ow33 := ow32.pick 5 rfl
  have ow34 := ow33.pick 5 rfl
  have ow35 := ow34.pick 5 rfl
  obtain ⟨x36, hx37, h38⟩ := bindS h
  refine O.call (V := V) rfl rfl (.inl rfl) rfl en29 (aC (L 1 rfl rfl) (aC (L 0 rfl rfl) aN)) (wk_storage_Storage_thread V _ p0 p1 b1 z2 v4 v6 hs7 v9 hs10 v12 hs13 v15 ow35 _ hx37) (fun _ _ _ _ => nd) (fun v39 V40 le41 hp42 => ?_)
  obtain ⟨rfl, ow43⟩ := hp42
  refine U.p rfl rfl (.inl rfl) (S.not rfl (L 0 rfl rfl)) ?_
  refine U.done (Nat.le_of_ble_eq_true rfl) ?_
  refine WP.cond _ (L 0 rfl rfl) rfl (fun c44 => ?_) (fun c44 => ?_)
  · have h45 := ifT c44 h38
    have k46 : x36 = false := by simpa using c44
    refine WP.usreg rfl ?_
    refine U.p rfl rfl (.inl rfl) (S.assign rfl K) ?_
    refine U.done (Nat.le_of_ble_eq_true rfl) ?_
    refine WP.ret ?_
    refine sqR ?_
    refine fin.slot (.inr rfl) rfl (L 0 rfl rfl) ⟨V40, rfl, le41, ?_⟩
    have e47 := Option.some.inj h45
    subst e47
    exact ⟨v4, v6, hs7, v9, hs10, v12, hs13, v15, rfl, ow43⟩
  · have h48 := ifF c44 h38
    have k49 : x36 = true := by simpa using c44
    refine WP.skip ?_
    refine sqN ?_
    refine WP.usreg rfl ?_
    refine U.p rfl rfl (.inl rfl) (S.move rfl (L 5 rfl rfl)) ?_
    refine U.p rfl rfl (.inl rfl) (S.move rfl (L 7 rfl rfl)) ?_
    refine U.p rfl rfl (.inl rfl) (S.move rfl (L 9 rfl rfl)) ?_
    refine U.p rfl rfl (.inl rfl) (S.move rfl (L 11 rfl rfl)) ?_
    refine U.p (v := .agg #[.int .i64 p1, .bool false, .int .i64 p2, .int .i64 p3]) rfl rfl (.inl rfl) (S.build (vs := [.int .i64 p1, .int .i64 p2, .int .i64 p3]) rfl ti55 rfl pl55 (aC (L 2 rfl rfl) (aC (L 1 rfl rfl) (aC (L 0 rfl rfl) aN))) (allC (by simp [topV]) (allC (by simp [topV]) (allC (by simp [topV]) allN))) rfl) ?_
    have ow50 := ow43.pick 5 rfl
    have ow51 := ow50.pick 5 rfl
    have ow52 := ow51.pick 5 rfl
    have ow53 := ow52.pick 5 rfl
    have ow54 := ow53.pick 5 rfl
    have ow55 := ow54.pick 5 rfl
    obtain ⟨x56, hx57, h58⟩ := bindS h48
    refine O.call (V := V40) rfl rfl (.inl rfl) rfl en30 (aC (L 4 rfl rfl) (aC (L 0 rfl rfl) aN)) (wk_storage_Storage_accept V40 _ p0 (⟨p1, false, p2, p3⟩ : Tref16_Event) b1 z2 v4 v6 hs7 v9 hs10 v12 hs13 v15 ow55 _ hx57) (fun _ _ _ _ => nd) (fun v59 V60 le61 hp62 => ?_)
    obtain ⟨v64, v66, hs67, v69, hs70, v72, hs73, v75, rfl, ow63⟩ := hp62
    refine U.p rfl rfl (.inl rfl) (S.assign rfl (L 0 rfl rfl)) ?_
    refine U.done (Nat.le_of_ble_eq_true rfl) ?_
    refine WP.ret ?_
    refine fin.slot (.inr rfl) rfl (L 0 rfl rfl) ⟨V60, rfl, (le41.trans le61), ?_⟩
    have e77 := Option.some.inj h58
    subst e77
    exact ⟨v64, v66, hs67, v69, hs70, v72, hs73, v75, rfl, ow63⟩

set_option maxHeartbeats 4000000 in
set_option maxRecDepth 10000 in
theorem wk_storage_Storage_Read (V : Vw) (Rs : List At) (p0 : Tstorage_Storage) (p1 : Int) (p2 : Int) (b1 : Nat) (z2 : Nat) (v4 : Value) (v6 : Value) (hs7 : List Value) (v9 : Value) (hs10 : List Value) (v12 : Value) (hs13 : List Value) (v15 : Value) (ow : Ow V (.pt b1 (.cells z2 [v4, v6, v9, v12, v15]) :: .os RT_Tref16_Event v4 p0.events :: .oss (RO.os (RT.int .i64)) v6 hs7 p0.seen :: .oss (RO.om RT.bool false) v9 hs10 p0.has :: .oss (RO.om (RT.int .i64) false) v12 hs13 p0.now :: .om (RT.int .i64) false v15 p0.last :: Rs)) (r : Int × Int) (h : storage_Storage_Read p0 p1 p2 = some r) : ∃ v V', Cl Try.prog 0 13 #[.pointer (some ⟨b1, 0, none⟩), .int .i64 p1, .int .i64 p2] V.H v V'.H ∧ V.le V' ∧ (v = .tuple #[.int .i64 r.1, .int .i64 r.2] ∧ Ow V' (.pt b1 (.cells z2 [v4, v6, v9, v12, v15]) :: .os RT_Tref16_Event v4 p0.events :: .oss (RO.os (RT.int .i64)) v6 hs7 p0.seen :: .oss (RO.om RT.bool false) v9 hs10 p0.has :: .oss (RO.om (RT.int .i64) false) v12 hs13 p0.now :: .om (RT.int .i64) false v15 p0.last :: Rs)) := by
  refine Ct.of (Nat.zero_le _) Try.func13 rfl (Nat.le_of_ble_eq_true rfl) ?_
  unfold storage_Storage_Read at h
  refine WP.usreg rfl ?_
  refine U.p rfl rfl (.inl rfl) (S.assign rfl K) ?_
  refine U.p rfl rfl (.inl rfl) (S.assign rfl K) ?_
  refine U.done (Nat.le_of_ble_eq_true rfl) ?_
  refine WP.seq ?_
  refine WP.usreg rfl ?_
  refine U.p rfl rfl (.inl rfl) (S.move rfl (L 2 rfl rfl)) ?_
  refine U.p rfl rfl (.inl rfl) (S.move rfl (L 4 rfl rfl)) ?_
  have ow17 := ow.pick 5 rfl
  have ow18 := ow17.pick 5 rfl
  have ow19 := ow18.pick 5 rfl
  have ow20 := ow19.pick 5 rfl
  have ow21 := ow20.pick 5 rfl
  have ow22 := ow21.pick 5 rfl
  obtain ⟨x23, hx24, h25⟩ := bindS h
  refine O.call (V := V) rfl rfl (.inl rfl) rfl en29 (aC (L 1 rfl rfl) (aC (L 0 rfl rfl) aN)) (wk_storage_Storage_thread V _ p0 p1 b1 z2 v4 v6 hs7 v9 hs10 v12 hs13 v15 ow22 _ hx24) (fun _ _ _ _ => nd) (fun v26 V27 le28 hp29 => ?_)
  obtain ⟨rfl, ow30⟩ := hp29
  refine U.p rfl rfl (.inl rfl) (S.not rfl (L 0 rfl rfl)) ?_
  refine U.done (Nat.le_of_ble_eq_true rfl) ?_
  refine WP.cond _ (L 0 rfl rfl) rfl (fun c31 => ?_) (fun c31 => ?_)
  · have h32 := ifT c31 h25
    have k33 : x23 = false := by simpa using c31
    refine WP.usreg rfl ?_
    refine U.p rfl rfl (.inl rfl) (S.assign rfl K) ?_
    refine U.p rfl rfl (.inl rfl) (S.assign rfl K) ?_
    refine U.done (Nat.le_of_ble_eq_true rfl) ?_
    refine WP.ret ?_
    refine sqR ?_
    refine fin.slots' (.inr rfl) (fsC (L 1 rfl rfl) (fsC (L 0 rfl rfl) fsN)) rfl ⟨V27, rfl, le28, ?_⟩
    have e34 := Option.some.inj h32
    subst e34
    exact ⟨rfl, ow30⟩
  · have h35 := ifF c31 h25
    have k36 : x23 = true := by simpa using c31
    refine WP.skip ?_
    refine sqN ?_
    refine WP.usreg rfl ?_
    refine U.p rfl rfl (.inl rfl) (S.move rfl (L 6 rfl rfl)) ?_
    refine U.p rfl rfl (.inl rfl) (S.nilCheck rfl (L 0 rfl rfl)) ?_
    refine U.p (v := .pointer (some ⟨b1, 3, none⟩)) rfl rfl (.inl rfl) (S.fieldAddr rfl (L 0 rfl rfl) Try.underlying62 rfl ti60 rfl rfl) ?_
    refine U.k rfl rfl (.inl rfl) (S.load rfl (L 0 rfl rfl) Try.underlying60 rfl ((ow30.own (k := 0) rfl).cell rfl)) nd ?_
    refine U.p rfl rfl (.inl rfl) (S.move rfl (L 11 rfl rfl)) ?_
    obtain ⟨x37, hx38, h39⟩ := bindS h35
    obtain ⟨b40, o41, n42, c43, hv44⟩ := ow30.sspt (k := 4) rfl hx38
    refine U.p rfl rfl (.inl rfl) (S.index rfl ((L 1 rfl rfl).trans (ow30.sslen' (k := 4) rfl hv44)) (L 0 rfl rfl) Try.underlying60 ti58 (ix_ge hx38) (ix_lt hx38)) ?_
    obtain ⟨h45, hh46, ow47⟩ := ow30.ssopen (k := 4) rfl hx38
    have hcl49 := ow47.shcell (k := 5) rfl hv44 hh46
    refine U.k rfl rfl (.inl rfl) (S.load rfl (L 0 rfl rfl) Try.underlying58 rfl hcl49.2) nd ?_
    refine U.p rfl rfl (.inl rfl) (S.move rfl (L 15 rfl rfl)) ?_
    refine O.lookup1 (k := 0) 0 ow47 rfl rfl rfl (.inl rfl) rfl (L 1 rfl rfl) (L 0 rfl rfl) Try.underlying58 Try.underlying3 ti3 rfl (cell_vrel rfl) (fun b50 hlt52 => nd) (fun b50 u51 hlt52 hr53 => ?_)
    obtain rfl : u51 = .int .i64 ((mG x37 p2).getD 0) := (List.cons.inj (vrel_cell hr53)).1
    refine U.p rfl rfl (.inl rfl) (S.assign rfl (L 0 rfl rfl)) ?_
    refine U.done (Nat.le_of_ble_eq_true rfl) ?_
    refine WP.seq ?_
    refine WP.usreg rfl ?_
    refine U.p rfl rfl (.inl rfl) (S.move rfl (L 0 rfl rfl)) ?_
    refine U.p rfl rfl (.inl rfl) (S.eqlI rfl (L 0 rfl rfl) K) ?_
    refine U.done (Nat.le_of_ble_eq_true rfl) ?_
    refine WP.cond _ (L 0 rfl rfl) rfl (fun c55 => ?_) (fun c55 => ?_)
    · have h56 := ifT c55 h39
      refine WP.usreg rfl ?_
      refine U.p rfl rfl (.inl rfl) (S.assign rfl K) ?_
      refine U.p rfl rfl (.inl rfl) (S.assign rfl K) ?_
      refine U.done (Nat.le_of_ble_eq_true rfl) ?_
      refine WP.ret ?_
      refine sqR ?_
      have ow57 := ow47.ssclose' (k := 5) (j := 0) rfl rfl (by decide) hh46 hx38
      refine fin.slots' (.inr rfl) (fsC (L 1 rfl rfl) (fsC (L 0 rfl rfl) fsN)) rfl ⟨V27, rfl, le28, ?_⟩
      have e58 := Option.some.inj h56
      subst e58
      exact ⟨rfl, ow57⟩
    · have h59 := ifF c55 h39
      refine WP.skip ?_
      refine sqN ?_
      refine WP.usreg rfl ?_
      refine U.p rfl rfl (.inl rfl) (S.move rfl (L 18 rfl rfl)) ?_
      refine U.p rfl rfl (.inl rfl) (S.nilCheck rfl (L 0 rfl rfl)) ?_
      refine U.p (v := .pointer (some ⟨b1, 0, none⟩)) rfl rfl (.inl rfl) (S.fieldAddr rfl (L 0 rfl rfl) Try.underlying62 rfl ti53 rfl rfl) ?_
      refine U.k rfl rfl (.inl rfl) (S.load rfl (L 0 rfl rfl) Try.underlying53 rfl ((ow47.own (k := 1) rfl).cell rfl)) nd ?_
      refine U.p rfl rfl (.inl rfl) (S.move rfl (L 6 rfl rfl)) ?_
      refine U.p rfl rfl (.inl rfl) (S.sub rfl (L 0 rfl rfl) K) ?_
      obtain ⟨x60, hx61, h62⟩ := bindS h59
      obtain ⟨b63, o64, n65, c66, hv67⟩ := ow47.ospt (k := 2) rfl hx61
      obtain ⟨_, hv68, _⟩ := ow47.osel (k := 2) rfl hv67 hx61
      refine U.p rfl rfl (.inl rfl) (S.index rfl ((L 2 rfl rfl).trans hv68) (L 0 rfl rfl) Try.underlying53 ti55 (ix_ge hx61) (ix_lt hx61)) ?_
      refine U.p (v := .pointer (some ⟨b63, o64 + Int.toNat (w64 (((mG x37 p2).getD 0) - 1)) * 4 + 3, none⟩)) rfl rfl (.inl rfl) (S.fieldAddr rfl (L 0 rfl rfl) Try.underlying55 rfl ti3 rfl rfl) ?_
      obtain ⟨cs69, hv70, hlt71, hr72, hc73⟩ := ow47.osel (k := 2) rfl hv67 hx61
      obtain rfl : cs69 = [.int .i64 x60.thread, .bool x60.bar, .int .i64 x60.at_, .int .i64 x60.val] := hr72
      refine U.k rfl rfl (.inl rfl) (S.load rfl (L 0 rfl rfl) Try.underlying3 rfl (hc73 3 _ rfl)) nd ?_
      refine U.p rfl rfl (.inl rfl) (S.move rfl (L 11 rfl rfl)) ?_
      refine U.p rfl rfl (.inl rfl) (S.assign rfl (L 1 rfl rfl)) ?_
      refine U.p rfl rfl (.inl rfl) (S.assign rfl (L 1 rfl rfl)) ?_
      refine U.done (Nat.le_of_ble_eq_true rfl) ?_
      refine WP.ret ?_
      have ow74 := ow47.ssclose' (k := 5) (j := 0) rfl rfl (by decide) hh46 hx38
      refine fin.slots' (.inr rfl) (fsC (L 1 rfl rfl) (fsC (L 0 rfl rfl) fsN)) rfl ⟨V27, rfl, le28, ?_⟩
      have e75 := Option.some.inj h62
      subst e75
      exact ⟨rfl, ow74⟩

set_option maxHeartbeats 4000000 in
set_option maxRecDepth 10000 in
theorem wk_storage_Storage_Seen (V : Vw) (Rs : List At) (p0 : Tstorage_Storage) (p1 : Int) (p2 : Int) (b1 : Nat) (z2 : Nat) (v4 : Value) (v6 : Value) (hs7 : List Value) (v9 : Value) (hs10 : List Value) (v12 : Value) (hs13 : List Value) (v15 : Value) (ow : Ow V (.pt b1 (.cells z2 [v4, v6, v9, v12, v15]) :: .os RT_Tref16_Event v4 p0.events :: .oss (RO.os (RT.int .i64)) v6 hs7 p0.seen :: .oss (RO.om RT.bool false) v9 hs10 p0.has :: .oss (RO.om (RT.int .i64) false) v12 hs13 p0.now :: .om (RT.int .i64) false v15 p0.last :: Rs)) (r : Bool) (h : storage_Storage_Seen p0 p1 p2 = some r) : ∃ v V', Cl Try.prog 0 20 #[.pointer (some ⟨b1, 0, none⟩), .int .i64 p1, .int .i64 p2] V.H v V'.H ∧ V.le V' ∧ (v = .bool r ∧ Ow V' (.pt b1 (.cells z2 [v4, v6, v9, v12, v15]) :: .os RT_Tref16_Event v4 p0.events :: .oss (RO.os (RT.int .i64)) v6 hs7 p0.seen :: .oss (RO.om RT.bool false) v9 hs10 p0.has :: .oss (RO.om (RT.int .i64) false) v12 hs13 p0.now :: .om (RT.int .i64) false v15 p0.last :: Rs)) := by
  refine Ct.of (Nat.zero_le _) Try.func20 rfl (Nat.le_of_ble_eq_true rfl) ?_
  unfold storage_Storage_Seen at h
  refine WP.usreg rfl ?_
  refine U.p rfl rfl (.inl rfl) (S.assign rfl K) ?_
  refine U.done (Nat.le_of_ble_eq_true rfl) ?_
  refine WP.usreg rfl ?_
  refine U.p rfl rfl (.inl rfl) (S.move rfl (L 1 rfl rfl)) ?_
  refine U.p rfl rfl (.inl rfl) (S.move rfl (L 3 rfl rfl)) ?_
  have ow17 := ow.pick 5 rfl
  have ow18 := ow17.pick 5 rfl
  have ow19 := ow18.pick 5 rfl
  have ow20 := ow19.pick 5 rfl
  have ow21 := ow20.pick 5 rfl
  have ow22 := ow21.pick 5 rfl
  obtain ⟨x23, hx24, h25⟩ := bindS h
  refine O.call (V := V) rfl rfl (.inl rfl) rfl en29 (aC (L 1 rfl rfl) (aC (L 0 rfl rfl) aN)) (wk_storage_Storage_thread V _ p0 p1 b1 z2 v4 v6 hs7 v9 hs10 v12 hs13 v15 ow22 _ hx24) (fun _ _ _ _ => nd) (fun v26 V27 le28 hp29 => ?_)
  obtain ⟨rfl, ow30⟩ := hp29
  refine U.p rfl rfl (.inl rfl) (S.move rfl (L 0 rfl rfl)) ?_
  obtain ⟨y31, hy32, h33⟩ := bindS h25
  refine U.joinX 14 (fun e H => ∃ (u34 u35 u36 u37 u38 u39 u40 u41 u42 : Value), H = V27.H ∧ e = [(20, .bool y31), (19, u34), (18, u35), (17, u36), (16, u37), (15, u38), (14, u39), (13, u40), (12, u41), (11, u42)]) ?_ ?_
  · rintro _ _ ⟨u34, u35, u36, u37, u38, u39, u40, u41, u42, rfl, rfl⟩
    refine U.p rfl rfl (.inl rfl) (S.assign rfl (L 0 rfl rfl)) ?_
    refine U.done (Nat.le_of_ble_eq_true rfl) ?_
    refine WP.ret ?_
    refine fin.slot (.inr rfl) rfl (L 0 rfl rfl) ⟨V27, rfl, le28, ?_⟩
    have e46 := Option.some.inj h33
    subst e46
    exact ⟨rfl, ow30⟩
  · intro kk
    refine bcase (b := x23) (fun g47 => ?_) (fun g47 => ?_)
    · have h48 := ifT g47 hy32
      refine U.p rfl rfl (.inr ⟨_, _, _, rfl, rfl, ((L 0 rfl rfl).trans (congrArg Value.bool g47))⟩) (S.move rfl (L 5 rfl rfl)) ?_
      refine U.p rfl rfl (.inr ⟨_, _, _, rfl, rfl, ((L 1 rfl rfl).trans (congrArg Value.bool g47))⟩) (S.nilCheck rfl (L 0 rfl rfl)) ?_
      refine U.p (v := .pointer (some ⟨b1, 2, none⟩)) rfl rfl (.inr ⟨_, _, _, rfl, rfl, ((L 2 rfl rfl).trans (congrArg Value.bool g47))⟩) (S.fieldAddr rfl (L 0 rfl rfl) Try.underlying62 rfl ti59 rfl rfl) ?_
      refine U.k rfl rfl (.inr ⟨_, _, _, rfl, rfl, ((L 3 rfl rfl).trans (congrArg Value.bool g47))⟩) (S.load rfl (L 0 rfl rfl) Try.underlying59 rfl ((ow30.own (k := 0) rfl).cell rfl)) nd ?_
      refine U.p rfl rfl (.inr ⟨_, _, _, rfl, rfl, ((L 4 rfl rfl).trans (congrArg Value.bool g47))⟩) (S.move rfl (L 10 rfl rfl)) ?_
      obtain ⟨x49, hx50, h51⟩ := bindS h48
      obtain ⟨b52, o53, n54, c55, hv56⟩ := ow30.sspt (k := 3) rfl hx50
      refine U.p rfl rfl (.inr ⟨_, _, _, rfl, rfl, ((L 5 rfl rfl).trans (congrArg Value.bool g47))⟩) (S.index rfl ((L 1 rfl rfl).trans (ow30.sslen' (k := 3) rfl hv56)) (L 0 rfl rfl) Try.underlying59 ti63 (ix_ge hx50) (ix_lt hx50)) ?_
      obtain ⟨h57, hh58, ow59⟩ := ow30.ssopen (k := 3) rfl hx50
      have hcl61 := ow59.shcell (k := 4) rfl hv56 hh58
      refine U.k rfl rfl (.inr ⟨_, _, _, rfl, rfl, ((L 6 rfl rfl).trans (congrArg Value.bool g47))⟩) (S.load rfl (L 0 rfl rfl) Try.underlying63 rfl hcl61.2) nd ?_
      refine U.p rfl rfl (.inr ⟨_, _, _, rfl, rfl, ((L 7 rfl rfl).trans (congrArg Value.bool g47))⟩) (S.move rfl (L 14 rfl rfl)) ?_
      refine O.lookup1 (k := 0) false ow59 rfl rfl rfl (.inr ⟨_, _, _, rfl, rfl, ((L 8 rfl rfl).trans (congrArg Value.bool g47))⟩) rfl (L 1 rfl rfl) (L 0 rfl rfl) Try.underlying63 Try.underlying3 ti4 rfl (cell_vrel rfl) (fun b62 hlt64 => nd) (fun b62 u63 hlt64 hr65 => ?_)
      obtain rfl : u63 = .bool ((mG x49 p2).getD false) := (List.cons.inj (vrel_cell hr65)).1
      refine U.p rfl rfl (.inl rfl) (S.pickT rfl ((L 9 rfl rfl).trans (congrArg Value.bool g47)) (L 0 rfl rfl)) ?_
      have ow67 := ow59.ssclose' (k := 4) (j := 0) rfl rfl (by decide) hh58 hx50
      have e68 := Option.some.inj h51
      subst e68
      exact kk [(20, .bool ((mG x49 p2).getD false)), (19, .bool ((mG x49 p2).getD false)), (18, .int .i64 p2), (17, h57), (16, .pointer (some ⟨b52, o53 + Int.toNat p1 * 1, none⟩)), (15, .int .i64 p1), (14, v9), (13, .pointer (some ⟨b1, 2, none⟩)), (12, .pointer (some ⟨b1, 0, none⟩)), (11, .pointer (some ⟨b1, 0, none⟩))] _ ⟨.bool ((mG x49 p2).getD false), .int .i64 p2, h57, .pointer (some ⟨b52, o53 + Int.toNat p1 * 1, none⟩), .int .i64 p1, v9, .pointer (some ⟨b1, 2, none⟩), .pointer (some ⟨b1, 0, none⟩), .pointer (some ⟨b1, 0, none⟩), rfl, rfl⟩
    · have h69 := ifF g47 hy32
      refine U.x rfl rfl rfl rfl ((L 0 rfl rfl).trans (congrArg Value.bool g47)) (by decide) ?_
      refine U.x rfl rfl rfl rfl ((L 1 rfl rfl).trans (congrArg Value.bool g47)) (by decide) ?_
      refine U.x rfl rfl rfl rfl ((L 2 rfl rfl).trans (congrArg Value.bool g47)) (by decide) ?_
      refine U.x rfl rfl rfl rfl ((L 3 rfl rfl).trans (congrArg Value.bool g47)) (by decide) ?_
      refine U.x rfl rfl rfl rfl ((L 4 rfl rfl).trans (congrArg Value.bool g47)) (by decide) ?_
      refine U.x rfl rfl rfl rfl ((L 5 rfl rfl).trans (congrArg Value.bool g47)) (by decide) ?_
      refine U.x rfl rfl rfl rfl ((L 6 rfl rfl).trans (congrArg Value.bool g47)) (by decide) ?_
      refine U.x rfl rfl rfl rfl ((L 7 rfl rfl).trans (congrArg Value.bool g47)) (by decide) ?_
      refine U.x rfl rfl rfl rfl ((L 8 rfl rfl).trans (congrArg Value.bool g47)) (by decide) ?_
      refine U.p rfl rfl (.inl rfl) (S.pickF rfl ((L 9 rfl rfl).trans (congrArg Value.bool g47)) K) ?_
      have e70 := Option.some.inj h69
      subst e70
      exact kk [(20, .bool false), (19, .tuple #[]), (18, .tuple #[]), (17, .tuple #[]), (16, .tuple #[]), (15, .tuple #[]), (14, .tuple #[]), (13, .tuple #[]), (12, .tuple #[]), (11, .tuple #[])] _ ⟨.tuple #[], .tuple #[], .tuple #[], .tuple #[], .tuple #[], .tuple #[], .tuple #[], .tuple #[], .tuple #[], rfl, rfl⟩

set_option maxHeartbeats 4000000 in
set_option maxRecDepth 10000 in
theorem wk_storage_Storage_passed (V : Vw) (Rs : List At) (p0 : Tstorage_Storage) (p1 : Int) (p2 : Int) (b1 : Nat) (z2 : Nat) (v4 : Value) (v6 : Value) (hs7 : List Value) (v9 : Value) (hs10 : List Value) (v12 : Value) (hs13 : List Value) (v15 : Value) (ow : Ow V (.pt b1 (.cells z2 [v4, v6, v9, v12, v15]) :: .os RT_Tref16_Event v4 p0.events :: .oss (RO.os (RT.int .i64)) v6 hs7 p0.seen :: .oss (RO.om RT.bool false) v9 hs10 p0.has :: .oss (RO.om (RT.int .i64) false) v12 hs13 p0.now :: .om (RT.int .i64) false v15 p0.last :: Rs)) (r : Bool) (h : storage_Storage_passed p0 p1 p2 = some r) : ∃ v V', Cl Try.prog 0 33 #[.pointer (some ⟨b1, 0, none⟩), .int .i64 p1, .int .i64 p2] V.H v V'.H ∧ V.le V' ∧ (v = .bool r ∧ Ow V' (.pt b1 (.cells z2 [v4, v6, v9, v12, v15]) :: .os RT_Tref16_Event v4 p0.events :: .oss (RO.os (RT.int .i64)) v6 hs7 p0.seen :: .oss (RO.om RT.bool false) v9 hs10 p0.has :: .oss (RO.om (RT.int .i64) false) v12 hs13 p0.now :: .om (RT.int .i64) false v15 p0.last :: Rs)) := by
  refine Ct.of (Nat.zero_le _) Try.func33 rfl (Nat.le_of_ble_eq_true rfl) ?_
  unfold storage_Storage_passed at h
  refine WP.usreg rfl ?_
  refine U.p rfl rfl (.inl rfl) (S.assign rfl K) ?_
  refine U.done (Nat.le_of_ble_eq_true rfl) ?_
  refine WP.usreg rfl ?_
  refine U.p rfl rfl (.inl rfl) (S.move rfl (L 1 rfl rfl)) ?_
  refine U.p rfl rfl (.inl rfl) (S.move rfl (L 3 rfl rfl)) ?_
  refine U.p rfl rfl (.inl rfl) (S.move rfl (L 3 rfl rfl)) ?_
  refine U.p rfl rfl (.inl rfl) (S.nilCheck rfl (L 0 rfl rfl)) ?_
  refine U.p (v := .pointer (some ⟨b1, 0, none⟩)) rfl rfl (.inl rfl) (S.fieldAddr rfl (L 0 rfl rfl) Try.underlying62 rfl ti53 rfl rfl) ?_
  refine U.k rfl rfl (.inl rfl) (S.load rfl (L 0 rfl rfl) Try.underlying53 rfl ((ow.own (k := 0) rfl).cell rfl)) nd ?_
  refine U.p rfl rfl (.inl rfl) (S.move rfl (L 9 rfl rfl)) ?_
  refine U.p rfl rfl (.inl rfl) (S.sub rfl (L 0 rfl rfl) K) ?_
  obtain ⟨x17, hx18, h19⟩ := bindS h
  obtain ⟨b20, o21, n22, c23, hv24⟩ := ow.ospt (k := 1) rfl hx18
  obtain ⟨_, hv25, _⟩ := ow.osel (k := 1) rfl hv24 hx18
  refine U.p rfl rfl (.inl rfl) (S.index rfl ((L 2 rfl rfl).trans hv25) (L 0 rfl rfl) Try.underlying53 ti55 (ix_ge hx18) (ix_lt hx18)) ?_
  refine U.p (v := .pointer (some ⟨b20, o21 + Int.toNat (w64 (p2 - 1)) * 4 + 2, none⟩)) rfl rfl (.inl rfl) (S.fieldAddr rfl (L 0 rfl rfl) Try.underlying55 rfl ti3 rfl rfl) ?_
  obtain ⟨cs26, hv27, hlt28, hr29, hc30⟩ := ow.osel (k := 1) rfl hv24 hx18
  obtain rfl : cs26 = [.int .i64 x17.thread, .bool x17.bar, .int .i64 x17.at_, .int .i64 x17.val] := hr29
  refine U.k rfl rfl (.inl rfl) (S.load rfl (L 0 rfl rfl) Try.underlying3 rfl (hc30 2 _ rfl)) nd ?_
  have ow31 := ow.pick 5 rfl
  have ow32 := ow31.pick 5 rfl
  have ow33 := ow32.pick 5 rfl
  have ow34 := ow33.pick 5 rfl
  have ow35 := ow34.pick 5 rfl
  have ow36 := ow35.pick 5 rfl
  obtain ⟨x37, hx38, h39⟩ := bindS h19
  refine O.call (V := V) rfl rfl (.inl rfl) rfl en13 (aC (L 10 rfl rfl) (aC (L 9 rfl rfl) (aC (L 0 rfl rfl) aN))) (wk_storage_Storage_Read V _ p0 p1 x17.at_ b1 z2 v4 v6 hs7 v9 hs10 v12 hs13 v15 ow36 _ hx38) (fun _ _ _ _ => nd) (fun v40 V41 le42 hp43 => ?_)
  obtain ⟨rfl, ow44⟩ := hp43
  refine U.p rfl rfl (.inl rfl) (S.move rfl (L 0 rfl rfl)) ?_
  refine U.p rfl rfl (.inl rfl) (S.extract rfl (L 0 rfl rfl) rfl (Nat.le_of_ble_eq_true rfl)) ?_
  refine U.p rfl rfl (.inl rfl) (S.extract rfl (L 1 rfl rfl) rfl (Nat.le_of_ble_eq_true rfl)) ?_
  refine U.p rfl rfl (.inl rfl) (S.assign rfl (L 1 rfl rfl)) ?_
  refine U.p rfl rfl (.inl rfl) (S.assign rfl (L 1 rfl rfl)) ?_
  refine U.done (Nat.le_of_ble_eq_true rfl) ?_
  refine WP.usreg rfl ?_
  refine U.p rfl rfl (.inl rfl) (S.move rfl (L 0 rfl rfl)) ?_
  refine U.p rfl rfl (.inl rfl) (S.move rfl (L 21 rfl rfl)) ?_
  refine U.p rfl rfl (.inl rfl) (S.geq rfl (L 1 rfl rfl) (L 0 rfl rfl)) ?_
  refine U.p rfl rfl (.inl rfl) (S.assign rfl (L 0 rfl rfl)) ?_
  refine U.done (Nat.le_of_ble_eq_true rfl) ?_
  refine WP.ret ?_
  refine fin.slot (.inr rfl) rfl (L 0 rfl rfl) ⟨V41, rfl, le42, ?_⟩
  have e45 := Option.some.inj h39
  subst e45
  exact ⟨rfl, ow44⟩

set_option maxHeartbeats 4000000 in
set_option maxRecDepth 10000 in
theorem wk_slices_Index (V : Vw) (Rs : List At) (p0 : List Int) (p1 : Int) (v1 : Value) (ow : Ow V (.os (RT.int .i64) v1 p0 :: Rs)) (r : Int) (h : slices_Index p0 p1 = some r) : ∃ v V', Cl Try.prog 0 41 #[v1, .int .i64 p1] V.H v V'.H ∧ V.le V' ∧ (v = .int .i64 r ∧ Ow V' (.os (RT.int .i64) v1 p0 :: Rs)) := by
  refine Ct.of (Nat.zero_le _) Try.func41 rfl (Nat.le_of_ble_eq_true rfl) ?_
  unfold slices_Index at h
  refine WP.usreg rfl ?_
  refine U.p rfl rfl (.inl rfl) (S.assign rfl K) ?_
  refine U.done (Nat.le_of_ble_eq_true rfl) ?_
  refine WP.seq ?_
  refine WP.usreg rfl ?_
  refine U.p rfl rfl (.inl rfl) (S.move rfl (L 1 rfl rfl)) ?_
  refine U.p rfl rfl (.inl rfl) (ow.oslen (k := 0) rfl rfl (L 0 rfl rfl) Try.underlying26) ?_
  refine U.p rfl rfl (.inl rfl) (S.move rfl K) ?_
  refine U.done (Nat.le_of_ble_eq_true rfl) ?_
  refine WP.blk ?_
  unfold slices_Index_l1 at h
  obtain ⟨n5, hn4⟩ := loopO_some.1 h
  refine WP.loopI2 (fun n l V' => ∃ (x3 : Int), l = [(0, v1), (1, .int .i64 p1), (7, .int .i64 (p0.length : Int)), (8, .int .i64 x3)] ∧ V.le V' ∧ Ow V' (.os (RT.int .i64) v1 p0 :: Rs) ∧ itO (fun s => slices_Index_l1b p0 p1 s) n x3 = some r) n5 _ ⟨0, rfl, .refl _, ow, hn4⟩ (allCons (L 4 rfl rfl) (allCons (L 5 rfl rfl) (allCons (L 1 rfl rfl) (allCons (L 0 rfl rfl) allNil)))) ?_
  rintro _ _ V6 ⟨x3, rfl, le7, ow8, h12⟩
  obtain ⟨m9, q10, rfl, h13, e11⟩ := itS h12
  replace h13 : slices_Index_l1b p0 p1 x3 = some q10 := h13
  unfold slices_Index_l1b at h13
  refine WP.usreg rfl ?_
  refine U.p rfl rfl (.inl rfl) (S.lss rfl (L 3 rfl rfl) (L 2 rfl rfl)) ?_
  refine U.done (Nat.le_of_ble_eq_true rfl) ?_
  refine WP.seq ?_
  refine WP.cond _ (L 0 rfl rfl) rfl (fun c14 => ?_) (fun c14 => ?_)
  · have h15 := ifT c14 h13
    refine WP.skip ?_
    refine sqN ?_
    refine WP.seq ?_
    refine WP.blk ?_
    refine WP.usreg rfl ?_
    refine U.p rfl rfl (.inl rfl) (S.move rfl (L 4 rfl rfl)) ?_
    refine U.p rfl rfl (.inl rfl) (S.assign rfl (L 0 rfl rfl)) ?_
    refine U.done (Nat.le_of_ble_eq_true rfl) ?_
    refine WP.usreg rfl ?_
    refine U.p rfl rfl (.inl rfl) (S.move rfl (L 4 rfl rfl)) ?_
    refine U.p rfl rfl (.inl rfl) (S.move rfl (L 4 rfl rfl)) ?_
    refine U.p rfl rfl (.inl rfl) (S.move rfl (L 2 rfl rfl)) ?_
    obtain ⟨x16, hx17, h18⟩ := bindS h15
    obtain ⟨b19, o20, n21, c22, hv23⟩ := ow8.ospt (k := 0) rfl hx17
    obtain ⟨_, hv24, _⟩ := ow8.osel (k := 0) rfl hv23 hx17
    refine U.p rfl rfl (.inl rfl) (S.index rfl ((L 1 rfl rfl).trans hv24) (L 0 rfl rfl) Try.underlying26 ti3 (ix_ge hx17) (ix_lt hx17)) ?_
    obtain ⟨cs25, hv26, hlt27, hr28, hc29⟩ := ow8.osel (k := 0) rfl hv23 hx17
    obtain rfl : cs25 = [.int .i64 x16] := hr28
    refine U.k rfl rfl (.inl rfl) (S.load rfl (L 0 rfl rfl) Try.underlying3 rfl (hc29 0 _ rfl)) nd ?_
    refine U.p rfl rfl (.inl rfl) (S.eqlI rfl (L 4 rfl rfl) (L 0 rfl rfl)) ?_
    refine U.done (Nat.le_of_ble_eq_true rfl) ?_
    refine WP.cond _ (L 0 rfl rfl) rfl (fun c30 => ?_) (fun c30 => ?_)
    · have h31 := ifT c30 h18
      refine WP.usreg rfl ?_
      refine U.p rfl rfl (.inl rfl) (S.move rfl (L 6 rfl rfl)) ?_
      refine U.p rfl rfl (.inl rfl) (S.assign rfl (L 0 rfl rfl)) ?_
      refine U.done (Nat.le_of_ble_eq_true rfl) ?_
      refine WP.ret ?_
      refine blkR (sqR (sqR (blkR (sqR ?_))))
      have h32 := exitS h31 e11
      refine fin.slot (.inr rfl) rfl (L 0 rfl rfl) ⟨V6, rfl, le7, ?_⟩
      have e33 := Option.some.inj h32
      subst e33
      exact ⟨rfl, ow8⟩
    · have h34 := ifF c30 h18
      refine WP.skip ?_
      refine blkN (sqN ?_)
      refine WP.ureg rfl ?_
      refine U.p rfl rfl (.inl rfl) (S.add rfl (L 12 rfl rfl) K) ?_
      refine U.p rfl rfl (.inl rfl) (S.move rfl (L 0 rfl rfl)) ?_
      refine U.done (Nat.le_of_ble_eq_true rfl) ?_
      refine sqN ?_
      exact ⟨_, V6, rfl, ⟨m9, Nat.lt_succ_self _, w64 (x3 + 1), rfl, le7, ow8, backS h34 e11⟩, (allCons (L 11 rfl rfl) (allCons (L 12 rfl rfl) (allCons (L 13 rfl rfl) (allCons (L 0 rfl rfl) allNil))))⟩
  · have h35 := ifF c14 h13
    refine WP.exit ?_
    refine sqE (sqE (blkE (sqN ?_)))
    have h36 := exitS h35 e11
    refine WP.usreg rfl ?_
    refine U.p rfl rfl (.inl rfl) (S.assign rfl K) ?_
    refine U.done (Nat.le_of_ble_eq_true rfl) ?_
    refine WP.ret ?_
    refine fin.slot (.inr rfl) rfl (L 0 rfl rfl) ⟨V6, rfl, le7, ?_⟩
    have e37 := Option.some.inj h36
    subst e37
    exact ⟨rfl, ow8⟩

set_option maxHeartbeats 4000000 in
set_option maxRecDepth 10000 in
theorem wk_storage_Storage_ahead (V : Vw) (Rs : List At) (p0 : Tstorage_Storage) (p1 : Int) (b1 : Nat) (z2 : Nat) (v4 : Value) (v6 : Value) (hs7 : List Value) (v9 : Value) (hs10 : List Value) (v12 : Value) (hs13 : List Value) (v15 : Value) (ow : Ow V (.pt b1 (.cells z2 [v4, v6, v9, v12, v15]) :: .os RT_Tref16_Event v4 p0.events :: .oss (RO.os (RT.int .i64)) v6 hs7 p0.seen :: .oss (RO.om RT.bool false) v9 hs10 p0.has :: .oss (RO.om (RT.int .i64) false) v12 hs13 p0.now :: .om (RT.int .i64) false v15 p0.last :: Rs)) (r : List Int) (h : storage_Storage_ahead p0 p1 = some r) : ∃ v V', Cl Try.prog 0 34 #[.pointer (some ⟨b1, 0, none⟩), .int .i64 p1] V.H v V'.H ∧ V.le V' ∧ (∃ (v17 : Value), v = v17 ∧ Al hs7 p0.seen 1 v17 r ∧ Ow V' (.pt b1 (.cells z2 [v4, v6, v9, v12, v15]) :: .os RT_Tref16_Event v4 p0.events :: .oss (RO.os (RT.int .i64)) v6 hs7 p0.seen :: .oss (RO.om RT.bool false) v9 hs10 p0.has :: .oss (RO.om (RT.int .i64) false) v12 hs13 p0.now :: .om (RT.int .i64) false v15 p0.last :: Rs)) := by
  refine Ct.of (Nat.zero_le _) Try.func34 rfl (Nat.le_of_ble_eq_true rfl) ?_
  unfold storage_Storage_ahead at h
  refine WP.usreg rfl ?_
  refine U.p rfl rfl (.inl rfl) (S.assign rfl K) ?_
  refine U.done (Nat.le_of_ble_eq_true rfl) ?_
  refine WP.usdreg rfl rfl rfl ?_
  refine U.p rfl rfl (.inl rfl) (S.move rfl (L 1 rfl rfl)) ?_
  refine U.p rfl rfl (.inl rfl) (S.nilCheck rfl (L 0 rfl rfl)) ?_
  refine U.p (v := .pointer (some ⟨b1, 1, none⟩)) rfl rfl (.inl rfl) (S.fieldAddr rfl (L 0 rfl rfl) Try.underlying62 rfl ti44 rfl rfl) ?_
  refine U.k rfl rfl (.inl rfl) (S.load rfl (L 0 rfl rfl) Try.underlying44 rfl ((ow.own (k := 0) rfl).cell rfl)) (fun _ => (okH.nil (fun r h => by cases h; exact (ow.own (k := 0) rfl).lt))) ?_
  refine U.p rfl rfl (.inl rfl) (S.move rfl (L 5 rfl rfl)) ?_
  refine U.p rfl rfl (.inl rfl) (S.nilCheck rfl (L 0 rfl rfl)) ?_
  refine U.p (v := .pointer (some ⟨b1, 0, none⟩)) rfl rfl (.inl rfl) (S.fieldAddr rfl (L 0 rfl rfl) Try.underlying62 rfl ti53 rfl rfl) ?_
  refine U.k rfl rfl (.inl rfl) (S.load rfl (L 0 rfl rfl) Try.underlying53 rfl ((ow.own (k := 0) rfl).cell rfl)) (fun _ => (okH.cons trivial (okH.nil (fun r h => by cases h; exact (ow.own (k := 0) rfl).lt)))) ?_
  refine U.p rfl rfl (.inl rfl) (S.move rfl (L 10 rfl rfl)) ?_
  refine U.p rfl rfl (.inl rfl) (S.sub rfl (L 0 rfl rfl) K) ?_
  obtain ⟨x19, hx20, h21⟩ := bindS h
  obtain ⟨b22, o23, n24, c25, hv26⟩ := ow.ospt (k := 1) rfl hx20
  obtain ⟨_, hv27, _⟩ := ow.osel (k := 1) rfl hv26 hx20
  refine U.p rfl rfl (.inl rfl) (S.index rfl ((L 2 rfl rfl).trans hv27) (L 0 rfl rfl) Try.underlying53 ti55 (ix_ge hx20) (ix_lt hx20)) ?_
  refine U.p (v := .pointer (some ⟨b22, o23 + Int.toNat (w64 (p1 - 1)) * 4, none⟩)) rfl rfl (.inl rfl) (S.fieldAddr rfl (L 0 rfl rfl) Try.underlying55 rfl ti3 rfl rfl) ?_
  obtain ⟨cs28, hv29, hlt30, hr31, hc32⟩ := ow.osel (k := 1) rfl hv26 hx20
  obtain rfl : cs28 = [.int .i64 x19.thread, .bool x19.bar, .int .i64 x19.at_, .int .i64 x19.val] := hr31
  refine U.k rfl rfl (.inl rfl) (S.load rfl (L 0 rfl rfl) Try.underlying3 rfl (hc32 0 _ rfl)) (fun _ => (okH.cons trivial (okH.cons trivial (okH.nil (fun r h => by cases h; exact hlt30))))) ?_
  obtain ⟨x33, hx34, h35⟩ := bindS h21
  obtain ⟨b36, o37, n38, c39, hv40⟩ := ow.sspt (k := 2) rfl hx34
  refine U.p rfl rfl (.inl rfl) (S.index rfl ((L 9 rfl rfl).trans (ow.sslen' (k := 2) rfl hv40)) (L 0 rfl rfl) Try.underlying44 ti26 (ix_ge hx34) (ix_lt hx34)) ?_
  obtain ⟨h41, hh42, ow43⟩ := ow.ssopen (k := 2) rfl hx34
  have hcl45 := ow43.shcell (k := 3) rfl hv40 hh42
  refine U.k rfl rfl (.inl rfl) (S.load rfl (L 0 rfl rfl) Try.underlying26 rfl hcl45.2) (fun _ => (okH.cons trivial (okH.cons trivial (okH.cons trivial (okH.nil (fun r h => by cases h; exact hcl45.1)))))) ?_
  refine U.p rfl rfl (.inl rfl) (S.assign rfl (L 0 rfl rfl)) ?_
  refine U.done (Nat.le_of_ble_eq_true rfl) ?_
  refine WP.usreg rfl ?_
  refine U.p rfl rfl (.inl rfl) (S.move rfl (L 0 rfl rfl)) ?_
  refine U.p rfl rfl (.inl rfl) (S.move rfl (L 19 rfl rfl)) ?_
  obtain ⟨x46, hx47, h48⟩ := bindS h35
  refine O.call (V := V) rfl rfl (.inl rfl) rfl en41 (aC (L 1 rfl rfl) (aC (L 0 rfl rfl) aN)) (wk_slices_Index V _ x33 p1 h41 ow43 _ hx47) (fun _ _ _ _ => nd) (fun v49 V50 le51 hp52 => ?_)
  obtain ⟨rfl, ow53⟩ := hp52
  refine U.p rfl rfl (.inl rfl) (S.assign rfl (L 0 rfl rfl)) ?_
  refine U.done (Nat.le_of_ble_eq_true rfl) ?_
  refine WP.usreg rfl ?_
  refine U.p rfl rfl (.inl rfl) (S.move rfl (L 4 rfl rfl)) ?_
  refine U.p rfl rfl (.inl rfl) (S.move rfl (L 1 rfl rfl)) ?_
  refine U.p rfl rfl (.inl rfl) (S.move rfl (L 2 rfl rfl)) ?_
  obtain ⟨xs54, hx55, h56⟩ := bindS h48
  refine O.subA (k := 0) ow53 rfl hx55 rfl rfl (.inl rfl) rfl (L 2 rfl rfl) Try.underlying26 ti3 ⟨.inl ⟨rfl, rfl⟩, .inr ⟨_, _, rfl, (L 1 rfl rfl)⟩, .inr ⟨by simp, _, _, rfl, (L 0 rfl rfl)⟩⟩ (fun v57 ha58 => ?_)
  have f59 : Al hs7 p0.seen 1 v57 xs54 := .of hh42 hx34 hx55 ha58
  refine U.p rfl rfl (.inl rfl) (S.assign rfl (L 0 rfl rfl)) ?_
  refine U.done (Nat.le_of_ble_eq_true rfl) ?_
  refine WP.ret ?_
  have ow60 := ow53.ssclose' (k := 3) (j := 0) rfl rfl (by decide) hh42 hx34
  refine fin.slot (.inr rfl) rfl (L 0 rfl rfl) ⟨V50, rfl, le51, ?_⟩
  have e61 := Option.some.inj h56
  subst e61
  exact ⟨v57, rfl, f59, ow60⟩

set_option maxHeartbeats 4000000 in
set_option maxRecDepth 10000 in
theorem wk_storage_Storage_May (V : Vw) (Rs : List At) (p0 : Tstorage_Storage) (p1 : Int) (p2 : Int) (b1 : Nat) (z2 : Nat) (v4 : Value) (v6 : Value) (hs7 : List Value) (v9 : Value) (hs10 : List Value) (v12 : Value) (hs13 : List Value) (v15 : Value) (ow : Ow V (.pt b1 (.cells z2 [v4, v6, v9, v12, v15]) :: .os RT_Tref16_Event v4 p0.events :: .oss (RO.os (RT.int .i64)) v6 hs7 p0.seen :: .oss (RO.om RT.bool false) v9 hs10 p0.has :: .oss (RO.om (RT.int .i64) false) v12 hs13 p0.now :: .om (RT.int .i64) false v15 p0.last :: Rs)) (r : Bool) (h : storage_Storage_May p0 p1 p2 = some r) : ∃ v V', Cl Try.prog 0 25 #[.pointer (some ⟨b1, 0, none⟩), .int .i64 p1, .int .i64 p2] V.H v V'.H ∧ V.le V' ∧ (v = .bool r ∧ Ow V' (.pt b1 (.cells z2 [v4, v6, v9, v12, v15]) :: .os RT_Tref16_Event v4 p0.events :: .oss (RO.os (RT.int .i64)) v6 hs7 p0.seen :: .oss (RO.om RT.bool false) v9 hs10 p0.has :: .oss (RO.om (RT.int .i64) false) v12 hs13 p0.now :: .om (RT.int .i64) false v15 p0.last :: Rs)) := by
  refine Ct.of (Nat.zero_le _) Try.func25 rfl (Nat.le_of_ble_eq_true rfl) ?_
  unfold storage_Storage_May at h
  refine WP.usreg rfl ?_
  refine U.p rfl rfl (.inl rfl) (S.assign rfl K) ?_
  refine U.done (Nat.le_of_ble_eq_true rfl) ?_
  refine WP.seq ?_
  refine WP.usreg rfl ?_
  refine U.p rfl rfl (.inl rfl) (S.move rfl (L 1 rfl rfl)) ?_
  refine U.p rfl rfl (.inl rfl) (S.move rfl (L 3 rfl rfl)) ?_
  have ow17 := ow.pick 5 rfl
  have ow18 := ow17.pick 5 rfl
  have ow19 := ow18.pick 5 rfl
  have ow20 := ow19.pick 5 rfl
  have ow21 := ow20.pick 5 rfl
  have ow22 := ow21.pick 5 rfl
  obtain ⟨x23, hx24, h25⟩ := bindS h
  refine O.call (V := V) rfl rfl (.inl rfl) rfl en29 (aC (L 1 rfl rfl) (aC (L 0 rfl rfl) aN)) (wk_storage_Storage_thread V _ p0 p1 b1 z2 v4 v6 hs7 v9 hs10 v12 hs13 v15 ow22 _ hx24) (fun _ _ _ _ => nd) (fun v26 V27 le28 hp29 => ?_)
  obtain ⟨rfl, ow30⟩ := hp29
  refine U.p rfl rfl (.inl rfl) (S.not rfl (L 0 rfl rfl)) ?_
  refine U.p rfl rfl (.inl rfl) (S.move rfl (L 0 rfl rfl)) ?_
  refine U.joinX 8 (fun e H => ∃ (u31 u32 : Value), H = V27.H ∧ e = [(18, .bool ((!x23) || (decide (p2 < 1)))), (17, u31), (16, u32)]) ?_ ?_
  · rintro _ _ ⟨u31, u32, rfl, rfl⟩
    refine U.p rfl rfl (.inl rfl) (S.move rfl (L 0 rfl rfl)) ?_
    refine U.joinX 17 (fun e H => ∃ (u36 u37 u38 u39 u40 u41 u42 : Value), H = V27.H ∧ e = [(27, .bool (((!x23) || (decide (p2 < 1))) || (decide ((p0.events.length : Int) < p2)))), (26, u36), (25, u37), (24, u38), (23, u39), (22, u40), (21, u41), (20, u42)]) ?_ ?_
    · rintro _ _ ⟨u36, u37, u38, u39, u40, u41, u42, rfl, rfl⟩
      refine U.p rfl rfl (.inl rfl) (S.move rfl (L 0 rfl rfl)) ?_
      obtain ⟨y46, hy47, h48⟩ := bindS h25
      refine U.joinX 23 (fun e H => ∃ (u49 u50 u51 u52 : Value), ∃ V' : Vw, H = V'.H ∧ V27.le V' ∧ e = [(33, .bool y46), (32, u49), (31, u50), (30, u51), (29, u52)] ∧ Ow V' (.pt b1 (.cells z2 [v4, v6, v9, v12, v15]) :: .os RT_Tref16_Event v4 p0.events :: .oss (RO.os (RT.int .i64)) v6 hs7 p0.seen :: .oss (RO.om RT.bool false) v9 hs10 p0.has :: .oss (RO.om (RT.int .i64) false) v12 hs13 p0.now :: .om (RT.int .i64) false v15 p0.last :: Rs)) ?_ ?_
      · rintro _ _ ⟨u49, u50, u51, u52, V53, rfl, le54, rfl, ow55⟩
        refine U.done (Nat.le_of_ble_eq_true rfl) ?_
        refine WP.cond _ (L 0 rfl rfl) rfl (fun c56 => ?_) (fun c56 => ?_)
        · have h57 := ifT c56 h48
          refine WP.usreg rfl ?_
          refine U.p rfl rfl (.inl rfl) (S.assign rfl K) ?_
          refine U.done (Nat.le_of_ble_eq_true rfl) ?_
          refine WP.ret ?_
          refine sqR ?_
          refine fin.slot (.inr rfl) rfl (L 0 rfl rfl) ⟨V53, rfl, (le28.trans le54), ?_⟩
          have e58 := Option.some.inj h57
          subst e58
          exact ⟨rfl, ow55⟩
        · have h59 := ifF c56 h48
          refine WP.skip ?_
          refine sqN ?_
          refine WP.usreg rfl ?_
          refine U.p rfl rfl (.inl rfl) (S.move rfl (L 24 rfl rfl)) ?_
          refine U.p rfl rfl (.inl rfl) (S.nilCheck rfl (L 0 rfl rfl)) ?_
          refine U.p (v := .pointer (some ⟨b1, 0, none⟩)) rfl rfl (.inl rfl) (S.fieldAddr rfl (L 0 rfl rfl) Try.underlying62 rfl ti53 rfl rfl) ?_
          refine U.k rfl rfl (.inl rfl) (S.load rfl (L 0 rfl rfl) Try.underlying53 rfl ((ow55.own (k := 0) rfl).cell rfl)) nd ?_
          refine U.p rfl rfl (.inl rfl) (S.move rfl (L 30 rfl rfl)) ?_
          refine U.p rfl rfl (.inl rfl) (S.sub rfl (L 0 rfl rfl) K) ?_
          obtain ⟨x60, hx61, h62⟩ := bindS h59
          obtain ⟨b63, o64, n65, c66, hv67⟩ := ow55.ospt (k := 1) rfl hx61
          obtain ⟨_, hv68, _⟩ := ow55.osel (k := 1) rfl hv67 hx61
          refine U.p rfl rfl (.inl rfl) (S.index rfl ((L 2 rfl rfl).trans hv68) (L 0 rfl rfl) Try.underlying53 ti55 (ix_ge hx61) (ix_lt hx61)) ?_
          obtain ⟨cs69, hv70, hlt71, hr72, hc73⟩ := ow55.osel (k := 1) rfl hv67 hx61
          obtain rfl : cs69 = [.int .i64 x60.thread, .bool x60.bar, .int .i64 x60.at_, .int .i64 x60.val] := hr72
          refine U.k rfl rfl (.inl rfl) (S.loadN (cs := [.int .i64 x60.thread, .bool x60.bar, .int .i64 x60.at_, .int .i64 x60.val]) rfl (L 0 rfl rfl) Try.underlying55 rfl ti55 rfl hc73) nd ?_
          refine O.alloc ow55 rfl rfl (.inl rfl) rfl ti55 rfl rfl nd (fun b74 V75 le76 ow77 => ?_)
          refine O.store (k := 0) (cs := [.int .i64 x60.thread, .bool x60.bar, .int .i64 x60.at_, .int .i64 x60.val]) (c' := [.int .i64 x60.thread, .bool x60.bar, .int .i64 x60.at_, .int .i64 x60.val]) ow77 rfl rfl rfl (.inl rfl) rfl (L 0 rfl rfl) (L 1 rfl rfl) ti55 (by simp [topV]) rfl rfl (Nat.le_of_ble_eq_true rfl) rfl rfl nd (fun V79 le80 ow81 => ?_)
          refine U.done (Nat.le_of_ble_eq_true rfl) ?_
          refine WP.seq ?_
          refine WP.usreg rfl ?_
          refine U.p (v := .pointer (some ⟨b74, 1, none⟩)) rfl rfl (.inl rfl) (S.fieldAddr rfl (L 0 rfl rfl) Try.underlying55 rfl ti4 rfl rfl) ?_
          refine U.k rfl rfl (.inl rfl) (S.load rfl (L 0 rfl rfl) Try.underlying4 rfl ((ow81.own (k := 0) rfl).cell rfl)) nd ?_
          refine U.p rfl rfl (.inl rfl) (S.not rfl (L 0 rfl rfl)) ?_
          refine U.p rfl rfl (.inl rfl) (S.move rfl (L 0 rfl rfl)) ?_
          obtain ⟨y82, hy83, h84⟩ := bindS h62
          refine U.joinX 9 (fun e H => ∃ (u85 u86 u87 u88 : Value), ∃ V' : Vw, H = V'.H ∧ V79.le V' ∧ e = [(50, .bool y82), (49, u85), (48, u86), (47, u87), (46, u88)] ∧ Ow V' (.pt b74 (.cells 4 [.int .i64 x60.thread, .bool x60.bar, .int .i64 x60.at_, .int .i64 x60.val]) :: .pt b1 (.cells z2 [v4, v6, v9, v12, v15]) :: .os RT_Tref16_Event v4 p0.events :: .oss (RO.os (RT.int .i64)) v6 hs7 p0.seen :: .oss (RO.om RT.bool false) v9 hs10 p0.has :: .oss (RO.om (RT.int .i64) false) v12 hs13 p0.now :: .om (RT.int .i64) false v15 p0.last :: Rs)) ?_ ?_
          · rintro _ _ ⟨u85, u86, u87, u88, V89, rfl, le90, rfl, ow91⟩
            refine U.done (Nat.le_of_ble_eq_true rfl) ?_
            refine WP.cond _ (L 0 rfl rfl) rfl (fun c92 => ?_) (fun c92 => ?_)
            · have h93 := ifT c92 h84
              refine WP.usreg rfl ?_
              refine U.p rfl rfl (.inl rfl) (S.assign rfl K) ?_
              refine U.done (Nat.le_of_ble_eq_true rfl) ?_
              refine WP.ret ?_
              refine sqR ?_
              refine fin.slot (.inr rfl) rfl (L 0 rfl rfl) ⟨V89, rfl, ((((le28.trans le54).trans le76).trans le80).trans le90), ?_⟩
              have ow94 := ow91.drop 0 rfl
              have e95 := Option.some.inj h93
              subst e95
              exact ⟨rfl, ow94⟩
            · have h96 := ifF c92 h84
              refine WP.skip ?_
              refine sqN ?_
              refine WP.seq ?_
              refine WP.usreg rfl ?_
              refine U.p rfl rfl (.inl rfl) (S.move rfl (L 42 rfl rfl)) ?_
              refine U.p rfl rfl (.inl rfl) (S.move rfl (L 45 rfl rfl)) ?_
              have ow97 := ow91.pick 6 rfl
              have ow98 := ow97.pick 6 rfl
              have ow99 := ow98.pick 6 rfl
              have ow100 := ow99.pick 6 rfl
              have ow101 := ow100.pick 6 rfl
              have ow102 := ow101.pick 6 rfl
              obtain ⟨x103, hx104, h105⟩ := bindS h96
              refine O.call (V := V89) rfl rfl (.inl rfl) rfl en34 (aC (L 1 rfl rfl) (aC (L 0 rfl rfl) aN)) (wk_storage_Storage_ahead V89 _ p0 p2 b1 z2 v4 v6 hs7 v9 hs10 v12 hs13 v15 ow102 _ hx104) (fun _ _ _ _ => nd) (fun v106 V107 le108 hp109 => ?_)
              obtain ⟨_, rfl, f112, ow110⟩ := hp109
              refine U.p rfl rfl (.inl rfl) (f112.len rfl (L 0 rfl rfl) Try.underlying26) ?_
              refine U.p rfl rfl (.inl rfl) (S.move rfl K) ?_
              refine U.done (Nat.le_of_ble_eq_true rfl) ?_
              refine WP.blk ?_
              unfold storage_Storage_May_l1 at h105
              obtain ⟨n115, hn114⟩ := loopO_some.1 h105
              refine WP.loopI2 (fun n l V' => ∃ (x113 : Int), l = [(0, .pointer (some ⟨b1, 0, none⟩)), (1, .int .i64 p1), (7, .pointer (some ⟨b74, 0, none⟩)), (53, v106), (54, .int .i64 (x103.length : Int)), (55, .int .i64 x113)] ∧ V107.le V' ∧ Ow V' (.pt b1 (.cells z2 [v4, v6, v9, v12, v15]) :: .os RT_Tref16_Event v4 p0.events :: .oss (RO.os (RT.int .i64)) v6 hs7 p0.seen :: .oss (RO.om RT.bool false) v9 hs10 p0.has :: .oss (RO.om (RT.int .i64) false) v12 hs13 p0.now :: .om (RT.int .i64) false v15 p0.last :: .pt b74 (.cells 4 [.int .i64 x60.thread, .bool x60.bar, .int .i64 x60.at_, .int .i64 x60.val]) :: Rs) ∧ itO (fun s => storage_Storage_May_l1b p0 p1 x60 x103 s) n x113 = some r) n115 _ ⟨0, rfl, .refl _, ow110, hn114⟩ (allCons (L 47 rfl rfl) (allCons (L 48 rfl rfl) (allCons (L 14 rfl rfl) (allCons (L 2 rfl rfl) (allCons (L 1 rfl rfl) (allCons (L 0 rfl rfl) allNil)))))) ?_
              rintro _ _ V116 ⟨x113, rfl, le117, ow118, h122⟩
              obtain ⟨m119, q120, rfl, h123, e121⟩ := itS h122
              replace h123 : storage_Storage_May_l1b p0 p1 x60 x103 x113 = some q120 := h123
              unfold storage_Storage_May_l1b at h123
              refine WP.usreg rfl ?_
              refine U.p rfl rfl (.inl rfl) (S.lss rfl (L 5 rfl rfl) (L 4 rfl rfl)) ?_
              refine U.done (Nat.le_of_ble_eq_true rfl) ?_
              refine WP.seq ?_
              refine WP.cond _ (L 0 rfl rfl) rfl (fun c124 => ?_) (fun c124 => ?_)
              · have h125 := ifT c124 h123
                refine WP.skip ?_
                refine sqN ?_
                refine WP.seq ?_
                refine WP.blk ?_
                refine WP.usreg rfl ?_
                obtain ⟨x126, hx127, h128⟩ := bindS h125
                obtain ⟨i129, h130, xs131, b132, o133, n134, hh135, hx136, hv137, hv138, hx139⟩ := f112.at hx127
                refine U.p rfl rfl (.inl rfl) (S.index rfl ((L 4 rfl rfl).trans hv138) (L 6 rfl rfl) Try.underlying26 ti3 (ix_ge hx127) (ix_lt hx127)) ?_
                obtain ⟨h140, hh141, ow142⟩ := ow118.ssopen (k := 2) rfl hx136
                obtain rfl : h140 = h130 := Option.some.inj (hh141.symm.trans hh135)
                obtain ⟨cs144, hv145, hlt146, hr147, hc148⟩ := ow142.osel (k := 0) rfl hv137 hx139
                obtain rfl : cs144 = [.int .i64 x126] := hr147
                refine U.k rfl rfl (.inl rfl) (S.load rfl (L 0 rfl rfl) Try.underlying3 rfl (hc148 0 _ rfl)) nd ?_
                refine U.p rfl rfl (.inl rfl) (S.assign rfl (L 0 rfl rfl)) ?_
                refine U.done (Nat.le_of_ble_eq_true rfl) ?_
                refine WP.usreg rfl ?_
                refine U.p rfl rfl (.inl rfl) (S.move rfl (L 4 rfl rfl)) ?_
                refine U.p rfl rfl (.inl rfl) (S.nilCheck rfl (L 0 rfl rfl)) ?_
                refine U.p (v := .pointer (some ⟨b1, 0, none⟩)) rfl rfl (.inl rfl) (S.fieldAddr rfl (L 0 rfl rfl) Try.underlying62 rfl ti53 rfl rfl) ?_
                refine U.k rfl rfl (.inl rfl) (S.load rfl (L 0 rfl rfl) Try.underlying53 rfl ((ow142.own (k := 1) rfl).cell rfl)) nd ?_
                refine U.p rfl rfl (.inl rfl) (S.move rfl (L 4 rfl rfl)) ?_
                refine U.p rfl rfl (.inl rfl) (S.sub rfl (L 0 rfl rfl) K) ?_
                obtain ⟨x149, hx150, h151⟩ := bindS h128
                obtain ⟨_, hv152, _⟩ := ow142.osel (k := 2) rfl hv67 hx150
                refine U.p rfl rfl (.inl rfl) (S.index rfl ((L 2 rfl rfl).trans hv152) (L 0 rfl rfl) Try.underlying53 ti55 (ix_ge hx150) (ix_lt hx150)) ?_
                obtain ⟨cs153, hv154, hlt155, hr156, hc157⟩ := ow142.osel (k := 2) rfl hv67 hx150
                obtain rfl : cs153 = [.int .i64 x149.thread, .bool x149.bar, .int .i64 x149.at_, .int .i64 x149.val] := hr156
                refine U.k rfl rfl (.inl rfl) (S.loadN (cs := [.int .i64 x149.thread, .bool x149.bar, .int .i64 x149.at_, .int .i64 x149.val]) rfl (L 0 rfl rfl) Try.underlying55 rfl ti55 rfl hc157) nd ?_
                refine O.alloc ow142 rfl rfl (.inl rfl) rfl ti55 rfl rfl nd (fun b158 V159 le160 ow161 => ?_)
                refine O.store (k := 0) (cs := [.int .i64 x149.thread, .bool x149.bar, .int .i64 x149.at_, .int .i64 x149.val]) (c' := [.int .i64 x149.thread, .bool x149.bar, .int .i64 x149.at_, .int .i64 x149.val]) ow161 rfl rfl rfl (.inl rfl) rfl (L 0 rfl rfl) (L 1 rfl rfl) ti55 (by simp [topV]) rfl rfl (Nat.le_of_ble_eq_true rfl) rfl rfl nd (fun V163 le164 ow165 => ?_)
                refine U.done (Nat.le_of_ble_eq_true rfl) ?_
                refine WP.usreg rfl ?_
                refine U.p (v := .pointer (some ⟨b158, 1, none⟩)) rfl rfl (.inl rfl) (S.fieldAddr rfl (L 0 rfl rfl) Try.underlying55 rfl ti4 rfl rfl) ?_
                refine U.k rfl rfl (.inl rfl) (S.load rfl (L 0 rfl rfl) Try.underlying4 rfl ((ow165.own (k := 0) rfl).cell rfl)) nd ?_
                refine U.p rfl rfl (.inl rfl) (S.move rfl (L 0 rfl rfl)) ?_
                have ow166 := ow165.ssclose' (k := 4) (j := 1) rfl rfl (by decide) hh135 hx136
                obtain ⟨y167, hy168, h169⟩ := bindS h151
                refine U.joinX 9 (fun e H => ∃ (u170 u171 u172 u173 u174 : Value), ∃ V' : Vw, H = V'.H ∧ V163.le V' ∧ e = [(75, .bool y167), (74, u170), (73, u171), (72, u172), (71, u173), (70, u174)] ∧ Ow V' (.pt b158 (.cells 4 [.int .i64 x149.thread, .bool x149.bar, .int .i64 x149.at_, .int .i64 x149.val]) :: .pt b1 (.cells z2 [v4, v6, v9, v12, v15]) :: .os RT_Tref16_Event v4 p0.events :: .oss (RO.os (RT.int .i64)) v6 hs7 p0.seen :: .oss (RO.om RT.bool false) v9 hs10 p0.has :: .oss (RO.om (RT.int .i64) false) v12 hs13 p0.now :: .om (RT.int .i64) false v15 p0.last :: .pt b74 (.cells 4 [.int .i64 x60.thread, .bool x60.bar, .int .i64 x60.at_, .int .i64 x60.val]) :: Rs)) ?_ ?_
                · rintro _ _ ⟨u170, u171, u172, u173, u174, V175, rfl, le176, rfl, ow177⟩
                  refine U.p rfl rfl (.inl rfl) (S.move rfl (L 0 rfl rfl)) ?_
                  obtain ⟨y178, hy179, h180⟩ := bindS h169
                  refine U.joinX 25 (fun e H => ∃ (u181 u182 u183 u184 u185 u186 u187 u188 u189 u190 u191 u192 u193 u194 : Value), ∃ V' : Vw, H = V'.H ∧ V175.le V' ∧ e = [(91, .bool y178), (90, u181), (89, u182), (88, u183), (87, u184), (86, u185), (85, u186), (84, u187), (83, u188), (82, u189), (81, u190), (80, u191), (79, u192), (78, u193), (77, u194)] ∧ Ow V' (.pt b158 (.cells 4 [.int .i64 x149.thread, .bool x149.bar, .int .i64 x149.at_, .int .i64 x149.val]) :: .pt b1 (.cells z2 [v4, v6, v9, v12, v15]) :: .os RT_Tref16_Event v4 p0.events :: .oss (RO.os (RT.int .i64)) v6 hs7 p0.seen :: .oss (RO.om RT.bool false) v9 hs10 p0.has :: .oss (RO.om (RT.int .i64) false) v12 hs13 p0.now :: .om (RT.int .i64) false v15 p0.last :: .pt b74 (.cells 4 [.int .i64 x60.thread, .bool x60.bar, .int .i64 x60.at_, .int .i64 x60.val]) :: Rs)) ?_ ?_
                  · rintro _ _ ⟨u181, u182, u183, u184, u185, u186, u187, u188, u189, u190, u191, u192, u193, u194, V195, rfl, le196, rfl, ow197⟩
                    refine U.done (Nat.le_of_ble_eq_true rfl) ?_
                    refine WP.cond _ (L 0 rfl rfl) rfl (fun c198 => ?_) (fun c198 => ?_)
                    · have h199 := ifT c198 h180
                      refine WP.usreg rfl ?_
                      refine U.p rfl rfl (.inl rfl) (S.assign rfl K) ?_
                      refine U.done (Nat.le_of_ble_eq_true rfl) ?_
                      refine WP.ret ?_
                      refine blkR (sqR (sqR (blkR (sqR ?_))))
                      have h200 := exitS h199 e121
                      refine fin.slot (.inr rfl) rfl (L 0 rfl rfl) ⟨V195, rfl, ((((((((((le28.trans le54).trans le76).trans le80).trans le90).trans le108).trans le117).trans le160).trans le164).trans le176).trans le196), ?_⟩
                      have ow201 := ow197.drop 0 rfl
                      have ow202 := ow201.drop 6 rfl
                      have e203 := Option.some.inj h200
                      subst e203
                      exact ⟨rfl, ow202⟩
                    · have h204 := ifF c198 h180
                      refine WP.skip ?_
                      refine blkN (sqN ?_)
                      refine WP.ureg rfl ?_
                      refine U.p rfl rfl (.inl rfl) (S.add rfl (L 43 rfl rfl) K) ?_
                      refine U.p rfl rfl (.inl rfl) (S.move rfl (L 0 rfl rfl)) ?_
                      refine U.done (Nat.le_of_ble_eq_true rfl) ?_
                      refine sqN ?_
                      have ow205 := ow197.drop 0 rfl
                      exact ⟨_, V195, rfl, ⟨m119, Nat.lt_succ_self _, w64 (x113 + 1), rfl, ((((le117.trans le160).trans le164).trans le176).trans le196), ow205, backS h204 e121⟩, (allCons (L 40 rfl rfl) (allCons (L 41 rfl rfl) (allCons (L 42 rfl rfl) (allCons (L 43 rfl rfl) (allCons (L 44 rfl rfl) (allCons (L 0 rfl rfl) allNil))))))⟩
                  · intro kk
                    refine bcase (b := y167) (fun g206 => ?_) (fun g206 => ?_)
                    · have h207 := ifT g206 hy179
                      refine U.x rfl rfl rfl rfl ((L 0 rfl rfl).trans (congrArg Value.bool g206)) (by decide) ?_
                      refine U.x rfl rfl rfl rfl ((L 1 rfl rfl).trans (congrArg Value.bool g206)) (by decide) ?_
                      refine U.x rfl rfl rfl rfl ((L 2 rfl rfl).trans (congrArg Value.bool g206)) (by decide) ?_
                      refine U.x rfl rfl rfl rfl ((L 3 rfl rfl).trans (congrArg Value.bool g206)) (by decide) ?_
                      refine U.z rfl rfl rfl rfl (L 0 rfl rfl) ?_
                      refine U.z rfl rfl rfl rfl (L 1 rfl rfl) ?_
                      refine U.x rfl rfl rfl rfl ((L 6 rfl rfl).trans (congrArg Value.bool g206)) (by decide) ?_
                      refine U.x rfl rfl rfl rfl ((L 7 rfl rfl).trans (congrArg Value.bool g206)) (by decide) ?_
                      refine U.z rfl rfl rfl rfl (L 0 rfl rfl) ?_
                      refine U.z rfl rfl rfl rfl (L 1 rfl rfl) ?_
                      refine U.z rfl rfl rfl rfl (L 2 rfl rfl) ?_
                      refine U.z rfl rfl rfl rfl (L 3 rfl rfl) ?_
                      refine U.z rfl rfl rfl rfl (L 4 rfl rfl) ?_
                      refine U.x rfl rfl rfl rfl ((L 13 rfl rfl).trans (congrArg Value.bool g206)) (by decide) ?_
                      refine U.p rfl rfl (.inl rfl) (S.pickT rfl ((L 14 rfl rfl).trans (congrArg Value.bool g206)) K) ?_
                      have e208 := Option.some.inj h207
                      subst e208
                      exact kk [(91, .bool true), (90, .tuple #[]), (89, .tuple #[]), (88, .tuple #[]), (87, .tuple #[]), (86, .tuple #[]), (85, .tuple #[]), (84, .tuple #[]), (83, .tuple #[]), (82, .tuple #[]), (81, .tuple #[]), (80, .tuple #[]), (79, .tuple #[]), (78, .tuple #[]), (77, .tuple #[])] _ ⟨.tuple #[], .tuple #[], .tuple #[], .tuple #[], .tuple #[], .tuple #[], .tuple #[], .tuple #[], .tuple #[], .tuple #[], .tuple #[], .tuple #[], .tuple #[], .tuple #[], V175, rfl, (.refl _), rfl, ow177⟩
                    · have h209 := ifF g206 hy179
                      refine U.p (v := .pointer (some ⟨b158, 1, none⟩)) rfl rfl (.inr ⟨_, _, _, rfl, rfl, ((L 0 rfl rfl).trans (congrArg Value.bool g206))⟩) (S.fieldAddr rfl (L 10 rfl rfl) Try.underlying55 rfl ti4 rfl rfl) ?_
                      refine U.k rfl rfl (.inr ⟨_, _, _, rfl, rfl, ((L 1 rfl rfl).trans (congrArg Value.bool g206))⟩) (S.load rfl (L 0 rfl rfl) Try.underlying4 rfl ((ow177.own (k := 0) rfl).cell rfl)) nd ?_
                      refine U.p rfl rfl (.inr ⟨_, _, _, rfl, rfl, ((L 2 rfl rfl).trans (congrArg Value.bool g206))⟩) (S.not rfl (L 0 rfl rfl)) ?_
                      refine U.p rfl rfl (.inr ⟨_, _, _, rfl, rfl, ((L 3 rfl rfl).trans (congrArg Value.bool g206))⟩) (S.move rfl (L 0 rfl rfl)) ?_
                      refine U.joinX 17 (fun e H => ∃ (u210 u211 : Value), H = V175.H ∧ e = [(83, .bool ((!x149.bar) && x60.bar)), (82, u210), (81, u211)]) ?_ ?_
                      · rintro _ _ ⟨u210, u211, rfl, rfl⟩
                        refine U.p rfl rfl (.inr ⟨_, _, _, rfl, rfl, ((L 7 rfl rfl).trans (congrArg Value.bool g206))⟩) (S.move rfl (L 0 rfl rfl)) ?_
                        obtain ⟨y215, hy216, h217⟩ := bindS h209
                        refine U.joinX 24 (fun e H => ∃ (u218 u219 u220 u221 u222 : Value), ∃ V' : Vw, H = V'.H ∧ V175.le V' ∧ e = [(90, .bool y215), (89, u218), (88, u219), (87, u220), (86, u221), (85, u222)] ∧ Ow V' (.pt b158 (.cells 4 [.int .i64 x149.thread, .bool x149.bar, .int .i64 x149.at_, .int .i64 x149.val]) :: .pt b1 (.cells z2 [v4, v6, v9, v12, v15]) :: .os RT_Tref16_Event v4 p0.events :: .oss (RO.os (RT.int .i64)) v6 hs7 p0.seen :: .oss (RO.om RT.bool false) v9 hs10 p0.has :: .oss (RO.om (RT.int .i64) false) v12 hs13 p0.now :: .om (RT.int .i64) false v15 p0.last :: .pt b74 (.cells 4 [.int .i64 x60.thread, .bool x60.bar, .int .i64 x60.at_, .int .i64 x60.val]) :: Rs)) ?_ ?_
                        · rintro _ _ ⟨u218, u219, u220, u221, u222, V223, rfl, le224, rfl, ow225⟩
                          refine U.p rfl rfl (.inl rfl) (S.pickF rfl ((L 14 rfl rfl).trans (congrArg Value.bool g206)) (L 0 rfl rfl)) ?_
                          have e226 := Option.some.inj h217
                          subst e226
                          exact kk [(91, .bool y215), (90, .bool y215), (89, u218), (88, u219), (87, u220), (86, u221), (85, u222), (84, .bool ((!x149.bar) && x60.bar)), (83, .bool ((!x149.bar) && x60.bar)), (82, u210), (81, u211), (80, .bool (!x149.bar)), (79, .bool (!x149.bar)), (78, .bool x149.bar), (77, .pointer (some ⟨b158, 1, none⟩))] _ ⟨.bool y215, u218, u219, u220, u221, u222, .bool ((!x149.bar) && x60.bar), .bool ((!x149.bar) && x60.bar), u210, u211, .bool (!x149.bar), .bool (!x149.bar), .bool x149.bar, .pointer (some ⟨b158, 1, none⟩), V223, rfl, le224, rfl, ow225⟩
                        · intro kk
                          refine bcase (b := (!x149.bar) && x60.bar) (fun g227 => ?_) (fun g227 => ?_)
                          · have h228 := ifT g227 hy216
                            refine U.p rfl rfl (.inr ⟨_, _, _, rfl, rfl, ((L 0 rfl rfl).trans (congrArg Value.bool g227))⟩) (S.move rfl (L 31 rfl rfl)) ?_
                            refine U.p rfl rfl (.inr ⟨_, _, _, rfl, rfl, ((L 1 rfl rfl).trans (congrArg Value.bool g227))⟩) (S.move rfl (L 33 rfl rfl)) ?_
                            refine U.p rfl rfl (.inr ⟨_, _, _, rfl, rfl, ((L 2 rfl rfl).trans (congrArg Value.bool g227))⟩) (S.move rfl (L 29 rfl rfl)) ?_
                            have ow229 := ow177.pick 6 rfl
                            have ow230 := ow229.pick 6 rfl
                            have ow231 := ow230.pick 6 rfl
                            have ow232 := ow231.pick 6 rfl
                            have ow233 := ow232.pick 6 rfl
                            have ow234 := ow233.pick 6 rfl
                            obtain ⟨x235, hx236, h237⟩ := bindS h228
                            refine O.call (V := V175) rfl rfl (.inr ⟨_, _, _, rfl, rfl, ((L 3 rfl rfl).trans (congrArg Value.bool g227))⟩) rfl en33 (aC (L 2 rfl rfl) (aC (L 1 rfl rfl) (aC (L 0 rfl rfl) aN))) (wk_storage_Storage_passed V175 _ p0 p1 x126 b1 z2 v4 v6 hs7 v9 hs10 v12 hs13 v15 ow234 _ hx236) (fun _ _ _ _ => nd) (fun v238 V239 le240 hp241 => ?_)
                            obtain ⟨rfl, ow242⟩ := hp241
                            refine U.p rfl rfl (.inr ⟨_, _, _, rfl, rfl, ((L 4 rfl rfl).trans (congrArg Value.bool g227))⟩) (S.not rfl (L 0 rfl rfl)) ?_
                            refine U.p rfl rfl (.inr ⟨_, _, _, rfl, rfl, ((L 13 rfl rfl).trans (congrArg Value.bool g206))⟩) (S.pickT rfl ((L 5 rfl rfl).trans (congrArg Value.bool g227)) (L 0 rfl rfl)) ?_
                            have e243 := Option.some.inj h237
                            subst e243
                            have ow244 := ow242.pick 7 rfl
                            have ow245 := ow244.pick 6 rfl
                            have ow246 := ow245.pick 6 rfl
                            have ow247 := ow246.pick 6 rfl
                            have ow248 := ow247.pick 6 rfl
                            have ow249 := ow248.pick 6 rfl
                            have ow250 := ow249.pick 6 rfl
                            have ow251 := ow250.pick 7 rfl
                            exact kk [(90, .bool (!x235)), (89, .bool (!x235)), (88, .bool x235), (87, .int .i64 x126), (86, .int .i64 p1), (85, .pointer (some ⟨b1, 0, none⟩))] _ ⟨.bool (!x235), .bool x235, .int .i64 x126, .int .i64 p1, .pointer (some ⟨b1, 0, none⟩), V239, rfl, le240, rfl, ow251⟩
                          · have h252 := ifF g227 hy216
                            refine U.x rfl rfl rfl rfl ((L 0 rfl rfl).trans (congrArg Value.bool g227)) (by decide) ?_
                            refine U.x rfl rfl rfl rfl ((L 1 rfl rfl).trans (congrArg Value.bool g227)) (by decide) ?_
                            refine U.x rfl rfl rfl rfl ((L 2 rfl rfl).trans (congrArg Value.bool g227)) (by decide) ?_
                            refine U.x rfl rfl rfl rfl ((L 3 rfl rfl).trans (congrArg Value.bool g227)) (by decide) ?_
                            refine U.x rfl rfl rfl rfl ((L 4 rfl rfl).trans (congrArg Value.bool g227)) (by decide) ?_
                            refine U.p rfl rfl (.inr ⟨_, _, _, rfl, rfl, ((L 13 rfl rfl).trans (congrArg Value.bool g206))⟩) (S.pickF rfl ((L 5 rfl rfl).trans (congrArg Value.bool g227)) K) ?_
                            have e253 := Option.some.inj h252
                            subst e253
                            exact kk [(90, .bool false), (89, .tuple #[]), (88, .tuple #[]), (87, .tuple #[]), (86, .tuple #[]), (85, .tuple #[])] _ ⟨.tuple #[], .tuple #[], .tuple #[], .tuple #[], .tuple #[], V175, rfl, (.refl _), rfl, ow177⟩
                      · intro kk
                        refine bcase (b := !x149.bar) (fun g254 => ?_) (fun g254 => ?_)
                        · skip
                          have k255 : x149.bar = false := by simpa using g254
                          refine U.p (v := .pointer (some ⟨b74, 1, none⟩)) rfl rfl (.inr ⟨_, _, _, rfl, rfl, ((L 0 rfl rfl).trans (congrArg Value.bool g254))⟩) (S.fieldAddr rfl (L 29 rfl rfl) Try.underlying55 rfl ti4 rfl rfl) ?_
                          refine U.k rfl rfl (.inr ⟨_, _, _, rfl, rfl, ((L 1 rfl rfl).trans (congrArg Value.bool g254))⟩) (S.load rfl (L 0 rfl rfl) Try.underlying4 rfl ((ow177.own (k := 7) rfl).cell rfl)) nd ?_
                          refine U.p rfl rfl (.inr ⟨_, _, _, rfl, rfl, ((L 6 rfl rfl).trans (congrArg Value.bool g206))⟩) (S.pickT rfl ((L 2 rfl rfl).trans (congrArg Value.bool g254)) (L 0 rfl rfl)) ?_
                          exact kk [(83, .bool x60.bar), (82, .bool x60.bar), (81, .pointer (some ⟨b74, 1, none⟩))] _ ⟨.bool x60.bar, .pointer (some ⟨b74, 1, none⟩), rfl, (by rw [g254, Bool.true_and])⟩
                        · skip
                          have k256 : x149.bar = true := by simpa using g254
                          refine U.x rfl rfl rfl rfl ((L 0 rfl rfl).trans (congrArg Value.bool g254)) (by decide) ?_
                          refine U.x rfl rfl rfl rfl ((L 1 rfl rfl).trans (congrArg Value.bool g254)) (by decide) ?_
                          refine U.p rfl rfl (.inr ⟨_, _, _, rfl, rfl, ((L 6 rfl rfl).trans (congrArg Value.bool g206))⟩) (S.pickF rfl ((L 2 rfl rfl).trans (congrArg Value.bool g254)) K) ?_
                          exact kk [(83, .bool false), (82, .tuple #[]), (81, .tuple #[])] _ ⟨.tuple #[], .tuple #[], rfl, (by rw [g254, Bool.false_and])⟩
                · intro kk
                  refine bcase (b := x149.bar) (fun g257 => ?_) (fun g257 => ?_)
                  · have h258 := ifT g257 hy168
                    refine U.p rfl rfl (.inr ⟨_, _, _, rfl, rfl, ((L 0 rfl rfl).trans (congrArg Value.bool g257))⟩) (S.move rfl (L 16 rfl rfl)) ?_
                    refine U.p rfl rfl (.inr ⟨_, _, _, rfl, rfl, ((L 1 rfl rfl).trans (congrArg Value.bool g257))⟩) (S.move rfl (L 18 rfl rfl)) ?_
                    refine U.p rfl rfl (.inr ⟨_, _, _, rfl, rfl, ((L 2 rfl rfl).trans (congrArg Value.bool g257))⟩) (S.move rfl (L 14 rfl rfl)) ?_
                    have ow259 := ow166.pick 6 rfl
                    have ow260 := ow259.pick 6 rfl
                    have ow261 := ow260.pick 6 rfl
                    have ow262 := ow261.pick 6 rfl
                    have ow263 := ow262.pick 6 rfl
                    have ow264 := ow263.pick 6 rfl
                    obtain ⟨x265, hx266, h267⟩ := bindS h258
                    refine O.call (V := V163) rfl rfl (.inr ⟨_, _, _, rfl, rfl, ((L 3 rfl rfl).trans (congrArg Value.bool g257))⟩) rfl en20 (aC (L 2 rfl rfl) (aC (L 1 rfl rfl) (aC (L 0 rfl rfl) aN))) (wk_storage_Storage_Seen V163 _ p0 p1 x126 b1 z2 v4 v6 hs7 v9 hs10 v12 hs13 v15 ow264 _ hx266) (fun _ _ _ _ => nd) (fun v268 V269 le270 hp271 => ?_)
                    obtain ⟨rfl, ow272⟩ := hp271
                    refine U.p rfl rfl (.inr ⟨_, _, _, rfl, rfl, ((L 4 rfl rfl).trans (congrArg Value.bool g257))⟩) (S.not rfl (L 0 rfl rfl)) ?_
                    refine U.p rfl rfl (.inl rfl) (S.pickT rfl ((L 5 rfl rfl).trans (congrArg Value.bool g257)) (L 0 rfl rfl)) ?_
                    have e273 := Option.some.inj h267
                    subst e273
                    have ow274 := ow272.pick 7 rfl
                    have ow275 := ow274.pick 6 rfl
                    have ow276 := ow275.pick 6 rfl
                    have ow277 := ow276.pick 6 rfl
                    have ow278 := ow277.pick 6 rfl
                    have ow279 := ow278.pick 6 rfl
                    have ow280 := ow279.pick 6 rfl
                    have ow281 := ow280.pick 7 rfl
                    exact kk [(75, .bool (!x265)), (74, .bool (!x265)), (73, .bool x265), (72, .int .i64 x126), (71, .int .i64 p1), (70, .pointer (some ⟨b1, 0, none⟩))] _ ⟨.bool (!x265), .bool x265, .int .i64 x126, .int .i64 p1, .pointer (some ⟨b1, 0, none⟩), V269, rfl, le270, rfl, ow281⟩
                  · have h282 := ifF g257 hy168
                    refine U.x rfl rfl rfl rfl ((L 0 rfl rfl).trans (congrArg Value.bool g257)) (by decide) ?_
                    refine U.x rfl rfl rfl rfl ((L 1 rfl rfl).trans (congrArg Value.bool g257)) (by decide) ?_
                    refine U.x rfl rfl rfl rfl ((L 2 rfl rfl).trans (congrArg Value.bool g257)) (by decide) ?_
                    refine U.x rfl rfl rfl rfl ((L 3 rfl rfl).trans (congrArg Value.bool g257)) (by decide) ?_
                    refine U.x rfl rfl rfl rfl ((L 4 rfl rfl).trans (congrArg Value.bool g257)) (by decide) ?_
                    refine U.p rfl rfl (.inl rfl) (S.pickF rfl ((L 5 rfl rfl).trans (congrArg Value.bool g257)) K) ?_
                    have e283 := Option.some.inj h282
                    subst e283
                    exact kk [(75, .bool false), (74, .tuple #[]), (73, .tuple #[]), (72, .tuple #[]), (71, .tuple #[]), (70, .tuple #[])] _ ⟨.tuple #[], .tuple #[], .tuple #[], .tuple #[], .tuple #[], V163, rfl, (.refl _), rfl, ow166⟩
              · have h284 := ifF c124 h123
                refine WP.exit ?_
                refine sqE (sqE (blkE (sqN ?_)))
                have h285 := exitS h284 e121
                refine WP.usreg rfl ?_
                refine U.p rfl rfl (.inl rfl) (S.assign rfl K) ?_
                refine U.done (Nat.le_of_ble_eq_true rfl) ?_
                refine WP.ret ?_
                refine fin.slot (.inr rfl) rfl (L 0 rfl rfl) ⟨V116, rfl, ((((((le28.trans le54).trans le76).trans le80).trans le90).trans le108).trans le117), ?_⟩
                have ow286 := ow118.drop 6 rfl
                have e287 := Option.some.inj h285
                subst e287
                exact ⟨rfl, ow286⟩
          · intro kk
            refine bcase (b := !x60.bar) (fun g288 => ?_) (fun g288 => ?_)
            · have h289 := ifT g288 hy83
              have k290 : x60.bar = false := by simpa using g288
              refine U.p rfl rfl (.inr ⟨_, _, _, rfl, rfl, ((L 0 rfl rfl).trans (congrArg Value.bool g288))⟩) (S.move rfl (L 37 rfl rfl)) ?_
              refine U.p rfl rfl (.inr ⟨_, _, _, rfl, rfl, ((L 1 rfl rfl).trans (congrArg Value.bool g288))⟩) (S.move rfl (L 39 rfl rfl)) ?_
              refine U.p rfl rfl (.inr ⟨_, _, _, rfl, rfl, ((L 2 rfl rfl).trans (congrArg Value.bool g288))⟩) (S.move rfl (L 41 rfl rfl)) ?_
              have ow291 := ow81.pick 6 rfl
              have ow292 := ow291.pick 6 rfl
              have ow293 := ow292.pick 6 rfl
              have ow294 := ow293.pick 6 rfl
              have ow295 := ow294.pick 6 rfl
              have ow296 := ow295.pick 6 rfl
              obtain ⟨x297, hx298, h299⟩ := bindS h289
              refine O.call (V := V79) rfl rfl (.inr ⟨_, _, _, rfl, rfl, ((L 3 rfl rfl).trans (congrArg Value.bool g288))⟩) rfl en33 (aC (L 2 rfl rfl) (aC (L 1 rfl rfl) (aC (L 0 rfl rfl) aN))) (wk_storage_Storage_passed V79 _ p0 p1 p2 b1 z2 v4 v6 hs7 v9 hs10 v12 hs13 v15 ow296 _ hx298) (fun _ _ _ _ => nd) (fun v300 V301 le302 hp303 => ?_)
              obtain ⟨rfl, ow304⟩ := hp303
              refine U.p rfl rfl (.inl rfl) (S.pickT rfl ((L 4 rfl rfl).trans (congrArg Value.bool g288)) (L 0 rfl rfl)) ?_
              have e305 := Option.some.inj h299
              subst e305
              have ow306 := ow304.pick 5 rfl
              have ow307 := ow306.pick 5 rfl
              have ow308 := ow307.pick 5 rfl
              have ow309 := ow308.pick 5 rfl
              have ow310 := ow309.pick 5 rfl
              have ow311 := ow310.pick 5 rfl
              have ow312 := ow311.pick 6 rfl
              exact kk [(50, .bool x297), (49, .bool x297), (48, .int .i64 p2), (47, .int .i64 p1), (46, .pointer (some ⟨b1, 0, none⟩))] _ ⟨.bool x297, .int .i64 p2, .int .i64 p1, .pointer (some ⟨b1, 0, none⟩), V301, rfl, le302, rfl, ow312⟩
            · have h313 := ifF g288 hy83
              have k314 : x60.bar = true := by simpa using g288
              refine U.x rfl rfl rfl rfl ((L 0 rfl rfl).trans (congrArg Value.bool g288)) (by decide) ?_
              refine U.x rfl rfl rfl rfl ((L 1 rfl rfl).trans (congrArg Value.bool g288)) (by decide) ?_
              refine U.x rfl rfl rfl rfl ((L 2 rfl rfl).trans (congrArg Value.bool g288)) (by decide) ?_
              refine U.x rfl rfl rfl rfl ((L 3 rfl rfl).trans (congrArg Value.bool g288)) (by decide) ?_
              refine U.p rfl rfl (.inl rfl) (S.pickF rfl ((L 4 rfl rfl).trans (congrArg Value.bool g288)) K) ?_
              have e315 := Option.some.inj h313
              subst e315
              exact kk [(50, .bool false), (49, .tuple #[]), (48, .tuple #[]), (47, .tuple #[]), (46, .tuple #[])] _ ⟨.tuple #[], .tuple #[], .tuple #[], .tuple #[], V79, rfl, (.refl _), rfl, ow81⟩
      · intro kk
        refine bcase (b := ((!x23) || (decide (p2 < 1))) || (decide ((p0.events.length : Int) < p2))) (fun g316 => ?_) (fun g316 => ?_)
        · have h317 := ifT g316 hy47
          refine U.x rfl rfl rfl rfl ((L 0 rfl rfl).trans (congrArg Value.bool g316)) (by decide) ?_
          refine U.x rfl rfl rfl rfl ((L 1 rfl rfl).trans (congrArg Value.bool g316)) (by decide) ?_
          refine U.x rfl rfl rfl rfl ((L 2 rfl rfl).trans (congrArg Value.bool g316)) (by decide) ?_
          refine U.x rfl rfl rfl rfl ((L 3 rfl rfl).trans (congrArg Value.bool g316)) (by decide) ?_
          refine U.p rfl rfl (.inl rfl) (S.pickT rfl ((L 4 rfl rfl).trans (congrArg Value.bool g316)) K) ?_
          have e318 := Option.some.inj h317
          subst e318
          exact kk [(33, .bool true), (32, .tuple #[]), (31, .tuple #[]), (30, .tuple #[]), (29, .tuple #[])] _ ⟨.tuple #[], .tuple #[], .tuple #[], .tuple #[], V27, rfl, (.refl _), rfl, ow30⟩
        · have h319 := ifF g316 hy47
          refine U.p rfl rfl (.inr ⟨_, _, _, rfl, rfl, ((L 0 rfl rfl).trans (congrArg Value.bool g316))⟩) (S.move rfl (L 19 rfl rfl)) ?_
          refine U.p rfl rfl (.inr ⟨_, _, _, rfl, rfl, ((L 1 rfl rfl).trans (congrArg Value.bool g316))⟩) (S.move rfl (L 21 rfl rfl)) ?_
          refine U.p rfl rfl (.inr ⟨_, _, _, rfl, rfl, ((L 2 rfl rfl).trans (congrArg Value.bool g316))⟩) (S.move rfl (L 23 rfl rfl)) ?_
          have ow320 := ow30.pick 5 rfl
          have ow321 := ow320.pick 5 rfl
          have ow322 := ow321.pick 5 rfl
          have ow323 := ow322.pick 5 rfl
          have ow324 := ow323.pick 5 rfl
          have ow325 := ow324.pick 5 rfl
          obtain ⟨x326, hx327, h328⟩ := bindS h319
          refine O.call (V := V27) rfl rfl (.inr ⟨_, _, _, rfl, rfl, ((L 3 rfl rfl).trans (congrArg Value.bool g316))⟩) rfl en20 (aC (L 2 rfl rfl) (aC (L 1 rfl rfl) (aC (L 0 rfl rfl) aN))) (wk_storage_Storage_Seen V27 _ p0 p1 p2 b1 z2 v4 v6 hs7 v9 hs10 v12 hs13 v15 ow325 _ hx327) (fun _ _ _ _ => nd) (fun v329 V330 le331 hp332 => ?_)
          obtain ⟨rfl, ow333⟩ := hp332
          refine U.p rfl rfl (.inl rfl) (S.pickF rfl ((L 4 rfl rfl).trans (congrArg Value.bool g316)) (L 0 rfl rfl)) ?_
          have e334 := Option.some.inj h328
          subst e334
          exact kk [(33, .bool x326), (32, .bool x326), (31, .int .i64 p2), (30, .int .i64 p1), (29, .pointer (some ⟨b1, 0, none⟩))] _ ⟨.bool x326, .int .i64 p2, .int .i64 p1, .pointer (some ⟨b1, 0, none⟩), V330, rfl, le331, rfl, ow333⟩
    · intro kk
      refine bcase (b := (!x23) || (decide (p2 < 1))) (fun g335 => ?_) (fun g335 => ?_)
      · skip
        refine U.x rfl rfl rfl rfl ((L 0 rfl rfl).trans (congrArg Value.bool g335)) (by decide) ?_
        refine U.x rfl rfl rfl rfl ((L 1 rfl rfl).trans (congrArg Value.bool g335)) (by decide) ?_
        refine U.x rfl rfl rfl rfl ((L 2 rfl rfl).trans (congrArg Value.bool g335)) (by decide) ?_
        refine U.x rfl rfl rfl rfl ((L 3 rfl rfl).trans (congrArg Value.bool g335)) (by decide) ?_
        refine U.x rfl rfl rfl rfl ((L 4 rfl rfl).trans (congrArg Value.bool g335)) (by decide) ?_
        refine U.x rfl rfl rfl rfl ((L 5 rfl rfl).trans (congrArg Value.bool g335)) (by decide) ?_
        refine U.x rfl rfl rfl rfl ((L 6 rfl rfl).trans (congrArg Value.bool g335)) (by decide) ?_
        refine U.p rfl rfl (.inl rfl) (S.pickT rfl ((L 7 rfl rfl).trans (congrArg Value.bool g335)) K) ?_
        exact kk [(27, .bool true), (26, .tuple #[]), (25, .tuple #[]), (24, .tuple #[]), (23, .tuple #[]), (22, .tuple #[]), (21, .tuple #[]), (20, .tuple #[])] _ ⟨.tuple #[], .tuple #[], .tuple #[], .tuple #[], .tuple #[], .tuple #[], .tuple #[], rfl, (by rw [g335, Bool.true_or])⟩
      · skip
        refine U.p rfl rfl (.inr ⟨_, _, _, rfl, rfl, ((L 0 rfl rfl).trans (congrArg Value.bool g335))⟩) (S.move rfl (L 12 rfl rfl)) ?_
        refine U.p rfl rfl (.inr ⟨_, _, _, rfl, rfl, ((L 1 rfl rfl).trans (congrArg Value.bool g335))⟩) (S.move rfl (L 11 rfl rfl)) ?_
        refine U.p rfl rfl (.inr ⟨_, _, _, rfl, rfl, ((L 2 rfl rfl).trans (congrArg Value.bool g335))⟩) (S.nilCheck rfl (L 0 rfl rfl)) ?_
        refine U.p (v := .pointer (some ⟨b1, 0, none⟩)) rfl rfl (.inr ⟨_, _, _, rfl, rfl, ((L 3 rfl rfl).trans (congrArg Value.bool g335))⟩) (S.fieldAddr rfl (L 0 rfl rfl) Try.underlying62 rfl ti53 rfl rfl) ?_
        refine U.k rfl rfl (.inr ⟨_, _, _, rfl, rfl, ((L 4 rfl rfl).trans (congrArg Value.bool g335))⟩) (S.load rfl (L 0 rfl rfl) Try.underlying53 rfl ((ow30.own (k := 0) rfl).cell rfl)) nd ?_
        refine U.p rfl rfl (.inr ⟨_, _, _, rfl, rfl, ((L 5 rfl rfl).trans (congrArg Value.bool g335))⟩) (ow30.oslen (k := 1) rfl rfl (L 0 rfl rfl) Try.underlying53) ?_
        refine U.p rfl rfl (.inr ⟨_, _, _, rfl, rfl, ((L 6 rfl rfl).trans (congrArg Value.bool g335))⟩) (S.gtr rfl (L 5 rfl rfl) (L 0 rfl rfl)) ?_
        refine U.p rfl rfl (.inl rfl) (S.pickF rfl ((L 7 rfl rfl).trans (congrArg Value.bool g335)) (L 0 rfl rfl)) ?_
        exact kk [(27, .bool (decide ((p0.events.length : Int) < p2))), (26, .bool (decide ((p0.events.length : Int) < p2))), (25, .int .i64 (p0.events.length : Int)), (24, v4), (23, .pointer (some ⟨b1, 0, none⟩)), (22, .pointer (some ⟨b1, 0, none⟩)), (21, .pointer (some ⟨b1, 0, none⟩)), (20, .int .i64 p2)] _ ⟨.bool (decide ((p0.events.length : Int) < p2)), .int .i64 (p0.events.length : Int), v4, .pointer (some ⟨b1, 0, none⟩), .pointer (some ⟨b1, 0, none⟩), .pointer (some ⟨b1, 0, none⟩), .int .i64 p2, rfl, (by rw [g335, Bool.false_or])⟩
  · intro kk
    refine bcase (b := !x23) (fun g336 => ?_) (fun g336 => ?_)
    · skip
      have k337 : x23 = false := by simpa using g336
      refine U.x rfl rfl rfl rfl ((L 0 rfl rfl).trans (congrArg Value.bool g336)) (by decide) ?_
      refine U.x rfl rfl rfl rfl ((L 1 rfl rfl).trans (congrArg Value.bool g336)) (by decide) ?_
      refine U.p rfl rfl (.inl rfl) (S.pickT rfl ((L 2 rfl rfl).trans (congrArg Value.bool g336)) K) ?_
      exact kk [(18, .bool true), (17, .tuple #[]), (16, .tuple #[])] _ ⟨.tuple #[], .tuple #[], rfl, (by rw [g336, Bool.true_or])⟩
    · skip
      have k338 : x23 = true := by simpa using g336
      refine U.p rfl rfl (.inr ⟨_, _, _, rfl, rfl, ((L 0 rfl rfl).trans (congrArg Value.bool g336))⟩) (S.move rfl (L 8 rfl rfl)) ?_
      refine U.p rfl rfl (.inr ⟨_, _, _, rfl, rfl, ((L 1 rfl rfl).trans (congrArg Value.bool g336))⟩) (S.lss rfl (L 0 rfl rfl) K) ?_
      refine U.p rfl rfl (.inl rfl) (S.pickF rfl ((L 2 rfl rfl).trans (congrArg Value.bool g336)) (L 0 rfl rfl)) ?_
      exact kk [(18, .bool (decide (p2 < 1))), (17, .bool (decide (p2 < 1))), (16, .int .i64 p2)] _ ⟨.bool (decide (p2 < 1)), .int .i64 p2, rfl, (by rw [g336, Bool.false_or])⟩

set_option maxHeartbeats 4000000 in
set_option maxRecDepth 10000 in
theorem wk_law16_alive (V : Vw) (Rs : List At) (ow : Ow V (Rs)) (r : Bool) (h : law16_alive = some r) : ∃ v V', Cl Try.prog 0 9 #[] V.H v V'.H ∧ V.le V' ∧ (v = .bool r ∧ Ow V' (Rs)) := by
  refine Ct.of (Nat.zero_le _) Try.func9 rfl (Nat.le_of_ble_eq_true rfl) ?_
  unfold law16_alive at h
  refine WP.usreg rfl ?_
  refine U.p rfl rfl (.inl rfl) (S.assign rfl K) ?_
  refine U.done (Nat.le_of_ble_eq_true rfl) ?_
  refine WP.usreg rfl ?_
  obtain ⟨x1, hx2, h3⟩ := bindS h
  refine O.call (V := V) rfl rfl (.inl rfl) rfl en10 (aC K aN) (wk_storage_New V _ 2 ow _ hx2) (fun _ _ _ _ => nd) (fun v4 V5 le6 hp7 => ?_)
  obtain ⟨b9, z10, v12, v14, hs15, v17, hs18, v20, hs21, v23, rfl, ow8⟩ := hp7
  refine U.p rfl rfl (.inl rfl) (S.assign rfl (L 0 rfl rfl)) ?_
  refine U.done (Nat.le_of_ble_eq_true rfl) ?_
  refine WP.usreg rfl ?_
  refine U.p rfl rfl (.inl rfl) (S.move rfl (L 0 rfl rfl)) ?_
  have ow25 := ow8.pick 5 rfl
  have ow26 := ow25.pick 5 rfl
  have ow27 := ow26.pick 5 rfl
  have ow28 := ow27.pick 5 rfl
  have ow29 := ow28.pick 5 rfl
  have ow30 := ow29.pick 5 rfl
  obtain ⟨x31, hx32, h33⟩ := bindS h3
  refine O.call (V := V5) rfl rfl (.inl rfl) rfl en15 (aC (L 0 rfl rfl) (aC K (aC K (aC K aN)))) (wk_storage_Storage_Write V5 _ x1 0 8 1 b9 z10 v12 v14 hs15 v17 hs18 v20 hs21 v23 ow30 _ hx32) (fun _ _ _ _ => nd) (fun v34 V35 le36 hp37 => ?_)
  obtain ⟨v39, v41, hs42, v44, hs45, v47, hs48, v50, rfl, ow38⟩ := hp37
  refine U.p rfl rfl (.inl rfl) (S.move rfl (L 2 rfl rfl)) ?_
  have ow52 := ow38.pick 5 rfl
  have ow53 := ow52.pick 5 rfl
  have ow54 := ow53.pick 5 rfl
  have ow55 := ow54.pick 5 rfl
  have ow56 := ow55.pick 5 rfl
  have ow57 := ow56.pick 5 rfl
  obtain ⟨x58, hx59, h60⟩ := bindS h33
  refine O.call (V := V35) rfl rfl (.inl rfl) rfl en15 (aC (L 0 rfl rfl) (aC K (aC K (aC K aN)))) (wk_storage_Storage_Write V35 _ x31.2 1 8 2 b9 z10 v39 v41 hs42 v44 hs45 v47 hs48 v50 ow57 _ hx59) (fun _ _ _ _ => nd) (fun v61 V62 le63 hp64 => ?_)
  obtain ⟨v66, v68, hs69, v71, hs72, v74, hs75, v77, rfl, ow65⟩ := hp64
  refine U.p rfl rfl (.inl rfl) (S.assign rfl (L 2 rfl rfl)) ?_
  refine U.p rfl rfl (.inl rfl) (S.assign rfl (L 1 rfl rfl)) ?_
  refine U.done (Nat.le_of_ble_eq_true rfl) ?_
  refine WP.usreg rfl ?_
  refine U.p rfl rfl (.inl rfl) (S.move rfl (L 6 rfl rfl)) ?_
  have ow79 := ow65.pick 5 rfl
  have ow80 := ow79.pick 5 rfl
  have ow81 := ow80.pick 5 rfl
  have ow82 := ow81.pick 5 rfl
  have ow83 := ow82.pick 5 rfl
  have ow84 := ow83.pick 5 rfl
  obtain ⟨x85, hx86, h87⟩ := bindS h60
  refine O.call (V := V62) rfl rfl (.inl rfl) rfl en13 (aC (L 0 rfl rfl) (aC K (aC K aN))) (wk_storage_Storage_Read V62 _ x58.2 0 8 b9 z10 v66 v68 hs69 v71 hs72 v74 hs75 v77 ow84 _ hx86) (fun _ _ _ _ => nd) (fun v88 V89 le90 hp91 => ?_)
  obtain ⟨rfl, ow92⟩ := hp91
  refine U.p rfl rfl (.inl rfl) (S.move rfl (L 0 rfl rfl)) ?_
  refine U.p rfl rfl (.inl rfl) (S.extract rfl (L 0 rfl rfl) rfl (Nat.le_of_ble_eq_true rfl)) ?_
  refine U.p rfl rfl (.inl rfl) (S.extract rfl (L 1 rfl rfl) rfl (Nat.le_of_ble_eq_true rfl)) ?_
  refine U.p rfl rfl (.inl rfl) (S.assign rfl (L 1 rfl rfl)) ?_
  refine U.p rfl rfl (.inl rfl) (S.assign rfl (L 1 rfl rfl)) ?_
  refine U.done (Nat.le_of_ble_eq_true rfl) ?_
  refine WP.usreg rfl ?_
  refine U.p rfl rfl (.inl rfl) (S.move rfl (L 8 rfl rfl)) ?_
  refine U.p rfl rfl (.inl rfl) (S.eqlI rfl (L 0 rfl rfl) K) ?_
  refine U.p rfl rfl (.inl rfl) (S.move rfl (L 0 rfl rfl)) ?_
  refine U.joinX 6 (fun e H => ∃ (u93 u94 : Value), H = V89.H ∧ e = [(21, .bool ((decide (x31.1 = 1)) && (decide (x58.1 = 2)))), (20, u93), (19, u94)]) ?_ ?_
  · rintro _ _ ⟨u93, u94, rfl, rfl⟩
    refine U.p rfl rfl (.inl rfl) (S.move rfl (L 0 rfl rfl)) ?_
    refine U.joinX 10 (fun e H => ∃ (u98 u99 : Value), H = V89.H ∧ e = [(25, .bool (((decide (x31.1 = 1)) && (decide (x58.1 = 2))) && (decide (x85.1 = 1)))), (24, u98), (23, u99)]) ?_ ?_
    · rintro _ _ ⟨u98, u99, rfl, rfl⟩
      refine U.p rfl rfl (.inl rfl) (S.move rfl (L 0 rfl rfl)) ?_
      refine U.joinX 14 (fun e H => ∃ (u103 u104 : Value), H = V89.H ∧ e = [(29, .bool ((((decide (x31.1 = 1)) && (decide (x58.1 = 2))) && (decide (x85.1 = 1))) && (decide (x85.2 = 1)))), (28, u103), (27, u104)]) ?_ ?_
      · rintro _ _ ⟨u103, u104, rfl, rfl⟩
        refine U.p rfl rfl (.inl rfl) (S.move rfl (L 0 rfl rfl)) ?_
        obtain ⟨y108, hy109, h110⟩ := bindS h87
        refine U.joinX 19 (fun e H => ∃ (u111 u112 u113 : Value), ∃ V' : Vw, H = V'.H ∧ V89.le V' ∧ e = [(34, .bool y108), (33, u111), (32, u112), (31, u113)] ∧ Ow V' (.pt b9 (.cells z10 [v66, v68, v71, v74, v77]) :: .os RT_Tref16_Event v66 x58.2.events :: .oss (RO.os (RT.int .i64)) v68 hs69 x58.2.seen :: .oss (RO.om RT.bool false) v71 hs72 x58.2.has :: .oss (RO.om (RT.int .i64) false) v74 hs75 x58.2.now :: .om (RT.int .i64) false v77 x58.2.last :: Rs)) ?_ ?_
        · rintro _ _ ⟨u111, u112, u113, V114, rfl, le115, rfl, ow116⟩
          refine U.p rfl rfl (.inl rfl) (S.move rfl (L 0 rfl rfl)) ?_
          obtain ⟨y117, hy118, h119⟩ := bindS h110
          refine U.joinX 23 (fun e H => ∃ (u120 u121 : Value), ∃ V' : Vw, H = V'.H ∧ V114.le V' ∧ e = [(38, .bool y117), (37, u120), (36, u121)] ∧ Ow V' (.pt b9 (.cells z10 [v66, v68, v71, v74, v77]) :: .os RT_Tref16_Event v66 x58.2.events :: .oss (RO.os (RT.int .i64)) v68 hs69 x58.2.seen :: .oss (RO.om RT.bool false) v71 hs72 x58.2.has :: .oss (RO.om (RT.int .i64) false) v74 hs75 x58.2.now :: .om (RT.int .i64) false v77 x58.2.last :: Rs)) ?_ ?_
          · rintro _ _ ⟨u120, u121, V122, rfl, le123, rfl, ow124⟩
            refine U.p rfl rfl (.inl rfl) (S.assign rfl (L 0 rfl rfl)) ?_
            refine U.done (Nat.le_of_ble_eq_true rfl) ?_
            refine WP.ret ?_
            refine fin.slot (.inr rfl) rfl (L 0 rfl rfl) ⟨V122, rfl, (((((le6.trans le36).trans le63).trans le90).trans le115).trans le123), ?_⟩
            have ow125 := ow124.drop 0 rfl
            have ow126 := ow125.drop 0 rfl
            have ow127 := ow126.drop 0 rfl
            have ow128 := ow127.drop 0 rfl
            have ow129 := ow128.drop 0 rfl
            have ow130 := ow129.drop 0 rfl
            have e131 := Option.some.inj h119
            subst e131
            exact ⟨rfl, ow130⟩
          · intro kk
            refine bcase (b := y108) (fun g132 => ?_) (fun g132 => ?_)
            · have h133 := ifT g132 hy118
              refine U.p rfl rfl (.inr ⟨_, _, _, rfl, rfl, ((L 0 rfl rfl).trans (congrArg Value.bool g132))⟩) (S.move rfl (L 33 rfl rfl)) ?_
              have ow134 := ow116.pick 5 rfl
              have ow135 := ow134.pick 5 rfl
              have ow136 := ow135.pick 5 rfl
              have ow137 := ow136.pick 5 rfl
              have ow138 := ow137.pick 5 rfl
              have ow139 := ow138.pick 5 rfl
              obtain ⟨x140, hx141, h142⟩ := bindS h133
              refine O.call (V := V114) rfl rfl (.inr ⟨_, _, _, rfl, rfl, ((L 1 rfl rfl).trans (congrArg Value.bool g132))⟩) rfl en25 (aC (L 0 rfl rfl) (aC K (aC K aN))) (wk_storage_Storage_May V114 _ x58.2 0 2 b9 z10 v66 v68 hs69 v71 hs72 v74 hs75 v77 ow139 _ hx141) (fun _ _ _ _ => nd) (fun v143 V144 le145 hp146 => ?_)
              obtain ⟨rfl, ow147⟩ := hp146
              refine U.p rfl rfl (.inl rfl) (S.pickT rfl ((L 2 rfl rfl).trans (congrArg Value.bool g132)) (L 0 rfl rfl)) ?_
              have e148 := Option.some.inj h142
              subst e148
              exact kk [(38, .bool x140), (37, .bool x140), (36, .pointer (some ⟨b9, 0, none⟩))] _ ⟨.bool x140, .pointer (some ⟨b9, 0, none⟩), V144, rfl, le145, rfl, ow147⟩
            · have h149 := ifF g132 hy118
              refine U.x rfl rfl rfl rfl ((L 0 rfl rfl).trans (congrArg Value.bool g132)) (by decide) ?_
              refine U.x rfl rfl rfl rfl ((L 1 rfl rfl).trans (congrArg Value.bool g132)) (by decide) ?_
              refine U.p rfl rfl (.inl rfl) (S.pickF rfl ((L 2 rfl rfl).trans (congrArg Value.bool g132)) K) ?_
              have e150 := Option.some.inj h149
              subst e150
              exact kk [(38, .bool false), (37, .tuple #[]), (36, .tuple #[])] _ ⟨.tuple #[], .tuple #[], V114, rfl, (.refl _), rfl, ow116⟩
        · intro kk
          refine bcase (b := (((decide (x31.1 = 1)) && (decide (x58.1 = 2))) && (decide (x85.1 = 1))) && (decide (x85.2 = 1))) (fun g151 => ?_) (fun g151 => ?_)
          · have h152 := ifT g151 hy109
            refine U.p rfl rfl (.inr ⟨_, _, _, rfl, rfl, ((L 0 rfl rfl).trans (congrArg Value.bool g151))⟩) (S.move rfl (L 28 rfl rfl)) ?_
            have ow153 := ow92.pick 5 rfl
            have ow154 := ow153.pick 5 rfl
            have ow155 := ow154.pick 5 rfl
            have ow156 := ow155.pick 5 rfl
            have ow157 := ow156.pick 5 rfl
            have ow158 := ow157.pick 5 rfl
            obtain ⟨x159, hx160, h161⟩ := bindS h152
            refine O.call (V := V89) rfl rfl (.inr ⟨_, _, _, rfl, rfl, ((L 1 rfl rfl).trans (congrArg Value.bool g151))⟩) rfl en25 (aC (L 0 rfl rfl) (aC K (aC K aN))) (wk_storage_Storage_May V89 _ x58.2 1 1 b9 z10 v66 v68 hs69 v71 hs72 v74 hs75 v77 ow158 _ hx160) (fun _ _ _ _ => nd) (fun v162 V163 le164 hp165 => ?_)
            obtain ⟨rfl, ow166⟩ := hp165
            refine U.p rfl rfl (.inr ⟨_, _, _, rfl, rfl, ((L 2 rfl rfl).trans (congrArg Value.bool g151))⟩) (S.not rfl (L 0 rfl rfl)) ?_
            refine U.p rfl rfl (.inl rfl) (S.pickT rfl ((L 3 rfl rfl).trans (congrArg Value.bool g151)) (L 0 rfl rfl)) ?_
            have e167 := Option.some.inj h161
            subst e167
            exact kk [(34, .bool (!x159)), (33, .bool (!x159)), (32, .bool x159), (31, .pointer (some ⟨b9, 0, none⟩))] _ ⟨.bool (!x159), .bool x159, .pointer (some ⟨b9, 0, none⟩), V163, rfl, le164, rfl, ow166⟩
          · have h168 := ifF g151 hy109
            refine U.x rfl rfl rfl rfl ((L 0 rfl rfl).trans (congrArg Value.bool g151)) (by decide) ?_
            refine U.x rfl rfl rfl rfl ((L 1 rfl rfl).trans (congrArg Value.bool g151)) (by decide) ?_
            refine U.x rfl rfl rfl rfl ((L 2 rfl rfl).trans (congrArg Value.bool g151)) (by decide) ?_
            refine U.p rfl rfl (.inl rfl) (S.pickF rfl ((L 3 rfl rfl).trans (congrArg Value.bool g151)) K) ?_
            have e169 := Option.some.inj h168
            subst e169
            exact kk [(34, .bool false), (33, .tuple #[]), (32, .tuple #[]), (31, .tuple #[])] _ ⟨.tuple #[], .tuple #[], .tuple #[], V89, rfl, (.refl _), rfl, ow92⟩
      · intro kk
        refine bcase (b := ((decide (x31.1 = 1)) && (decide (x58.1 = 2))) && (decide (x85.1 = 1))) (fun g170 => ?_) (fun g170 => ?_)
        · skip
          refine U.p rfl rfl (.inr ⟨_, _, _, rfl, rfl, ((L 0 rfl rfl).trans (congrArg Value.bool g170))⟩) (S.move rfl (L 11 rfl rfl)) ?_
          refine U.p rfl rfl (.inr ⟨_, _, _, rfl, rfl, ((L 1 rfl rfl).trans (congrArg Value.bool g170))⟩) (S.eqlI rfl (L 0 rfl rfl) K) ?_
          refine U.p rfl rfl (.inl rfl) (S.pickT rfl ((L 2 rfl rfl).trans (congrArg Value.bool g170)) (L 0 rfl rfl)) ?_
          exact kk [(29, .bool (decide (x85.2 = 1))), (28, .bool (decide (x85.2 = 1))), (27, .int .i64 x85.2)] _ ⟨.bool (decide (x85.2 = 1)), .int .i64 x85.2, rfl, (by rw [g170, Bool.true_and])⟩
        · skip
          refine U.x rfl rfl rfl rfl ((L 0 rfl rfl).trans (congrArg Value.bool g170)) (by decide) ?_
          refine U.x rfl rfl rfl rfl ((L 1 rfl rfl).trans (congrArg Value.bool g170)) (by decide) ?_
          refine U.p rfl rfl (.inl rfl) (S.pickF rfl ((L 2 rfl rfl).trans (congrArg Value.bool g170)) K) ?_
          exact kk [(29, .bool false), (28, .tuple #[]), (27, .tuple #[])] _ ⟨.tuple #[], .tuple #[], rfl, (by rw [g170, Bool.false_and])⟩
    · intro kk
      refine bcase (b := (decide (x31.1 = 1)) && (decide (x58.1 = 2))) (fun g171 => ?_) (fun g171 => ?_)
      · skip
        refine U.p rfl rfl (.inr ⟨_, _, _, rfl, rfl, ((L 0 rfl rfl).trans (congrArg Value.bool g171))⟩) (S.move rfl (L 8 rfl rfl)) ?_
        refine U.p rfl rfl (.inr ⟨_, _, _, rfl, rfl, ((L 1 rfl rfl).trans (congrArg Value.bool g171))⟩) (S.eqlI rfl (L 0 rfl rfl) K) ?_
        refine U.p rfl rfl (.inl rfl) (S.pickT rfl ((L 2 rfl rfl).trans (congrArg Value.bool g171)) (L 0 rfl rfl)) ?_
        exact kk [(25, .bool (decide (x85.1 = 1))), (24, .bool (decide (x85.1 = 1))), (23, .int .i64 x85.1)] _ ⟨.bool (decide (x85.1 = 1)), .int .i64 x85.1, rfl, (by rw [g171, Bool.true_and])⟩
      · skip
        refine U.x rfl rfl rfl rfl ((L 0 rfl rfl).trans (congrArg Value.bool g171)) (by decide) ?_
        refine U.x rfl rfl rfl rfl ((L 1 rfl rfl).trans (congrArg Value.bool g171)) (by decide) ?_
        refine U.p rfl rfl (.inl rfl) (S.pickF rfl ((L 2 rfl rfl).trans (congrArg Value.bool g171)) K) ?_
        exact kk [(25, .bool false), (24, .tuple #[]), (23, .tuple #[])] _ ⟨.tuple #[], .tuple #[], rfl, (by rw [g171, Bool.false_and])⟩
  · intro kk
    refine bcase (b := decide (x31.1 = 1)) (fun g172 => ?_) (fun g172 => ?_)
    · skip
      refine U.p rfl rfl (.inr ⟨_, _, _, rfl, rfl, ((L 0 rfl rfl).trans (congrArg Value.bool g172))⟩) (S.move rfl (L 10 rfl rfl)) ?_
      refine U.p rfl rfl (.inr ⟨_, _, _, rfl, rfl, ((L 1 rfl rfl).trans (congrArg Value.bool g172))⟩) (S.eqlI rfl (L 0 rfl rfl) K) ?_
      refine U.p rfl rfl (.inl rfl) (S.pickT rfl ((L 2 rfl rfl).trans (congrArg Value.bool g172)) (L 0 rfl rfl)) ?_
      exact kk [(21, .bool (decide (x58.1 = 2))), (20, .bool (decide (x58.1 = 2))), (19, .int .i64 x58.1)] _ ⟨.bool (decide (x58.1 = 2)), .int .i64 x58.1, rfl, (by rw [g172, Bool.true_and])⟩
    · skip
      refine U.x rfl rfl rfl rfl ((L 0 rfl rfl).trans (congrArg Value.bool g172)) (by decide) ?_
      refine U.x rfl rfl rfl rfl ((L 1 rfl rfl).trans (congrArg Value.bool g172)) (by decide) ?_
      refine U.p rfl rfl (.inl rfl) (S.pickF rfl ((L 2 rfl rfl).trans (congrArg Value.bool g172)) K) ?_
      exact kk [(21, .bool false), (20, .tuple #[]), (19, .tuple #[])] _ ⟨.tuple #[], .tuple #[], rfl, (by rw [g172, Bool.false_and])⟩

set_option maxHeartbeats 4000000 in
set_option maxRecDepth 10000 in
theorem wk_storage_Storage_Threads (V : Vw) (Rs : List At) (p0 : Tstorage_Storage) (b1 : Nat) (z2 : Nat) (v4 : Value) (v6 : Value) (hs7 : List Value) (v9 : Value) (hs10 : List Value) (v12 : Value) (hs13 : List Value) (v15 : Value) (ow : Ow V (.pt b1 (.cells z2 [v4, v6, v9, v12, v15]) :: .os RT_Tref16_Event v4 p0.events :: .oss (RO.os (RT.int .i64)) v6 hs7 p0.seen :: .oss (RO.om RT.bool false) v9 hs10 p0.has :: .oss (RO.om (RT.int .i64) false) v12 hs13 p0.now :: .om (RT.int .i64) false v15 p0.last :: Rs)) (r : Int) (h : storage_Storage_Threads p0 = some r) : ∃ v V', Cl Try.prog 0 11 #[.pointer (some ⟨b1, 0, none⟩)] V.H v V'.H ∧ V.le V' ∧ (v = .int .i64 r ∧ Ow V' (.pt b1 (.cells z2 [v4, v6, v9, v12, v15]) :: .os RT_Tref16_Event v4 p0.events :: .oss (RO.os (RT.int .i64)) v6 hs7 p0.seen :: .oss (RO.om RT.bool false) v9 hs10 p0.has :: .oss (RO.om (RT.int .i64) false) v12 hs13 p0.now :: .om (RT.int .i64) false v15 p0.last :: Rs)) := by
  refine Ct.of (Nat.zero_le _) Try.func11 rfl (Nat.le_of_ble_eq_true rfl) ?_
  unfold storage_Storage_Threads at h
  refine WP.usreg rfl ?_
  refine U.p rfl rfl (.inl rfl) (S.assign rfl K) ?_
  refine U.done (Nat.le_of_ble_eq_true rfl) ?_
  refine WP.seq ?_
  refine WP.usreg rfl ?_
  refine U.p rfl rfl (.inl rfl) (S.move rfl (L 1 rfl rfl)) ?_
  refine U.p rfl rfl (.inl rfl) (S.nilP rfl (.inl rfl) (L 0 rfl rfl) K Try.underlying24) ?_
  refine U.done (Nat.le_of_ble_eq_true rfl) ?_
  refine WP.cond false (L 0 rfl rfl) rfl (fun h => by cases h) (fun _ => ?_)
  refine WP.skip ?_
  refine sqN ?_
  refine WP.usreg rfl ?_
  refine U.p rfl rfl (.inl rfl) (S.move rfl (L 3 rfl rfl)) ?_
  refine U.p rfl rfl (.inl rfl) (S.nilCheck rfl (L 0 rfl rfl)) ?_
  refine U.p (v := .pointer (some ⟨b1, 1, none⟩)) rfl rfl (.inl rfl) (S.fieldAddr rfl (L 0 rfl rfl) Try.underlying62 rfl ti44 rfl rfl) ?_
  refine U.k rfl rfl (.inl rfl) (S.load rfl (L 0 rfl rfl) Try.underlying44 rfl ((ow.own (k := 0) rfl).cell rfl)) nd ?_
  refine U.p rfl rfl (.inl rfl) (ow.sslen (k := 2) rfl rfl (L 0 rfl rfl) Try.underlying44) ?_
  refine U.p rfl rfl (.inl rfl) (S.assign rfl (L 0 rfl rfl)) ?_
  refine U.done (Nat.le_of_ble_eq_true rfl) ?_
  refine WP.ret ?_
  refine fin.slot (.inr rfl) rfl (L 0 rfl rfl) ⟨V, rfl, (.refl _), ?_⟩
  have e17 := Option.some.inj h
  subst e17
  exact ⟨rfl, ow⟩

set_option maxHeartbeats 4000000 in
set_option maxRecDepth 10000 in
theorem wk_storage_Storage_Barrier (V : Vw) (Rs : List At) (p0 : Tstorage_Storage) (p1 : Int) (b1 : Nat) (z2 : Nat) (v4 : Value) (v6 : Value) (hs7 : List Value) (v9 : Value) (hs10 : List Value) (v12 : Value) (hs13 : List Value) (v15 : Value) (ow : Ow V (.pt b1 (.cells z2 [v4, v6, v9, v12, v15]) :: .os RT_Tref16_Event v4 p0.events :: .oss (RO.os (RT.int .i64)) v6 hs7 p0.seen :: .oss (RO.om RT.bool false) v9 hs10 p0.has :: .oss (RO.om (RT.int .i64) false) v12 hs13 p0.now :: .om (RT.int .i64) false v15 p0.last :: Rs)) (r : Int × Tstorage_Storage) (h : storage_Storage_Barrier p0 p1 = some r) : ∃ v V', Cl Try.prog 0 17 #[.pointer (some ⟨b1, 0, none⟩), .int .i64 p1] V.H v V'.H ∧ V.le V' ∧ (∃ (v17 : Value) (v19 : Value) (hs20 : List Value) (v22 : Value) (hs23 : List Value) (v25 : Value) (hs26 : List Value) (v28 : Value), v = .int .i64 r.1 ∧ Ow V' (.pt b1 (.cells z2 [v17, v19, v22, v25, v28]) :: .os RT_Tref16_Event v17 r.2.events :: .oss (RO.os (RT.int .i64)) v19 hs20 r.2.seen :: .oss (RO.om RT.bool false) v22 hs23 r.2.has :: .oss (RO.om (RT.int .i64) false) v25 hs26 r.2.now :: .om (RT.int .i64) false v28 r.2.last :: Rs)) := by
  refine Ct.of (Nat.zero_le _) Try.func17 rfl (Nat.le_of_ble_eq_true rfl) ?_
  unfold storage_Storage_Barrier at h
  refine WP.usreg rfl ?_
  refine U.p rfl rfl (.inl rfl) (S.assign rfl K) ?_
  refine U.done (Nat.le_of_ble_eq_true rfl) ?_
  refine WP.seq ?_
  refine WP.usreg rfl ?_
  refine U.p rfl rfl (.inl rfl) (S.move rfl (L 1 rfl rfl)) ?_
  refine U.p rfl rfl (.inl rfl) (S.move rfl (L 3 rfl rfl)) ?_
  have ow30 := ow.pick 5 rfl
  have ow31 := ow30.pick 5 rfl
  have ow32 := ow31.pick 5 rfl
  have ow33 := ow32.pick 5 rfl
  have ow34 := ow33.pick 5 rfl
  have ow35 := ow34.pick 5 rfl
  obtain ⟨x36, hx37, h38⟩ := bindS h
  refine O.call (V := V) rfl rfl (.inl rfl) rfl en29 (aC (L 1 rfl rfl) (aC (L 0 rfl rfl) aN)) (wk_storage_Storage_thread V _ p0 p1 b1 z2 v4 v6 hs7 v9 hs10 v12 hs13 v15 ow35 _ hx37) (fun _ _ _ _ => nd) (fun v39 V40 le41 hp42 => ?_)
  obtain ⟨rfl, ow43⟩ := hp42
  refine U.p rfl rfl (.inl rfl) (S.not rfl (L 0 rfl rfl)) ?_
  refine U.done (Nat.le_of_ble_eq_true rfl) ?_
  refine WP.cond _ (L 0 rfl rfl) rfl (fun c44 => ?_) (fun c44 => ?_)
  · have h45 := ifT c44 h38
    have k46 : x36 = false := by simpa using c44
    refine WP.usreg rfl ?_
    refine U.p rfl rfl (.inl rfl) (S.assign rfl K) ?_
    refine U.done (Nat.le_of_ble_eq_true rfl) ?_
    refine WP.ret ?_
    refine sqR ?_
    refine fin.slot (.inr rfl) rfl (L 0 rfl rfl) ⟨V40, rfl, le41, ?_⟩
    have e47 := Option.some.inj h45
    subst e47
    exact ⟨v4, v6, hs7, v9, hs10, v12, hs13, v15, rfl, ow43⟩
  · have h48 := ifF c44 h38
    have k49 : x36 = true := by simpa using c44
    refine WP.skip ?_
    refine sqN ?_
    refine WP.usreg rfl ?_
    refine U.p rfl rfl (.inl rfl) (S.move rfl (L 5 rfl rfl)) ?_
    refine U.p rfl rfl (.inl rfl) (S.move rfl (L 7 rfl rfl)) ?_
    refine U.p (v := .agg #[.int .i64 p1, .bool true, .int .i64 0, .int .i64 0]) rfl rfl (.inl rfl) (S.build (vs := [.int .i64 p1, .bool true]) rfl ti55 rfl pl55 (aC (L 0 rfl rfl) (aC K aN)) (allC (by simp [topV]) (allC (by simp [topV]) allN)) rfl) ?_
    have ow50 := ow43.pick 5 rfl
    have ow51 := ow50.pick 5 rfl
    have ow52 := ow51.pick 5 rfl
    have ow53 := ow52.pick 5 rfl
    have ow54 := ow53.pick 5 rfl
    have ow55 := ow54.pick 5 rfl
    obtain ⟨x56, hx57, h58⟩ := bindS h48
    refine O.call (V := V40) rfl rfl (.inl rfl) rfl en30 (aC (L 2 rfl rfl) (aC (L 0 rfl rfl) aN)) (wk_storage_Storage_accept V40 _ p0 (⟨p1, true, 0, 0⟩ : Tref16_Event) b1 z2 v4 v6 hs7 v9 hs10 v12 hs13 v15 ow55 _ hx57) (fun _ _ _ _ => nd) (fun v59 V60 le61 hp62 => ?_)
    obtain ⟨v64, v66, hs67, v69, hs70, v72, hs73, v75, rfl, ow63⟩ := hp62
    refine U.p rfl rfl (.inl rfl) (S.assign rfl (L 0 rfl rfl)) ?_
    refine U.done (Nat.le_of_ble_eq_true rfl) ?_
    refine WP.ret ?_
    refine fin.slot (.inr rfl) rfl (L 0 rfl rfl) ⟨V60, rfl, (le41.trans le61), ?_⟩
    have e77 := Option.some.inj h58
    subst e77
    exact ⟨v64, v66, hs67, v69, hs70, v72, hs73, v75, rfl, ow63⟩

set_option maxHeartbeats 4000000 in
set_option maxRecDepth 10000 in
theorem wk_storage_Storage_Go (V : Vw) (Rs : List At) (p0 : Tstorage_Storage) (p1 : Int) (p2 : Int) (b1 : Nat) (z2 : Nat) (v4 : Value) (v6 : Value) (hs7 : List Value) (v9 : Value) (hs10 : List Value) (v12 : Value) (hs13 : List Value) (v15 : Value) (ow : Ow V (.pt b1 (.cells z2 [v4, v6, v9, v12, v15]) :: .os RT_Tref16_Event v4 p0.events :: .oss (RO.os (RT.int .i64)) v6 hs7 p0.seen :: .oss (RO.om RT.bool false) v9 hs10 p0.has :: .oss (RO.om (RT.int .i64) false) v12 hs13 p0.now :: .om (RT.int .i64) false v15 p0.last :: Rs)) (r : Int × Tstorage_Storage) (h : storage_Storage_Go p0 p1 p2 = some r) : ∃ v V', Cl Try.prog 0 18 #[.pointer (some ⟨b1, 0, none⟩), .int .i64 p1, .int .i64 p2] V.H v V'.H ∧ V.le V' ∧ (∃ (v17 : Value) (v19 : Value) (hs20 : List Value) (v22 : Value) (hs23 : List Value) (v25 : Value) (hs26 : List Value) (v28 : Value), v = .int .i64 r.1 ∧ Ow V' (.pt b1 (.cells z2 [v17, v19, v22, v25, v28]) :: .os RT_Tref16_Event v17 r.2.events :: .oss (RO.os (RT.int .i64)) v19 hs20 r.2.seen :: .oss (RO.om RT.bool false) v22 hs23 r.2.has :: .oss (RO.om (RT.int .i64) false) v25 hs26 r.2.now :: .om (RT.int .i64) false v28 r.2.last :: Rs)) := by
  refine Ct.of (Nat.zero_le _) Try.func18 rfl (Nat.le_of_ble_eq_true rfl) ?_
  unfold storage_Storage_Go at h
  refine WP.usreg rfl ?_
  refine U.p rfl rfl (.inl rfl) (S.assign rfl K) ?_
  refine U.done (Nat.le_of_ble_eq_true rfl) ?_
  refine WP.seq ?_
  refine WP.blk ?_
  refine WP.usreg rfl ?_
  refine U.p rfl rfl (.inl rfl) (S.move rfl (L 1 rfl rfl)) ?_
  refine U.p rfl rfl (.inl rfl) (S.nilP rfl (.inl rfl) (L 0 rfl rfl) K Try.underlying24) ?_
  refine U.p rfl rfl (.inl rfl) (S.assign rfl (L 0 rfl rfl)) ?_
  refine U.done (Nat.le_of_ble_eq_true rfl) ?_
  refine WP.cond false (L 0 rfl rfl) rfl (fun h => by cases h) (fun _ => ?_)
  refine WP.usreg rfl ?_
  refine U.p rfl rfl (.inl rfl) (S.move rfl (L 4 rfl rfl)) ?_
  refine U.p rfl rfl (.inl rfl) (S.move rfl (L 6 rfl rfl)) ?_
  refine U.p rfl rfl (.inl rfl) (S.move rfl (L 8 rfl rfl)) ?_
  have ow30 := ow.pick 5 rfl
  have ow31 := ow30.pick 5 rfl
  have ow32 := ow31.pick 5 rfl
  have ow33 := ow32.pick 5 rfl
  have ow34 := ow33.pick 5 rfl
  have ow35 := ow34.pick 5 rfl
  obtain ⟨x36, hx37, h38⟩ := bindS h
  refine O.call (V := V) rfl rfl (.inl rfl) rfl en25 (aC (L 2 rfl rfl) (aC (L 1 rfl rfl) (aC (L 0 rfl rfl) aN))) (wk_storage_Storage_May V _ p0 p1 p2 b1 z2 v4 v6 hs7 v9 hs10 v12 hs13 v15 ow35 _ hx37) (fun _ _ _ _ => nd) (fun v39 V40 le41 hp42 => ?_)
  obtain ⟨rfl, ow43⟩ := hp42
  refine U.p rfl rfl (.inl rfl) (S.not rfl (L 0 rfl rfl)) ?_
  refine U.p rfl rfl (.inl rfl) (S.assign rfl (L 0 rfl rfl)) ?_
  refine U.done (Nat.le_of_ble_eq_true rfl) ?_
  refine WP.cond _ (L 0 rfl rfl) rfl (fun c44 => ?_) (fun c44 => ?_)
  · have h45 := ifT c44 h38
    have k46 : x36 = false := by simpa using c44
    refine WP.usreg rfl ?_
    refine U.p rfl rfl (.inl rfl) (S.assign rfl K) ?_
    refine U.done (Nat.le_of_ble_eq_true rfl) ?_
    refine WP.ret ?_
    refine blkR (sqR ?_)
    refine fin.slot (.inr rfl) rfl (L 0 rfl rfl) ⟨V40, rfl, le41, ?_⟩
    have e47 := Option.some.inj h45
    subst e47
    exact ⟨v4, v6, hs7, v9, hs10, v12, hs13, v15, rfl, ow43⟩
  · have h48 := ifF c44 h38
    have k49 : x36 = true := by simpa using c44
    refine WP.skip ?_
    refine blkN (sqN ?_)
    refine WP.usreg rfl ?_
    refine U.p rfl rfl (.inl rfl) (S.move rfl (L 10 rfl rfl)) ?_
    refine U.p rfl rfl (.inl rfl) (S.move rfl (L 12 rfl rfl)) ?_
    refine U.p rfl rfl (.inl rfl) (S.move rfl (L 14 rfl rfl)) ?_
    have ow50 := ow43.pick 5 rfl
    have ow51 := ow50.pick 5 rfl
    have ow52 := ow51.pick 5 rfl
    have ow53 := ow52.pick 5 rfl
    have ow54 := ow53.pick 5 rfl
    have ow55 := ow54.pick 5 rfl
    obtain ⟨x56, hx57, h58⟩ := bindS h48
    refine O.call (V := V40) rfl rfl (.inl rfl) rfl en31 (aC (L 2 rfl rfl) (aC (L 1 rfl rfl) (aC (L 0 rfl rfl) aN))) (wk_storage_Storage_come V40 _ p0 p1 p2 b1 z2 v4 v6 hs7 v9 hs10 v12 hs13 v15 ow55 _ hx57) (fun _ _ _ _ => nd) (fun v59 V60 le61 hp62 => ?_)
    obtain ⟨v64, v66, hs67, v69, hs70, v72, hs73, v75, ow63⟩ := hp62
    refine U.done (Nat.le_of_ble_eq_true rfl) ?_
    refine WP.usreg rfl ?_
    refine U.p rfl rfl (.inl rfl) (S.assign rfl K) ?_
    refine U.done (Nat.le_of_ble_eq_true rfl) ?_
    refine WP.ret ?_
    refine fin.slot (.inr rfl) rfl (L 0 rfl rfl) ⟨V60, rfl, (le41.trans le61), ?_⟩
    have e77 := Option.some.inj h58
    subst e77
    exact ⟨v64, v66, hs67, v69, hs70, v72, hs73, v75, rfl, ow63⟩

set_option maxHeartbeats 4000000 in
set_option maxRecDepth 10000 in
theorem wk_law16_made (V : Vw) (Rs : List At) (p0 : Int) (p1 : List Tlaw16_Call) (v1 : Value) (f2 : Fz RT_Tlaw16_Call V v1 p1) (ow : Ow V (Rs)) (r : Tstorage_Storage) (h : law16_made p0 p1 = some r) : ∃ v V', Cl Try.prog 0 12 #[.int .i64 p0, v1] V.H v V'.H ∧ V.le V' ∧ (∃ (b3 : Nat) (z4 : Nat) (v6 : Value) (v8 : Value) (hs9 : List Value) (v11 : Value) (hs12 : List Value) (v14 : Value) (hs15 : List Value) (v17 : Value), v = .pointer (some ⟨b3, 0, none⟩) ∧ Ow V' (.pt b3 (.cells z4 [v6, v8, v11, v14, v17]) :: .os RT_Tref16_Event v6 r.events :: .oss (RO.os (RT.int .i64)) v8 hs9 r.seen :: .oss (RO.om RT.bool false) v11 hs12 r.has :: .oss (RO.om (RT.int .i64) false) v14 hs15 r.now :: .om (RT.int .i64) false v17 r.last :: Rs)) := by
  refine Ct.of (Nat.zero_le _) Try.func12 rfl (Nat.le_of_ble_eq_true rfl) ?_
  unfold law16_made at h
  refine WP.usreg rfl ?_
  refine U.p rfl rfl (.inl rfl) (S.assign rfl K) ?_
  refine U.done (Nat.le_of_ble_eq_true rfl) ?_
  refine WP.usreg rfl ?_
  refine U.p rfl rfl (.inl rfl) (S.move rfl (L 1 rfl rfl)) ?_
  obtain ⟨x19, hx20, h21⟩ := bindS h
  refine O.call (V := V) rfl rfl (.inl rfl) rfl en10 (aC (L 0 rfl rfl) aN) (wk_storage_New V _ p0 ow _ hx20) (fun _ _ _ _ => nd) (fun v22 V23 le24 hp25 => ?_)
  obtain ⟨b27, z28, v30, v32, hs33, v35, hs36, v38, hs39, v41, rfl, ow26⟩ := hp25
  refine U.p rfl rfl (.inl rfl) (S.assign rfl (L 0 rfl rfl)) ?_
  refine U.done (Nat.le_of_ble_eq_true rfl) ?_
  refine WP.seq ?_
  refine WP.usreg rfl ?_
  refine U.p rfl rfl (.inl rfl) (S.move rfl (L 5 rfl rfl)) ?_
  refine U.p rfl rfl (.inl rfl) (f2.1.len rfl (L 0 rfl rfl) Try.underlying22) ?_
  refine U.p rfl rfl (.inl rfl) (S.move rfl K) ?_
  refine U.done (Nat.le_of_ble_eq_true rfl) ?_
  refine WP.blk ?_
  unfold law16_made_l1 at h21
  obtain ⟨n63, hn62⟩ := loopO_some.1 h21
  refine WP.loopI2 (fun n l V' => ∃ (v44 : Value) (xs45 : List Tref16_Event) (v47 : Value) (hs48 : List Value) (xs49 : List (List Int)) (v51 : Value) (hs52 : List Value) (xs53 : List (List (Int × Bool))) (v55 : Value) (hs56 : List Value) (xs57 : List (List (Int × Int))) (v59 : Value) (xs60 : List (Int × Int)) (x61 : Int), l = [(5, .pointer (some ⟨b27, 0, none⟩)), (10, v1), (11, .int .i64 (p1.length : Int)), (12, .int .i64 x61)] ∧ V23.le V' ∧ Ow V' (.pt b27 (.cells z28 [v44, v47, v51, v55, v59]) :: .os RT_Tref16_Event v44 xs45 :: .oss (RO.os (RT.int .i64)) v47 hs48 xs49 :: .oss (RO.om RT.bool false) v51 hs52 xs53 :: .oss (RO.om (RT.int .i64) false) v55 hs56 xs57 :: .om (RT.int .i64) false v59 xs60 :: Rs) ∧ itO (fun s => law16_made_l1b p1 s.1 s.2.1 s.2.2.1 s.2.2.2.1 s.2.2.2.2.1 s.2.2.2.2.2) n (xs45, xs49, xs53, xs57, xs60, x61) = some r) n63 _ ⟨v30, x19.events, v32, hs33, x19.seen, v35, hs36, x19.has, v38, hs39, x19.now, v41, x19.last, 0, rfl, .refl _, ow26, hn62⟩ (allCons (L 3 rfl rfl) (allCons (L 2 rfl rfl) (allCons (L 1 rfl rfl) (allCons (L 0 rfl rfl) allNil)))) ?_
  rintro _ _ V64 ⟨v44, xs45, v47, hs48, xs49, v51, hs52, xs53, v55, hs56, xs57, v59, xs60, x61, rfl, le65, ow66, h70⟩
  obtain ⟨m67, q68, rfl, h71, e69⟩ := itS h70
  replace h71 : law16_made_l1b p1 xs45 xs49 xs53 xs57 xs60 x61 = some q68 := h71
  unfold law16_made_l1b at h71
  refine WP.usreg rfl ?_
  refine U.p rfl rfl (.inl rfl) (S.lss rfl (L 3 rfl rfl) (L 2 rfl rfl)) ?_
  refine U.done (Nat.le_of_ble_eq_true rfl) ?_
  refine WP.seq ?_
  refine WP.cond _ (L 0 rfl rfl) rfl (fun c72 => ?_) (fun c72 => ?_)
  · have h73 := ifT c72 h71
    refine WP.skip ?_
    refine sqN ?_
    refine WP.seqI (fun l V' => ∃ (v75 : Value) (xs76 : List Tref16_Event) (v78 : Value) (hs79 : List Value) (xs80 : List (List Int)) (v82 : Value) (hs83 : List Value) (xs84 : List (List (Int × Bool))) (v86 : Value) (hs87 : List Value) (xs88 : List (List (Int × Int))) (v90 : Value) (xs91 : List (Int × Int)), l = [(5, .pointer (some ⟨b27, 0, none⟩)), (10, v1), (11, .int .i64 (p1.length : Int)), (12, .int .i64 x61)] ∧ V64.le V' ∧ Ow V' (.pt b27 (.cells z28 [v75, v78, v82, v86, v90]) :: .os RT_Tref16_Event v75 xs76 :: .oss (RO.os (RT.int .i64)) v78 hs79 xs80 :: .oss (RO.om RT.bool false) v82 hs83 xs84 :: .oss (RO.om (RT.int .i64) false) v86 hs87 xs88 :: .om (RT.int .i64) false v90 xs91 :: Rs) ∧ law16_made_k1 x61 xs76 xs80 xs84 xs88 xs91 = some q68) ?_ ?_
    · rintro _ V92 ⟨v75, xs76, v78, hs79, xs80, v82, hs83, xs84, v86, hs87, xs88, v90, xs91, rfl, le93, ow94, h95⟩
      unfold law16_made_k1 at h95
      refine WP.ureg rfl ?_
      refine U.p rfl rfl (.inl rfl) (S.add rfl (L 3 rfl rfl) K) ?_
      refine U.p rfl rfl (.inl rfl) (S.move rfl (L 0 rfl rfl)) ?_
      refine U.done (Nat.le_of_ble_eq_true rfl) ?_
      refine sqN ?_
      exact ⟨_, V92, rfl, ⟨m67, Nat.lt_succ_self _, v75, xs76, v78, hs79, xs80, v82, hs83, xs84, v86, hs87, xs88, v90, xs91, w64 (x61 + 1), rfl, (le65.trans le93), ow94, backS h95 e69⟩, (allCons (L 2 rfl rfl) (allCons (L 3 rfl rfl) (allCons (L 4 rfl rfl) (allCons (L 0 rfl rfl) allNil))))⟩
    · skip
      refine WP.blk ?_
      refine WP.usreg rfl ?_
      obtain ⟨x96, hx97, h98⟩ := bindS h73
      obtain ⟨b99, o100, c101, cs102, hv103, hf104, hr105, hc106⟩ := f2.at hx97
      obtain rfl : cs102 = [.int .i64 x96.kind, .int .i64 x96.t, .int .i64 x96.n, .int .i64 x96.at_, .int .i64 x96.val] := hr105
      refine U.p rfl rfl (.inl rfl) (S.index rfl ((L 2 rfl rfl).trans hv103) (L 4 rfl rfl) Try.underlying22 ti35 (ix_ge hx97) (ix_lt hx97)) ?_
      refine U.k rfl rfl (.inl rfl) (S.loadN (cs := [.int .i64 x96.kind, .int .i64 x96.t, .int .i64 x96.n, .int .i64 x96.at_, .int .i64 x96.val]) rfl (L 0 rfl rfl) Try.underlying35 rfl ti35 rfl (fun j v hj => (le24.trans le65).cell hf104 (hc106 j v hj))) nd ?_
      refine O.alloc ow66 rfl rfl (.inl rfl) rfl ti35 rfl rfl nd (fun b107 V108 le109 ow110 => ?_)
      refine O.store (k := 0) (cs := [.int .i64 x96.kind, .int .i64 x96.t, .int .i64 x96.n, .int .i64 x96.at_, .int .i64 x96.val]) (c' := [.int .i64 x96.kind, .int .i64 x96.t, .int .i64 x96.n, .int .i64 x96.at_, .int .i64 x96.val]) ow110 rfl rfl rfl (.inl rfl) rfl (L 0 rfl rfl) (L 1 rfl rfl) ti35 (by simp [topV]) rfl rfl (Nat.le_of_ble_eq_true rfl) rfl rfl nd (fun V112 le113 ow114 => ?_)
      refine U.done (Nat.le_of_ble_eq_true rfl) ?_
      refine WP.usreg rfl ?_
      refine U.p (v := .pointer (some ⟨b107, 0, none⟩)) rfl rfl (.inl rfl) (S.fieldAddr rfl (L 0 rfl rfl) Try.underlying35 rfl ti3 rfl rfl) ?_
      refine U.k rfl rfl (.inl rfl) (S.load rfl (L 0 rfl rfl) Try.underlying3 rfl ((ow114.own (k := 0) rfl).cell rfl)) nd ?_
      refine U.done (Nat.le_of_ble_eq_true rfl) ?_
      refine WP.blk ?_
      refine WP.usreg rfl ?_
      refine U.p rfl rfl (.inl rfl) (S.eqlI rfl (L 0 rfl rfl) K) ?_
      refine U.p rfl rfl (.inl rfl) (S.assign rfl (L 0 rfl rfl)) ?_
      refine U.done (Nat.le_of_ble_eq_true rfl) ?_
      refine WP.cond _ (L 0 rfl rfl) rfl (fun c115 => ?_) (fun c115 => ?_)
      · have h116 := ifT c115 h98
        refine WP.ureg rfl ?_
        refine U.p rfl rfl (.inl rfl) (S.move rfl (L 8 rfl rfl)) ?_
        refine U.p (v := .pointer (some ⟨b107, 1, none⟩)) rfl rfl (.inl rfl) (S.fieldAddr rfl (L 5 rfl rfl) Try.underlying35 rfl ti3 rfl rfl) ?_
        refine U.k rfl rfl (.inl rfl) (S.load rfl (L 0 rfl rfl) Try.underlying3 rfl ((ow114.own (k := 0) rfl).cell rfl)) nd ?_
        refine U.p (v := .pointer (some ⟨b107, 3, none⟩)) rfl rfl (.inl rfl) (S.fieldAddr rfl (L 7 rfl rfl) Try.underlying35 rfl ti3 rfl rfl) ?_
        refine U.k rfl rfl (.inl rfl) (S.load rfl (L 0 rfl rfl) Try.underlying3 rfl ((ow114.own (k := 0) rfl).cell rfl)) nd ?_
        refine U.p (v := .pointer (some ⟨b107, 4, none⟩)) rfl rfl (.inl rfl) (S.fieldAddr rfl (L 9 rfl rfl) Try.underlying35 rfl ti3 rfl rfl) ?_
        refine U.k rfl rfl (.inl rfl) (S.load rfl (L 0 rfl rfl) Try.underlying3 rfl ((ow114.own (k := 0) rfl).cell rfl)) nd ?_
        have ow117 := ow114.pick 6 rfl
        have ow118 := ow117.pick 6 rfl
        have ow119 := ow118.pick 6 rfl
        have ow120 := ow119.pick 6 rfl
        have ow121 := ow120.pick 6 rfl
        have ow122 := ow121.pick 6 rfl
        obtain ⟨x123, hx124, h125⟩ := bindS h116
        refine O.call (V := V112) rfl rfl (.inl rfl) rfl en15 (aC (L 6 rfl rfl) (aC (L 4 rfl rfl) (aC (L 2 rfl rfl) (aC (L 0 rfl rfl) aN)))) (wk_storage_Storage_Write V112 _ (⟨xs45, xs49, xs53, xs57, xs60⟩ : Tstorage_Storage) x96.t x96.at_ x96.val b27 z28 v44 v47 hs48 v51 hs52 v55 hs56 v59 ow122 _ hx124) (fun _ _ _ _ => nd) (fun v126 V127 le128 hp129 => ?_)
        obtain ⟨v131, v133, hs134, v136, hs137, v139, hs140, v142, rfl, ow130⟩ := hp129
        refine U.done (Nat.le_of_ble_eq_true rfl) ?_
        refine blkN (blkN (sqN ?_))
        have ow144 := ow130.drop 6 rfl
        exact ⟨_, V127, rfl, ⟨v131, x123.2.events, v133, hs134, x123.2.seen, v136, hs137, x123.2.has, v139, hs140, x123.2.now, v142, x123.2.last, rfl, ((le109.trans le113).trans le128), ow144, h125⟩, (allCons (L 16 rfl rfl) (allCons (L 17 rfl rfl) (allCons (L 18 rfl rfl) (allCons (L 19 rfl rfl) allNil))))⟩
      · have h145 := ifF c115 h98
        refine WP.usreg rfl ?_
        refine U.p rfl rfl (.inl rfl) (S.eqlI rfl (L 2 rfl rfl) K) ?_
        refine U.p rfl rfl (.inl rfl) (S.assign rfl (L 0 rfl rfl)) ?_
        refine U.done (Nat.le_of_ble_eq_true rfl) ?_
        refine WP.cond _ (L 0 rfl rfl) rfl (fun c146 => ?_) (fun c146 => ?_)
        · have h147 := ifT c146 h145
          refine WP.ureg rfl ?_
          refine U.p rfl rfl (.inl rfl) (S.move rfl (L 10 rfl rfl)) ?_
          refine U.p (v := .pointer (some ⟨b107, 1, none⟩)) rfl rfl (.inl rfl) (S.fieldAddr rfl (L 7 rfl rfl) Try.underlying35 rfl ti3 rfl rfl) ?_
          refine U.k rfl rfl (.inl rfl) (S.load rfl (L 0 rfl rfl) Try.underlying3 rfl ((ow114.own (k := 0) rfl).cell rfl)) nd ?_
          have ow148 := ow114.pick 6 rfl
          have ow149 := ow148.pick 6 rfl
          have ow150 := ow149.pick 6 rfl
          have ow151 := ow150.pick 6 rfl
          have ow152 := ow151.pick 6 rfl
          have ow153 := ow152.pick 6 rfl
          obtain ⟨x154, hx155, h156⟩ := bindS h147
          refine O.call (V := V112) rfl rfl (.inl rfl) rfl en17 (aC (L 2 rfl rfl) (aC (L 0 rfl rfl) aN)) (wk_storage_Storage_Barrier V112 _ (⟨xs45, xs49, xs53, xs57, xs60⟩ : Tstorage_Storage) x96.t b27 z28 v44 v47 hs48 v51 hs52 v55 hs56 v59 ow153 _ hx155) (fun _ _ _ _ => nd) (fun v157 V158 le159 hp160 => ?_)
          obtain ⟨v162, v164, hs165, v167, hs168, v170, hs171, v173, rfl, ow161⟩ := hp160
          refine U.done (Nat.le_of_ble_eq_true rfl) ?_
          refine blkN (blkN (sqN ?_))
          have ow175 := ow161.drop 6 rfl
          exact ⟨_, V158, rfl, ⟨v162, x154.2.events, v164, hs165, x154.2.seen, v167, hs168, x154.2.has, v170, hs171, x154.2.now, v173, x154.2.last, rfl, ((le109.trans le113).trans le159), ow175, h156⟩, (allCons (L 14 rfl rfl) (allCons (L 15 rfl rfl) (allCons (L 16 rfl rfl) (allCons (L 17 rfl rfl) allNil))))⟩
        · have h176 := ifF c146 h145
          refine WP.usreg rfl ?_
          refine U.p rfl rfl (.inl rfl) (S.eqlI rfl (L 4 rfl rfl) K) ?_
          refine U.p rfl rfl (.inl rfl) (S.assign rfl (L 0 rfl rfl)) ?_
          refine U.done (Nat.le_of_ble_eq_true rfl) ?_
          refine WP.cond _ (L 0 rfl rfl) rfl (fun c177 => ?_) (fun c177 => ?_)
          · have h178 := ifT c177 h176
            refine WP.ureg rfl ?_
            refine U.p rfl rfl (.inl rfl) (S.move rfl (L 12 rfl rfl)) ?_
            refine U.p (v := .pointer (some ⟨b107, 1, none⟩)) rfl rfl (.inl rfl) (S.fieldAddr rfl (L 9 rfl rfl) Try.underlying35 rfl ti3 rfl rfl) ?_
            refine U.k rfl rfl (.inl rfl) (S.load rfl (L 0 rfl rfl) Try.underlying3 rfl ((ow114.own (k := 0) rfl).cell rfl)) nd ?_
            refine U.p (v := .pointer (some ⟨b107, 2, none⟩)) rfl rfl (.inl rfl) (S.fieldAddr rfl (L 11 rfl rfl) Try.underlying35 rfl ti3 rfl rfl) ?_
            refine U.k rfl rfl (.inl rfl) (S.load rfl (L 0 rfl rfl) Try.underlying3 rfl ((ow114.own (k := 0) rfl).cell rfl)) nd ?_
            have ow179 := ow114.pick 6 rfl
            have ow180 := ow179.pick 6 rfl
            have ow181 := ow180.pick 6 rfl
            have ow182 := ow181.pick 6 rfl
            have ow183 := ow182.pick 6 rfl
            have ow184 := ow183.pick 6 rfl
            obtain ⟨x185, hx186, h187⟩ := bindS h178
            refine O.call (V := V112) rfl rfl (.inl rfl) rfl en18 (aC (L 4 rfl rfl) (aC (L 2 rfl rfl) (aC (L 0 rfl rfl) aN))) (wk_storage_Storage_Go V112 _ (⟨xs45, xs49, xs53, xs57, xs60⟩ : Tstorage_Storage) x96.t x96.n b27 z28 v44 v47 hs48 v51 hs52 v55 hs56 v59 ow184 _ hx186) (fun _ _ _ _ => nd) (fun v188 V189 le190 hp191 => ?_)
            obtain ⟨v193, v195, hs196, v198, hs199, v201, hs202, v204, rfl, ow192⟩ := hp191
            refine U.done (Nat.le_of_ble_eq_true rfl) ?_
            refine blkN (blkN (sqN ?_))
            have ow206 := ow192.drop 6 rfl
            exact ⟨_, V189, rfl, ⟨v193, x185.2.events, v195, hs196, x185.2.seen, v198, hs199, x185.2.has, v201, hs202, x185.2.now, v204, x185.2.last, rfl, ((le109.trans le113).trans le190), ow206, h187⟩, (allCons (L 18 rfl rfl) (allCons (L 19 rfl rfl) (allCons (L 20 rfl rfl) (allCons (L 21 rfl rfl) allNil))))⟩
          · have h207 := ifF c177 h176
            refine WP.skip ?_
            refine blkN (blkN (sqN ?_))
            have ow208 := ow114.drop 0 rfl
            exact ⟨_, V112, rfl, ⟨v44, xs45, v47, hs48, xs49, v51, hs52, xs53, v55, hs56, xs57, v59, xs60, rfl, (le109.trans le113), ow208, h207⟩, (allCons (L 12 rfl rfl) (allCons (L 13 rfl rfl) (allCons (L 14 rfl rfl) (allCons (L 15 rfl rfl) allNil))))⟩
  · have h209 := ifF c72 h71
    refine WP.exit ?_
    refine sqE (sqE (blkE (sqN ?_)))
    have h210 := exitS h209 e69
    refine WP.usreg rfl ?_
    refine U.p rfl rfl (.inl rfl) (S.move rfl (L 1 rfl rfl)) ?_
    refine U.p rfl rfl (.inl rfl) (S.assign rfl (L 0 rfl rfl)) ?_
    refine U.done (Nat.le_of_ble_eq_true rfl) ?_
    refine WP.ret ?_
    refine fin.slot (.inr rfl) rfl (L 0 rfl rfl) ⟨V64, rfl, (le24.trans le65), ?_⟩
    have e211 := Option.some.inj h210
    subst e211
    exact ⟨b27, z28, v44, v47, hs48, v51, hs52, v55, hs56, v59, rfl, ow66⟩

set_option maxHeartbeats 4000000 in
set_option maxRecDepth 10000 in
theorem wk_law16_StorageForward (V : Vw) (Rs : List At) (p0 : Int) (p1 : List Tlaw16_Call) (p2 : Int) (v1 : Value) (f2 : Fz RT_Tlaw16_Call V v1 p1) (ow : Ow V (Rs)) (r : Bool) (h : law16_StorageForward p0 p1 p2 = some r) : ∃ v V', Cl Try.prog 0 3 #[.int .i64 p0, v1, .int .i64 p2] V.H v V'.H ∧ V.le V' ∧ (v = .bool r ∧ Ow V' (Rs)) := by
  refine Ct.of (Nat.zero_le _) Try.func3 rfl (Nat.le_of_ble_eq_true rfl) ?_
  unfold law16_StorageForward at h
  refine WP.usreg rfl ?_
  refine U.p rfl rfl (.inl rfl) (S.assign rfl K) ?_
  refine U.done (Nat.le_of_ble_eq_true rfl) ?_
  refine WP.seq ?_
  refine WP.usreg rfl ?_
  obtain ⟨x3, hx4, h5⟩ := bindS h
  refine O.call (V := V) rfl rfl (.inl rfl) rfl en9 aN (wk_law16_alive V _ ow _ hx4) (fun _ _ _ _ => nd) (fun v6 V7 le8 hp9 => ?_)
  obtain ⟨rfl, ow10⟩ := hp9
  refine U.p rfl rfl (.inl rfl) (S.not rfl (L 0 rfl rfl)) ?_
  refine U.done (Nat.le_of_ble_eq_true rfl) ?_
  refine WP.cond _ (L 0 rfl rfl) rfl (fun c11 => ?_) (fun c11 => ?_)
  · have h12 := ifT c11 h5
    have k13 : x3 = false := by simpa using c11
    refine WP.usreg rfl ?_
    refine U.p rfl rfl (.inl rfl) (S.assign rfl K) ?_
    refine U.done (Nat.le_of_ble_eq_true rfl) ?_
    refine WP.ret ?_
    refine sqR ?_
    refine fin.slot (.inr rfl) rfl (L 0 rfl rfl) ⟨V7, rfl, le8, ?_⟩
    have e14 := Option.some.inj h12
    subst e14
    exact ⟨rfl, ow10⟩
  · have h15 := ifF c11 h5
    have k16 : x3 = true := by simpa using c11
    refine WP.skip ?_
    refine sqN ?_
    refine WP.seq ?_
    refine WP.usreg rfl ?_
    refine U.p rfl rfl (.inl rfl) (S.move rfl (L 4 rfl rfl)) ?_
    refine U.p rfl rfl (.inl rfl) (f2.1.len rfl (L 0 rfl rfl) Try.underlying22) ?_
    refine U.p rfl rfl (.inl rfl) (S.gtr rfl (L 0 rfl rfl) K) ?_
    refine U.done (Nat.le_of_ble_eq_true rfl) ?_
    refine WP.cond _ (L 0 rfl rfl) rfl (fun c17 => ?_) (fun c17 => ?_)
    · have h18 := ifT c17 h15
      refine WP.usreg rfl ?_
      refine U.p rfl rfl (.inl rfl) (S.assign rfl K) ?_
      refine U.done (Nat.le_of_ble_eq_true rfl) ?_
      refine WP.ret ?_
      refine sqR ?_
      refine fin.slot (.inr rfl) rfl (L 0 rfl rfl) ⟨V7, rfl, le8, ?_⟩
      have e19 := Option.some.inj h18
      subst e19
      exact ⟨rfl, ow10⟩
    · have h20 := ifF c17 h15
      refine WP.skip ?_
      refine sqN ?_
      refine WP.usreg rfl ?_
      refine U.p rfl rfl (.inl rfl) (S.move rfl (L 6 rfl rfl)) ?_
      obtain ⟨x21, hx22, h23⟩ := bindS h20
      refine O.call (V := V7) rfl rfl (.inl rfl) rfl en10 (aC (L 0 rfl rfl) aN) (wk_storage_New V7 _ p0 ow10 _ hx22) (fun _ _ _ _ => nd) (fun v24 V25 le26 hp27 => ?_)
      obtain ⟨b29, z30, v32, v34, hs35, v37, hs38, v40, hs41, v43, rfl, ow28⟩ := hp27
      refine U.p rfl rfl (.inl rfl) (S.assign rfl (L 0 rfl rfl)) ?_
      refine U.done (Nat.le_of_ble_eq_true rfl) ?_
      refine WP.usreg rfl ?_
      refine U.p rfl rfl (.inl rfl) (S.move rfl (L 0 rfl rfl)) ?_
      have ow45 := ow28.pick 5 rfl
      have ow46 := ow45.pick 5 rfl
      have ow47 := ow46.pick 5 rfl
      have ow48 := ow47.pick 5 rfl
      have ow49 := ow48.pick 5 rfl
      have ow50 := ow49.pick 5 rfl
      obtain ⟨x51, hx52, h53⟩ := bindS h23
      refine O.call (V := V25) rfl rfl (.inl rfl) rfl en11 (aC (L 0 rfl rfl) aN) (wk_storage_Storage_Threads V25 _ x21 b29 z30 v32 v34 hs35 v37 hs38 v40 hs41 v43 ow50 _ hx52) (fun _ _ _ _ => nd) (fun v54 V55 le56 hp57 => ?_)
      obtain ⟨rfl, ow58⟩ := hp57
      obtain ⟨xs59, hx60, h61⟩ := bindS h53
      refine O.make (R := (RT.int .i64)) ow58 rfl rfl (.inl rfl) rfl (L 0 rfl rfl) (L 0 rfl rfl) Try.underlying26 ti3 rfl rfl rfl (Nat.le_of_ble_eq_true rfl) rfl hx60 (fun _ => nd) (fun v62 V63 le64 ow65 => ?_)
      refine U.p rfl rfl (.inl rfl) (S.assign rfl (L 0 rfl rfl)) ?_
      refine U.done (Nat.le_of_ble_eq_true rfl) ?_
      refine WP.seq ?_
      refine WP.usreg rfl ?_
      refine U.p rfl rfl (.inl rfl) (S.move rfl (L 14 rfl rfl)) ?_
      refine U.p rfl rfl (.inl rfl) (f2.1.len rfl (L 0 rfl rfl) Try.underlying22) ?_
      refine U.p rfl rfl (.inl rfl) (S.move rfl K) ?_
      refine U.done (Nat.le_of_ble_eq_true rfl) ?_
      refine WP.blk ?_
      have ow69 := ow65.drop 1 rfl
      have ow70 := ow69.drop 1 rfl
      have ow71 := ow70.drop 1 rfl
      have ow72 := ow71.drop 1 rfl
      have ow73 := ow72.drop 1 rfl
      have ow74 := ow73.drop 1 rfl
      unfold law16_StorageForward_l1 at h61
      obtain ⟨n76, hn75⟩ := loopO_some.1 h61
      refine WP.loopI2 (fun n l V' => ∃ (xs67 : List Int) (x68 : Int), l = [(0, .int .i64 p0), (1, v1), (2, .int .i64 p2), (8, v62), (25, .int .i64 (p1.length : Int)), (26, .int .i64 x68)] ∧ V63.le V' ∧ Ow V' (.os (RT.int .i64) v62 xs67 :: Rs) ∧ itO (fun s => law16_StorageForward_l1b p0 p1 p2 s.1 s.2) n (xs67, x68) = some r) n76 _ ⟨xs59, 0, rfl, .refl _, ow74, hn75⟩ (allCons (L 16 rfl rfl) (allCons (L 17 rfl rfl) (allCons (L 18 rfl rfl) (allCons (L 3 rfl rfl) (allCons (L 1 rfl rfl) (allCons (L 0 rfl rfl) allNil)))))) ?_
      rintro _ _ V77 ⟨xs67, x68, rfl, le78, ow79, h83⟩
      obtain ⟨m80, q81, rfl, h84, e82⟩ := itS h83
      replace h84 : law16_StorageForward_l1b p0 p1 p2 xs67 x68 = some q81 := h84
      unfold law16_StorageForward_l1b at h84
      refine WP.usreg rfl ?_
      refine U.p rfl rfl (.inl rfl) (S.lss rfl (L 5 rfl rfl) (L 4 rfl rfl)) ?_
      refine U.done (Nat.le_of_ble_eq_true rfl) ?_
      refine WP.seq ?_
      refine WP.cond _ (L 0 rfl rfl) rfl (fun c85 => ?_) (fun c85 => ?_)
      · have h86 := ifT c85 h84
        refine WP.skip ?_
        refine sqN ?_
        refine WP.seq ?_
        refine WP.blk ?_
        refine WP.usreg rfl ?_
        refine U.p rfl rfl (.inl rfl) (S.move rfl (L 6 rfl rfl)) ?_
        refine U.p rfl rfl (.inl rfl) (S.assign rfl (L 0 rfl rfl)) ?_
        refine U.done (Nat.le_of_ble_eq_true rfl) ?_
        refine WP.usreg rfl ?_
        refine U.p rfl rfl (.inl rfl) (S.move rfl (L 3 rfl rfl)) ?_
        refine U.p rfl rfl (.inl rfl) (S.move rfl (L 5 rfl rfl)) ?_
        refine U.p rfl rfl (.inl rfl) (S.move rfl (L 2 rfl rfl)) ?_
        refine U.p rfl rfl (.inl rfl) (S.add rfl (L 0 rfl rfl) K) ?_
        have f87 := f2.up ((((le8.trans le26).trans le56).trans le64).trans le78)
        obtain ⟨xs88, hx89, h90⟩ := bindS h86
        refine O.subF f87 hx89 rfl rfl (.inl rfl) rfl (L 2 rfl rfl) Try.underlying22 ti35 ⟨.inl ⟨rfl, rfl⟩, .inr ⟨_, _, rfl, (L 0 rfl rfl)⟩, .inl rfl⟩ (fun v91 f93 => ?_)
        obtain ⟨x94, hx95, h96⟩ := bindS h90
        refine O.call (V := V77) rfl rfl (.inl rfl) rfl en12 (aC (L 4 rfl rfl) (aC (L 0 rfl rfl) aN)) (wk_law16_made V77 _ p0 xs88 v91 f93 ow79 _ hx95) (fun _ _ _ _ => nd) (fun v97 V98 le99 hp100 => ?_)
        obtain ⟨b102, z103, v105, v107, hs108, v110, hs111, v113, hs114, v116, rfl, ow101⟩ := hp100
        refine U.p rfl rfl (.inl rfl) (S.assign rfl (L 0 rfl rfl)) ?_
        refine U.done (Nat.le_of_ble_eq_true rfl) ?_
        refine WP.usreg rfl ?_
        refine U.p rfl rfl (.inl rfl) (S.move rfl (L 13 rfl rfl)) ?_
        refine U.p rfl rfl (.inl rfl) (ow101.oslen (k := 6) rfl rfl (L 0 rfl rfl) Try.underlying26) ?_
        refine U.p rfl rfl (.inl rfl) (S.move rfl K) ?_
        refine U.done (Nat.le_of_ble_eq_true rfl) ?_
        refine WP.blk ?_
        have ow120 := ow101.pick 5 rfl
        have ow121 := ow120.pick 5 rfl
        have ow122 := ow121.pick 5 rfl
        have ow123 := ow122.pick 5 rfl
        have ow124 := ow123.pick 5 rfl
        have ow125 := ow124.pick 5 rfl
        have ow126 := ow125.pick 6 rfl
        unfold law16_StorageForward_l2 at h96
        obtain ⟨n128, hn127⟩ := loopO_some.1 h96
        refine WP.loopI2 (fun n l V' => ∃ (xs118 : List Int) (x119 : Int), l = [(0, .int .i64 p0), (1, v1), (2, .int .i64 p2), (8, v62), (10, .pointer (some ⟨b102, 0, none⟩)), (25, .int .i64 (p1.length : Int)), (26, .int .i64 x68), (36, .int .i64 (xs67.length : Int)), (37, .int .i64 x119)] ∧ V98.le V' ∧ Ow V' (.os (RT.int .i64) v62 xs118 :: .pt b102 (.cells z103 [v105, v107, v110, v113, v116]) :: .os RT_Tref16_Event v105 x94.events :: .oss (RO.os (RT.int .i64)) v107 hs108 x94.seen :: .oss (RO.om RT.bool false) v110 hs111 x94.has :: .oss (RO.om (RT.int .i64) false) v113 hs114 x94.now :: .om (RT.int .i64) false v116 x94.last :: Rs) ∧ itO (fun s => law16_StorageForward_l2b p2 xs67 x68 x94 s.1 s.2) n (xs118, x119) = some q81) n128 _ ⟨xs67, 0, rfl, .refl _, ow126, hn127⟩ (allCons (L 13 rfl rfl) (allCons (L 14 rfl rfl) (allCons (L 15 rfl rfl) (allCons (L 16 rfl rfl) (allCons (L 3 rfl rfl) (allCons (L 17 rfl rfl) (allCons (L 18 rfl rfl) (allCons (L 1 rfl rfl) (allCons (L 0 rfl rfl) allNil))))))))) ?_
        rintro _ _ V129 ⟨xs118, x119, rfl, le130, ow131, h135⟩
        obtain ⟨m132, q133, rfl, h136, e134⟩ := itS h135
        replace h136 : law16_StorageForward_l2b p2 xs67 x68 x94 xs118 x119 = some q133 := h136
        unfold law16_StorageForward_l2b at h136
        refine WP.usreg rfl ?_
        refine U.p rfl rfl (.inl rfl) (S.lss rfl (L 8 rfl rfl) (L 7 rfl rfl)) ?_
        refine U.done (Nat.le_of_ble_eq_true rfl) ?_
        refine WP.seq ?_
        refine WP.cond _ (L 0 rfl rfl) rfl (fun c137 => ?_) (fun c137 => ?_)
        · have h138 := ifT c137 h136
          refine WP.skip ?_
          refine sqN ?_
          refine WP.seq ?_
          refine WP.blk ?_
          refine WP.usreg rfl ?_
          refine U.p rfl rfl (.inl rfl) (S.move rfl (L 9 rfl rfl)) ?_
          refine U.p rfl rfl (.inl rfl) (S.assign rfl (L 0 rfl rfl)) ?_
          refine U.done (Nat.le_of_ble_eq_true rfl) ?_
          refine WP.usreg rfl ?_
          refine U.p rfl rfl (.inl rfl) (S.move rfl (L 7 rfl rfl)) ?_
          refine U.p rfl rfl (.inl rfl) (S.move rfl (L 1 rfl rfl)) ?_
          refine U.p rfl rfl (.inl rfl) (S.move rfl (L 7 rfl rfl)) ?_
          have ow139 := ow131.pick 6 rfl
          have ow140 := ow139.pick 6 rfl
          have ow141 := ow140.pick 6 rfl
          have ow142 := ow141.pick 6 rfl
          have ow143 := ow142.pick 6 rfl
          have ow144 := ow143.pick 6 rfl
          obtain ⟨x145, hx146, h147⟩ := bindS h138
          refine O.call (V := V129) rfl rfl (.inl rfl) rfl en13 (aC (L 2 rfl rfl) (aC (L 1 rfl rfl) (aC (L 0 rfl rfl) aN))) (wk_storage_Storage_Read V129 _ x94 x119 p2 b102 z103 v105 v107 hs108 v110 hs111 v113 hs114 v116 ow144 _ hx146) (fun _ _ _ _ => nd) (fun v148 V149 le150 hp151 => ?_)
          obtain ⟨rfl, ow152⟩ := hp151
          refine U.p rfl rfl (.inl rfl) (S.move rfl (L 0 rfl rfl)) ?_
          refine U.p rfl rfl (.inl rfl) (S.extract rfl (L 0 rfl rfl) rfl (Nat.le_of_ble_eq_true rfl)) ?_
          refine U.p rfl rfl (.inl rfl) (S.extract rfl (L 1 rfl rfl) rfl (Nat.le_of_ble_eq_true rfl)) ?_
          refine U.p rfl rfl (.inl rfl) (S.assign rfl (L 1 rfl rfl)) ?_
          refine U.p rfl rfl (.inl rfl) (S.assign rfl (L 1 rfl rfl)) ?_
          refine U.done (Nat.le_of_ble_eq_true rfl) ?_
          refine WP.seq ?_
          refine WP.usreg rfl ?_
          refine U.p rfl rfl (.inl rfl) (S.move rfl (L 0 rfl rfl)) ?_
          refine U.p rfl rfl (.inl rfl) (S.move rfl (L 16 rfl rfl)) ?_
          refine U.p rfl rfl (.inl rfl) (S.move rfl (L 11 rfl rfl)) ?_
          obtain ⟨x153, hx154, h155⟩ := bindS h147
          obtain ⟨b156, o157, n158, c159, hv160⟩ := ow152.ospt (k := 6) rfl hx154
          obtain ⟨_, hv161, _⟩ := ow152.osel (k := 6) rfl hv160 hx154
          refine U.p rfl rfl (.inl rfl) (S.index rfl ((L 1 rfl rfl).trans hv161) (L 0 rfl rfl) Try.underlying26 ti3 (ix_ge hx154) (ix_lt hx154)) ?_
          obtain ⟨cs162, hv163, hlt164, hr165, hc166⟩ := ow152.osel (k := 6) rfl hv160 hx154
          obtain rfl : cs162 = [.int .i64 x153] := hr165
          refine U.k rfl rfl (.inl rfl) (S.load rfl (L 0 rfl rfl) Try.underlying3 rfl (hc166 0 _ rfl)) nd ?_
          refine U.p rfl rfl (.inl rfl) (S.lss rfl (L 4 rfl rfl) (L 0 rfl rfl)) ?_
          refine U.done (Nat.le_of_ble_eq_true rfl) ?_
          refine WP.cond _ (L 0 rfl rfl) rfl (fun c167 => ?_) (fun c167 => ?_)
          · have h168 := ifT c167 h155
            refine WP.usreg rfl ?_
            refine U.p rfl rfl (.inl rfl) (S.assign rfl K) ?_
            refine U.done (Nat.le_of_ble_eq_true rfl) ?_
            refine WP.ret ?_
            refine sqR (blkR (sqR (sqR (blkR (blkR (sqR (sqR (blkR (sqR ?_)))))))))
            have h169 := exitS h168 e134
            have h170 := exitS h169 e82
            refine fin.slot (.inr rfl) rfl (L 0 rfl rfl) ⟨V149, rfl, (((((((le8.trans le26).trans le56).trans le64).trans le78).trans le99).trans le130).trans le150), ?_⟩
            have ow171 := ow152.drop 0 rfl
            have ow172 := ow171.drop 0 rfl
            have ow173 := ow172.drop 0 rfl
            have ow174 := ow173.drop 0 rfl
            have ow175 := ow174.drop 0 rfl
            have ow176 := ow175.drop 0 rfl
            have ow177 := ow176.drop 0 rfl
            have e178 := Option.some.inj h170
            subst e178
            exact ⟨rfl, ow177⟩
          · have h179 := ifF c167 h155
            refine WP.skip ?_
            refine sqN ?_
            refine WP.ureg rfl ?_
            refine U.p rfl rfl (.inl rfl) (S.move rfl (L 21 rfl rfl)) ?_
            refine U.p rfl rfl (.inl rfl) (S.move rfl (L 16 rfl rfl)) ?_
            refine U.p rfl rfl (.inl rfl) (S.move rfl (L 8 rfl rfl)) ?_
            obtain ⟨x180, hx181, h182⟩ := bindS h179
            obtain ⟨_, hv183, _⟩ := ow152.osel (k := 6) rfl hv160 hx181
            refine U.p rfl rfl (.inl rfl) (S.index rfl ((L 2 rfl rfl).trans hv183) (L 1 rfl rfl) Try.underlying26 ti3 (ix_ge hx181) (ix_lt hx181)) ?_
            obtain ⟨cs184, hv185, hlt186, hr187, hc188⟩ := ow152.osel (k := 6) rfl hv160 hx181
            obtain rfl : cs184 = [.int .i64 x180] := hr187
            refine O.storeE (k := 6) (R := (RT.int .i64)) (j := 0) (y := x145.2) (cs := [.int .i64 x145.2]) ow152 rfl hv185 rfl rfl (.inl rfl) rfl (L 0 rfl rfl) (L 1 rfl rfl) ti3 hx181 (by simp [topV]) rfl rfl rfl (full rfl) (fun _ _ => nd) (fun V189 le190 ow191 => ?_)
            refine U.done (Nat.le_of_ble_eq_true rfl) ?_
            refine blkN (sqN ?_)
            refine WP.ureg rfl ?_
            refine U.p rfl rfl (.inl rfl) (S.add rfl (L 30 rfl rfl) K) ?_
            refine U.p rfl rfl (.inl rfl) (S.move rfl (L 0 rfl rfl)) ?_
            refine U.done (Nat.le_of_ble_eq_true rfl) ?_
            refine sqN ?_
            have ow192 := ow191.pick 5 rfl
            have ow193 := ow192.pick 5 rfl
            have ow194 := ow193.pick 5 rfl
            have ow195 := ow194.pick 5 rfl
            have ow196 := ow195.pick 5 rfl
            have ow197 := ow196.pick 5 rfl
            have ow198 := ow197.pick 6 rfl
            exact ⟨_, V189, rfl, ⟨m132, Nat.lt_succ_self _, xs118.set (Int.toNat x119) x145.2, w64 (x119 + 1), rfl, ((le130.trans le150).trans le190), ow198, backS h182 e134⟩, (allCons (L 24 rfl rfl) (allCons (L 25 rfl rfl) (allCons (L 26 rfl rfl) (allCons (L 27 rfl rfl) (allCons (L 28 rfl rfl) (allCons (L 29 rfl rfl) (allCons (L 30 rfl rfl) (allCons (L 31 rfl rfl) (allCons (L 0 rfl rfl) allNil)))))))))⟩
        · have h199 := ifF c137 h136
          refine WP.exit ?_
          refine sqE (sqE (blkE (blkN (sqN ?_))))
          have h200 := exitS h199 e134
          refine WP.ureg rfl ?_
          refine U.p rfl rfl (.inl rfl) (S.add rfl (L 7 rfl rfl) K) ?_
          refine U.p rfl rfl (.inl rfl) (S.move rfl (L 0 rfl rfl)) ?_
          refine U.done (Nat.le_of_ble_eq_true rfl) ?_
          refine sqN ?_
          have ow201 := ow131.drop 1 rfl
          have ow202 := ow201.drop 1 rfl
          have ow203 := ow202.drop 1 rfl
          have ow204 := ow203.drop 1 rfl
          have ow205 := ow204.drop 1 rfl
          have ow206 := ow205.drop 1 rfl
          exact ⟨_, V129, rfl, ⟨m80, Nat.lt_succ_self _, xs118, w64 (x68 + 1), rfl, ((le78.trans le99).trans le130), ow206, backS h200 e82⟩, (allCons (L 3 rfl rfl) (allCons (L 4 rfl rfl) (allCons (L 5 rfl rfl) (allCons (L 6 rfl rfl) (allCons (L 8 rfl rfl) (allCons (L 0 rfl rfl) allNil))))))⟩
      · have h207 := ifF c85 h84
        refine WP.exit ?_
        refine sqE (sqE (blkE (sqN ?_)))
        have h208 := exitS h207 e82
        refine WP.usreg rfl ?_
        refine U.p rfl rfl (.inl rfl) (S.assign rfl K) ?_
        refine U.done (Nat.le_of_ble_eq_true rfl) ?_
        refine WP.ret ?_
        refine fin.slot (.inr rfl) rfl (L 0 rfl rfl) ⟨V77, rfl, ((((le8.trans le26).trans le56).trans le64).trans le78), ?_⟩
        have ow209 := ow79.drop 0 rfl
        have e210 := Option.some.inj h208
        subst e210
        exact ⟨rfl, ow209⟩

set_option maxHeartbeats 4000000 in
set_option maxRecDepth 10000 in
theorem wk_ref16_New (V : Vw) (Rs : List At) (p0 : Int) (ow : Ow V (Rs)) (r : Tref16_Storage) (h : ref16_New p0 = some r) : ∃ v V', Cl Try.prog 0 14 #[.int .i64 p0] V.H v V'.H ∧ V.le V' ∧ (∃ (b1 : Nat) (z2 : Nat) (v4 : Value) (v6 : Value) (hs7 : List Value), v = .pointer (some ⟨b1, 0, none⟩) ∧ Ow V' (.pt b1 (.cells z2 [.int .i64 r.n, v4, v6]) :: .os RT_Tref16_Event v4 r.e :: .oss (RO.os (RT.int .i64)) v6 hs7 r.come :: Rs)) := by
  refine Ct.of (Nat.zero_le _) Try.func14 rfl (Nat.le_of_ble_eq_true rfl) ?_
  unfold ref16_New at h
  refine WP.usreg rfl ?_
  refine U.p rfl rfl (.inl rfl) (S.assign rfl K) ?_
  refine U.done (Nat.le_of_ble_eq_true rfl) ?_
  refine WP.seqI (fun l V' => ∃ (x9 : Int), l = [(0, .int .i64 x9)] ∧ V.le V' ∧ Ow V' (Rs) ∧ ref16_New_k1 x9 = some r) ?_ ?_
  · rintro _ V10 ⟨x9, rfl, le11, ow12, h13⟩
    unfold ref16_New_k1 at h13
    refine WP.seqI (fun l V' => ∃ (x14 : Int), l = [(0, .int .i64 x14)] ∧ V10.le V' ∧ Ow V' (Rs) ∧ ref16_New_k2 x14 = some r) ?_ ?_
    · rintro _ V15 ⟨x14, rfl, le16, ow17, h18⟩
      unfold ref16_New_k2 at h18
      refine WP.usreg rfl ?_
      refine U.p rfl rfl (.inl rfl) (S.move rfl (L 0 rfl rfl)) ?_
      refine U.p rfl rfl (.inl rfl) (S.move rfl (L 1 rfl rfl)) ?_
      obtain ⟨xs19, hx20, h21⟩ := bindS h18
      refine O.makeS (RO.os (RT.int .i64)) ow17 rfl rfl (.inl rfl) rfl (L 0 rfl rfl) (L 0 rfl rfl) Try.underlying44 ti26 rfl rfl (Nat.le_of_ble_eq_true rfl) ⟨Nat.zero_le _, .inl ⟨rfl, rfl, rfl⟩⟩ hx20 (fun _ => nd) (fun v22 hs23 V24 le25 ow26 => ?_)
      refine U.p (v := .agg #[.int .i64 x14, .slice none 0 0, v22]) rfl rfl (.inl rfl) (S.build (vs := [.int .i64 x14, v22]) rfl ti46 rfl pl46 (aC (L 2 rfl rfl) (aC (L 0 rfl rfl) aN)) (allC (by simp [topV]) (allC (ow26.ssne (k := 0) rfl) allN)) (fill1 rfl rfl (Nat.le_of_ble_eq_true rfl) (fill1 rfl (ow26.sscells (k := 0) rfl) (Nat.le_of_ble_eq_true rfl) rfl))) ?_
      refine O.box ow26 rfl rfl (.inl rfl) rfl (L 0 rfl rfl) (by simp [topV]) rfl nd (fun b28 V29 le30 ow31 => ?_)
      refine U.p rfl rfl (.inl rfl) (S.assign rfl (L 0 rfl rfl)) ?_
      refine U.done (Nat.le_of_ble_eq_true rfl) ?_
      refine WP.ret ?_
      have ow33 := ow31.nil RT_Tref16_Event
      refine fin.slot (.inr rfl) rfl (L 0 rfl rfl) ⟨V29, rfl, (((le11.trans le16).trans le25).trans le30), ?_⟩
      have ow35 := ow33.pick 2 rfl
      have ow36 := ow35.pick 1 rfl
      have ow37 := ow36.pick 2 rfl
      have e38 := Option.some.inj h21
      subst e38
      exact ⟨b28, 0, (.slice none 0 0), v22, hs23, rfl, ow37⟩
    · skip
      refine WP.usreg rfl ?_
      refine U.p rfl rfl (.inl rfl) (S.move rfl (L 0 rfl rfl)) ?_
      refine U.p rfl rfl (.inl rfl) (S.gtr rfl (L 0 rfl rfl) K) ?_
      refine U.done (Nat.le_of_ble_eq_true rfl) ?_
      refine WP.cond _ (L 0 rfl rfl) rfl (fun c39 => ?_) (fun c39 => ?_)
      · have h40 := ifT c39 h13
        refine WP.ureg rfl ?_
        refine U.p rfl rfl (.inl rfl) (S.assign rfl K) ?_
        refine U.done (Nat.le_of_ble_eq_true rfl) ?_
        refine sqN ?_
        exact ⟨_, V10, rfl, ⟨8, rfl, (.refl _), ow12, h40⟩, (allCons (L 0 rfl rfl) allNil)⟩
      · have h41 := ifF c39 h13
        refine WP.skip ?_
        refine sqN ?_
        exact ⟨_, V10, rfl, ⟨x9, rfl, (.refl _), ow12, h41⟩, (allCons (L 2 rfl rfl) allNil)⟩
  · skip
    refine WP.usreg rfl ?_
    refine U.p rfl rfl (.inl rfl) (S.move rfl (L 1 rfl rfl)) ?_
    refine U.p rfl rfl (.inl rfl) (S.lss rfl (L 0 rfl rfl) K) ?_
    refine U.done (Nat.le_of_ble_eq_true rfl) ?_
    refine WP.cond _ (L 0 rfl rfl) rfl (fun c42 => ?_) (fun c42 => ?_)
    · have h43 := ifT c42 h
      refine WP.ureg rfl ?_
      refine U.p rfl rfl (.inl rfl) (S.assign rfl K) ?_
      refine U.done (Nat.le_of_ble_eq_true rfl) ?_
      refine sqN ?_
      exact ⟨_, V, rfl, ⟨0, rfl, (.refl _), ow, h43⟩, (allCons (L 0 rfl rfl) allNil)⟩
    · have h44 := ifF c42 h
      refine WP.skip ?_
      refine sqN ?_
      exact ⟨_, V, rfl, ⟨p0, rfl, (.refl _), ow, h44⟩, (allCons (L 3 rfl rfl) allNil)⟩

set_option maxHeartbeats 4000000 in
set_option maxRecDepth 10000 in
theorem wk_ref16_Storage_Accept (V : Vw) (Rs : List At) (p0 : Tref16_Storage) (p1 : Tref16_Event) (b1 : Nat) (z2 : Nat) (v4 : Value) (v6 : Value) (hs7 : List Value) (ow : Ow V (.pt b1 (.cells z2 [.int .i64 p0.n, v4, v6]) :: .os RT_Tref16_Event v4 p0.e :: .oss (RO.os (RT.int .i64)) v6 hs7 p0.come :: Rs)) (r : Int × Tref16_Storage) (h : ref16_Storage_Accept p0 p1 = some r) : ∃ v V', Cl Try.prog 0 16 #[.pointer (some ⟨b1, 0, none⟩), .agg #[.int .i64 p1.thread, .bool p1.bar, .int .i64 p1.at_, .int .i64 p1.val]] V.H v V'.H ∧ V.le V' ∧ (∃ (v9 : Value) (v11 : Value) (hs12 : List Value), v = .int .i64 r.1 ∧ Ow V' (.pt b1 (.cells z2 [.int .i64 r.2.n, v9, v11]) :: .os RT_Tref16_Event v9 r.2.e :: .oss (RO.os (RT.int .i64)) v11 hs12 r.2.come :: Rs)) := by
  refine Ct.of (Nat.zero_le _) Try.func16 rfl (Nat.le_of_ble_eq_true rfl) ?_
  unfold ref16_Storage_Accept at h
  refine WP.usreg rfl ?_
  refine O.box ow rfl rfl (.inl rfl) rfl (L 1 rfl rfl) (by simp [topV]) rfl nd (fun b14 V15 le16 ow17 => ?_)
  refine U.p rfl rfl (.inl rfl) (S.assign rfl K) ?_
  refine U.done (Nat.le_of_ble_eq_true rfl) ?_
  refine WP.seq ?_
  refine WP.seqI (fun l V' => ∃ (x19 : Bool), l = [(0, .pointer (some ⟨b1, 0, none⟩)), (3, .pointer (some ⟨b14, 0, none⟩)), (16, .bool x19)] ∧ V15.le V' ∧ Ow V' (.pt b1 (.cells z2 [.int .i64 p0.n, v4, v6]) :: .os RT_Tref16_Event v4 p0.e :: .oss (RO.os (RT.int .i64)) v6 hs7 p0.come :: .pt b14 (.cells 0 [.int .i64 p1.thread, .bool p1.bar, .int .i64 p1.at_, .int .i64 p1.val]) :: Rs) ∧ ref16_Storage_Accept_k1 p0 p1 x19 = some r) ?_ ?_
  · rintro _ V20 ⟨x19, rfl, le21, ow22, h23⟩
    unfold ref16_Storage_Accept_k1 at h23
    refine WP.cond _ (L 2 rfl rfl) rfl (fun c24 => ?_) (fun c24 => ?_)
    · have h25 := ifT c24 h23
      refine WP.usreg rfl ?_
      refine U.p rfl rfl (.inl rfl) (S.assign rfl K) ?_
      refine U.done (Nat.le_of_ble_eq_true rfl) ?_
      refine WP.ret ?_
      refine sqR ?_
      refine fin.slot (.inr rfl) rfl (L 0 rfl rfl) ⟨V20, rfl, (le16.trans le21), ?_⟩
      have ow26 := ow22.drop 3 rfl
      have e27 := Option.some.inj h25
      subst e27
      exact ⟨v4, v6, hs7, rfl, ow26⟩
    · have h28 := ifF c24 h23
      refine WP.skip ?_
      refine sqN ?_
      refine WP.usdreg rfl rfl rfl ?_
      refine U.p rfl rfl (.inl rfl) (S.move rfl (L 0 rfl rfl)) ?_
      refine U.p rfl rfl (.inl rfl) (S.move rfl (L 1 rfl rfl)) ?_
      refine U.p rfl rfl (.inl rfl) (S.nilCheck rfl (L 0 rfl rfl)) ?_
      refine U.p (v := .pointer (some ⟨b1, 1, none⟩)) rfl rfl (.inl rfl) (S.fieldAddr rfl (L 0 rfl rfl) Try.underlying46 rfl ti43 rfl rfl) ?_
      refine U.k rfl rfl (.inl rfl) (S.load rfl (L 0 rfl rfl) Try.underlying43 rfl ((ow22.own (k := 0) rfl).cell rfl)) (fun _ => (okH.nil (fun r h => by cases h; exact (ow22.own (k := 0) rfl).lt))) ?_
      refine U.k rfl rfl (.inl rfl) (S.loadB rfl (L 6 rfl rfl) Try.underlying39 rfl ti39 (ow22.own (k := 3) rfl).get rfl) (fun _ => (okH.cons trivial (okH.nil (fun r h => by cases h; exact (ow22.own (k := 3) rfl).lt)))) ?_
      refine O.lit (R := RT_Tref16_Event) ow22 rfl rfl (.inl rfl) rfl Try.underlying43 ti39 rfl rfl rfl (Nat.le_of_ble_eq_true rfl) rfl (aC (L 0 rfl rfl) aN) (.cons _ _ p1 _ (by simp [topV]) rfl .nil) (fun _ => (fun _ => (okH.cons trivial (okH.cons trivial (okH.nil (fun r h => nomatch h)))))) (fun v29 V30 le31 ow32 => ?_)
      obtain ⟨xs34, hx35, h36⟩ := bindS h28
      refine O.append (k := 2) ow32 rfl rfl rfl (.inl rfl) rfl (L 2 rfl rfl) (L 0 rfl rfl) Try.underlying43 ti39 rfl rfl (Nat.le_of_ble_eq_true rfl) (ow32.src (k := 0) rfl Try.underlying43) hx35 (fun V1 hs => (fun _ => (okH.cons (Or.inl rfl) (okH.cons (Or.inl rfl) (okH.cons (Or.inl rfl) (okH.nil (fun r h => nomatch h))))))) (fun v37 V38 le39 ow40 => ?_)
      refine U.p rfl rfl (.inl rfl) (S.nilCheck rfl (L 7 rfl rfl)) ?_
      refine U.p (v := .pointer (some ⟨b1, 1, none⟩)) rfl rfl (.inl rfl) (S.fieldAddr rfl (L 0 rfl rfl) Try.underlying46 rfl ti43 rfl rfl) ?_
      refine O.store (k := 1) (cs := [v37]) (c' := [.int .i64 p0.n, v37, v6]) ow40 rfl rfl rfl (.inl rfl) rfl (L 0 rfl rfl) (L 2 rfl rfl) ti43 (ow40.osne (k := 2) rfl) (by rw [ow40.oscells (k := 2) rfl]) rfl (Nat.le_of_ble_eq_true rfl) (by have q0 := (ow40.osone (k := 2) rfl); simp only [List.all_cons, List.all_nil, q0]; rfl) rfl (fun _ => (okH.cons rfl (okH.cons (Or.inl rfl) (okH.cons (Or.inl rfl) (okH.cons (Or.inl rfl) (okH.nil (fun r h => nomatch h))))))) (fun V42 le43 ow44 => ?_)
      refine U.done (Nat.le_of_ble_eq_true rfl) ?_
      refine WP.usdreg rfl rfl rfl ?_
      refine U.p rfl rfl (.inl rfl) (S.move rfl (L 10 rfl rfl)) ?_
      refine U.p rfl rfl (.inl rfl) (S.nilCheck rfl (L 0 rfl rfl)) ?_
      refine U.p (v := .pointer (some ⟨b1, 2, none⟩)) rfl rfl (.inl rfl) (S.fieldAddr rfl (L 0 rfl rfl) Try.underlying46 rfl ti44 rfl rfl) ?_
      refine U.k rfl rfl (.inl rfl) (S.load rfl (L 0 rfl rfl) Try.underlying44 rfl ((ow44.own (k := 1) rfl).cell rfl)) (fun _ => (okH.nil (fun r h => by cases h; exact (ow44.own (k := 1) rfl).lt))) ?_
      refine U.p (v := .pointer (some ⟨b14, 0, none⟩)) rfl rfl (.inl rfl) (S.fieldAddr rfl (L 15 rfl rfl) Try.underlying39 rfl ti3 rfl rfl) ?_
      refine U.k rfl rfl (.inl rfl) (S.load rfl (L 0 rfl rfl) Try.underlying3 rfl ((ow44.own (k := 4) rfl).cell rfl)) (fun _ => (okH.cons trivial (okH.nil (fun r h => by cases h; exact (ow44.own (k := 4) rfl).lt)))) ?_
      refine O.lit (R := (RT.int .i64)) ow44 rfl rfl (.inl rfl) rfl Try.underlying26 ti3 rfl rfl rfl (Nat.le_of_ble_eq_true rfl) rfl aN .nil (fun _ => (fun _ => (okH.cons trivial (okH.cons trivial (okH.nil (fun r h => nomatch h)))))) (fun v45 V46 le47 ow48 => ?_)
      refine U.p rfl rfl (.inl rfl) (S.move rfl (L 17 rfl rfl)) ?_
      refine U.p rfl rfl (.inl rfl) (S.nilCheck rfl (L 0 rfl rfl)) ?_
      refine U.p (v := .pointer (some ⟨b1, 2, none⟩)) rfl rfl (.inl rfl) (S.fieldAddr rfl (L 0 rfl rfl) Try.underlying46 rfl ti44 rfl rfl) ?_
      refine U.k rfl rfl (.inl rfl) (S.load rfl (L 0 rfl rfl) Try.underlying44 rfl ((ow48.own (k := 2) rfl).cell rfl)) (fun _ => (okH.cons trivial (okH.cons trivial (okH.cons trivial (okH.nil (fun r h => by cases h; exact (ow48.own (k := 2) rfl).lt)))))) ?_
      refine U.p (v := .pointer (some ⟨b14, 0, none⟩)) rfl rfl (.inl rfl) (S.fieldAddr rfl (L 22 rfl rfl) Try.underlying39 rfl ti3 rfl rfl) ?_
      refine U.k rfl rfl (.inl rfl) (S.load rfl (L 0 rfl rfl) Try.underlying3 rfl ((ow48.own (k := 5) rfl).cell rfl)) (fun _ => (okH.cons trivial (okH.cons trivial (okH.cons trivial (okH.cons trivial (okH.nil (fun r h => by cases h; exact (ow48.own (k := 5) rfl).lt))))))) ?_
      obtain ⟨x50, hx51, h52⟩ := bindS h36
      obtain ⟨b53, o54, n55, c56, hv57⟩ := ow48.sspt (k := 4) rfl hx51
      refine U.p rfl rfl (.inl rfl) (S.index rfl ((L 2 rfl rfl).trans (ow48.sslen' (k := 4) rfl hv57)) (L 0 rfl rfl) Try.underlying44 ti26 (ix_ge hx51) (ix_lt hx51)) ?_
      obtain ⟨h58, hh59, ow60⟩ := ow48.ssopen (k := 4) rfl hx51
      have hcl62 := ow60.shcell (k := 5) rfl hv57 hh59
      refine U.k rfl rfl (.inl rfl) (S.load rfl (L 0 rfl rfl) Try.underlying26 rfl hcl62.2) (fun _ => (okH.cons trivial (okH.cons trivial (okH.cons trivial (okH.cons trivial (okH.cons trivial (okH.nil (fun r h => by cases h; exact hcl62.1)))))))) ?_
      obtain ⟨xs63, hx64, h65⟩ := bindS h52
      refine O.append (k := 1) ow60 rfl rfl rfl (.inl rfl) rfl (L 8 rfl rfl) (L 0 rfl rfl) Try.underlying26 ti3 rfl rfl (Nat.le_of_ble_eq_true rfl) (ow60.src (k := 0) rfl Try.underlying26) hx64 (fun V1 hs => (fun _ => (okH.cons (Or.inl rfl) (okH.cons (Or.inl rfl) (okH.cons (Or.inl rfl) (okH.cons (Or.inl rfl) (okH.cons (Or.inr (hs _ (ow60.own (k := 6) rfl).lt (ow60.noos (j := 6) (k := 1) rfl rfl (by decide)))) (okH.cons (Or.inr (hs _ (ow60.own (k := 3) rfl).lt (ow60.noos (j := 3) (k := 1) rfl rfl (by decide)))) (okH.nil (fun r h => nomatch h)))))))))) (fun v66 V67 le68 ow69 => ?_)
      refine U.p rfl rfl (.inl rfl) (S.move rfl (L 26 rfl rfl)) ?_
      refine U.p rfl rfl (.inl rfl) (S.nilCheck rfl (L 0 rfl rfl)) ?_
      refine U.p (v := .pointer (some ⟨b1, 1, none⟩)) rfl rfl (.inl rfl) (S.fieldAddr rfl (L 0 rfl rfl) Try.underlying46 rfl ti43 rfl rfl) ?_
      refine U.k rfl rfl (.inl rfl) (S.load rfl (L 0 rfl rfl) Try.underlying43 rfl ((ow69.own (k := 3) rfl).cell rfl)) (fun _ => (okH.cons (Or.inr ((ow69.own (k := 3) rfl).get.trans (ow60.own (k := 3) rfl).get.symm)) (okH.cons trivial (okH.cons trivial (okH.cons trivial (okH.cons trivial (okH.cons trivial (okH.cons trivial (okH.nil (fun r h => by cases h; exact (ow69.own (k := 3) rfl).lt)))))))))) ?_
      refine U.p rfl rfl (.inl rfl) (ow69.oslen (k := 4) rfl rfl (L 0 rfl rfl) Try.underlying43) ?_
      refine O.lit (R := (RT.int .i64)) ow69 rfl rfl (.inl rfl) rfl Try.underlying26 ti3 rfl rfl rfl (Nat.le_of_ble_eq_true rfl) rfl (aC (L 0 rfl rfl) aN) (.cons _ _ (xs34.length : Int) _ (by simp [topV]) rfl .nil) (fun _ => (fun _ => (okH.cons trivial (okH.cons trivial (okH.cons trivial (okH.cons trivial (okH.cons trivial (okH.cons trivial (okH.cons trivial (okH.cons trivial (okH.nil (fun r h => nomatch h)))))))))))) (fun v71 V72 le73 ow74 => ?_)
      obtain ⟨xs76, hx77, h78⟩ := bindS h65
      refine O.append (k := 2) ow74 rfl rfl rfl (.inl rfl) rfl (L 6 rfl rfl) (L 0 rfl rfl) Try.underlying26 ti3 rfl rfl (Nat.le_of_ble_eq_true rfl) (ow74.src (k := 0) rfl Try.underlying26) hx77 (fun V1 hs => (fun _ => (okH.cons (Or.inl rfl) (okH.cons (Or.inl rfl) (okH.cons rfl (okH.cons (Or.inl rfl) (okH.cons (Or.inl rfl) (okH.cons (Or.inl rfl) (okH.cons (Or.inl rfl) (okH.cons (Or.inr (hs _ (ow74.own (k := 7) rfl).lt (ow74.noos (j := 7) (k := 2) rfl rfl (by decide)))) (okH.cons (Or.inr (hs _ (ow74.own (k := 4) rfl).lt (ow74.noos (j := 4) (k := 2) rfl rfl (by decide)))) (okH.nil (fun r h => nomatch h))))))))))))) (fun v79 V80 le81 ow82 => ?_)
      obtain ⟨x84, hx85, h86⟩ := bindS h78
      refine U.p rfl rfl (.inl rfl) (S.index rfl ((L 19 rfl rfl).trans (ow82.shlen' (k := 6) rfl hv57)) (L 17 rfl rfl) Try.underlying44 ti26 (ix_ge hx85) (ix_lt hx85)) ?_
      have ow87 := ow82.drop 1 rfl
      refine O.storeH (k := 5) ow87 rfl hv57 rfl rfl (.inl rfl) rfl (L 0 rfl rfl) (L 1 rfl rfl) ti26 (ow87.osne (k := 1) rfl) (by rw [ow87.oscells (k := 1) rfl]) (ow87.osone (k := 1) rfl) (fun H1 hs => (fun _ => (okH.cons rfl (okH.cons (Or.inl rfl) (okH.cons (Or.inl rfl) (okH.cons rfl (okH.cons (Or.inl rfl) (okH.cons (Or.inl rfl) (okH.cons (Or.inl rfl) (okH.cons (Or.inl rfl) (okH.cons (Or.inl rfl) (okH.cons (Or.inl rfl) (okH.nil (fun r h => nomatch h)))))))))))))) (fun V88 le89 ow90 => ?_)
      have hh91 := ow90.shset (k := 5) rfl
      refine U.done (Nat.le_of_ble_eq_true rfl) ?_
      refine WP.usreg rfl ?_
      refine U.p rfl rfl (.inl rfl) (S.move rfl (L 34 rfl rfl)) ?_
      refine U.p rfl rfl (.inl rfl) (S.nilCheck rfl (L 0 rfl rfl)) ?_
      refine U.p (v := .pointer (some ⟨b1, 1, none⟩)) rfl rfl (.inl rfl) (S.fieldAddr rfl (L 0 rfl rfl) Try.underlying46 rfl ti43 rfl rfl) ?_
      refine U.k rfl rfl (.inl rfl) (S.load rfl (L 0 rfl rfl) Try.underlying43 rfl ((ow90.own (k := 3) rfl).cell rfl)) nd ?_
      refine U.p rfl rfl (.inl rfl) (ow90.oslen (k := 4) rfl rfl (L 0 rfl rfl) Try.underlying43) ?_
      refine U.p rfl rfl (.inl rfl) (S.assign rfl (L 0 rfl rfl)) ?_
      refine U.done (Nat.le_of_ble_eq_true rfl) ?_
      refine WP.ret ?_
      have ow92 := ow90.ssclose (k := 5) (j := 1) rfl rfl (by decide) hh91
      refine fin.slot (.inr rfl) rfl (L 0 rfl rfl) ⟨V88, rfl, (((((((((le16.trans le21).trans le31).trans le39).trans le43).trans le47).trans le68).trans le73).trans le81).trans le89), ?_⟩
      have ow93 := ow92.drop 0 rfl
      have ow94 := ow93.drop 0 rfl
      have ow95 := ow94.drop 3 rfl
      have e96 := Option.some.inj h86
      subst e96
      exact ⟨v37, v6, hs7.set (Int.toNat p1.thread) v79, rfl, ow95⟩
  · skip
    refine WP.udreg rfl rfl rfl ?_
    refine U.p (v := .pointer (some ⟨b14, 0, none⟩)) rfl rfl (.inl rfl) (S.fieldAddr rfl (L 1 rfl rfl) Try.underlying39 rfl ti3 rfl rfl) ?_
    refine U.k rfl rfl (.inl rfl) (S.load rfl (L 0 rfl rfl) Try.underlying3 rfl ((ow17.own (k := 0) rfl).cell rfl)) (fun _ => (okH.nil (fun r h => by cases h; exact (ow17.own (k := 0) rfl).lt))) ?_
    refine U.p rfl rfl (.inl rfl) (S.lss rfl (L 0 rfl rfl) K) ?_
    refine U.p rfl rfl (.inl rfl) (S.move rfl (L 0 rfl rfl)) ?_
    refine bcase (b := decide (p1.thread < 0)) (fun g97 => ?_) (fun g97 => ?_)
    · have h98 := ifT g97 h
      refine U.x rfl rfl rfl rfl ((L 0 rfl rfl).trans (congrArg Value.bool g97)) (by decide) ?_
      refine U.x rfl rfl rfl rfl ((L 1 rfl rfl).trans (congrArg Value.bool g97)) (by decide) ?_
      refine U.x rfl rfl rfl rfl ((L 2 rfl rfl).trans (congrArg Value.bool g97)) (by decide) ?_
      refine U.x rfl rfl rfl rfl ((L 3 rfl rfl).trans (congrArg Value.bool g97)) (by decide) ?_
      refine U.x rfl rfl rfl rfl ((L 4 rfl rfl).trans (congrArg Value.bool g97)) (by decide) ?_
      refine U.x rfl rfl rfl rfl ((L 5 rfl rfl).trans (congrArg Value.bool g97)) (by decide) ?_
      refine U.x rfl rfl rfl rfl ((L 6 rfl rfl).trans (congrArg Value.bool g97)) (by decide) ?_
      refine U.p rfl rfl (.inl rfl) (S.pickT rfl ((L 7 rfl rfl).trans (congrArg Value.bool g97)) K) ?_
      refine U.done (Nat.le_of_ble_eq_true rfl) ?_
      refine sqN ?_
      have ow99 := ow17.pick 0 rfl
      have ow100 := ow99.pick 3 rfl
      have ow101 := ow100.pick 3 rfl
      have ow102 := ow101.pick 3 rfl
      exact ⟨_, V15, rfl, ⟨true, rfl, (.refl _), ow102, h98⟩, (allCons (L 14 rfl rfl) (allCons (L 13 rfl rfl) (allCons (L 0 rfl rfl) allNil)))⟩
    · have h103 := ifF g97 h
      refine U.p (v := .pointer (some ⟨b14, 0, none⟩)) rfl rfl (.inr ⟨_, _, _, rfl, rfl, ((L 0 rfl rfl).trans (congrArg Value.bool g97))⟩) (S.fieldAddr rfl (L 5 rfl rfl) Try.underlying39 rfl ti3 rfl rfl) ?_
      refine U.k rfl rfl (.inr ⟨_, _, _, rfl, rfl, ((L 1 rfl rfl).trans (congrArg Value.bool g97))⟩) (S.load rfl (L 0 rfl rfl) Try.underlying3 rfl ((ow17.own (k := 0) rfl).cell rfl)) (fun _ => (okH.cons trivial (okH.nil (fun r h => by cases h; exact (ow17.own (k := 0) rfl).lt)))) ?_
      refine U.p rfl rfl (.inr ⟨_, _, _, rfl, rfl, ((L 2 rfl rfl).trans (congrArg Value.bool g97))⟩) (S.move rfl (L 8 rfl rfl)) ?_
      refine U.p rfl rfl (.inr ⟨_, _, _, rfl, rfl, ((L 3 rfl rfl).trans (congrArg Value.bool g97))⟩) (S.nilCheck rfl (L 0 rfl rfl)) ?_
      refine U.p (v := .pointer (some ⟨b1, 0, none⟩)) rfl rfl (.inr ⟨_, _, _, rfl, rfl, ((L 4 rfl rfl).trans (congrArg Value.bool g97))⟩) (S.fieldAddr rfl (L 0 rfl rfl) Try.underlying46 rfl ti3 rfl rfl) ?_
      refine U.k rfl rfl (.inr ⟨_, _, _, rfl, rfl, ((L 5 rfl rfl).trans (congrArg Value.bool g97))⟩) (S.load rfl (L 0 rfl rfl) Try.underlying3 rfl ((ow17.own (k := 1) rfl).cell rfl)) (fun _ => (okH.cons trivial (okH.cons trivial (okH.nil (fun r h => by cases h; exact (ow17.own (k := 1) rfl).lt))))) ?_
      refine U.p rfl rfl (.inr ⟨_, _, _, rfl, rfl, ((L 6 rfl rfl).trans (congrArg Value.bool g97))⟩) (S.geq rfl (L 4 rfl rfl) (L 0 rfl rfl)) ?_
      refine U.p rfl rfl (.inl rfl) (S.pickF rfl ((L 7 rfl rfl).trans (congrArg Value.bool g97)) (L 0 rfl rfl)) ?_
      refine U.done (Nat.le_of_ble_eq_true rfl) ?_
      refine sqN ?_
      have ow104 := ow17.pick 0 rfl
      have ow105 := ow104.pick 3 rfl
      have ow106 := ow105.pick 3 rfl
      have ow107 := ow106.pick 3 rfl
      exact ⟨_, V15, rfl, ⟨decide (p0.n ≤ p1.thread), rfl, (.refl _), ow107, h103⟩, (allCons (L 14 rfl rfl) (allCons (L 13 rfl rfl) (allCons (L 0 rfl rfl) allNil)))⟩

set_option maxHeartbeats 4000000 in
set_option maxRecDepth 10000 in
theorem wk_law16_ahead (V : Vw) (Rs : List At) (p0 : Tref16_Storage) (p1 : Int) (p2 : Int) (b1 : Nat) (z2 : Nat) (v4 : Value) (v6 : Value) (hs7 : List Value) (ow : Ow V (.pt b1 (.cells z2 [.int .i64 p0.n, v4, v6]) :: .os RT_Tref16_Event v4 p0.e :: .oss (RO.os (RT.int .i64)) v6 hs7 p0.come :: Rs)) (r : List Int) (h : law16_ahead p0 p1 p2 = some r) : ∃ v V', Cl Try.prog 0 19 #[.pointer (some ⟨b1, 0, none⟩), .int .i64 p1, .int .i64 p2] V.H v V'.H ∧ V.le V' ∧ (∃ (v9 : Value), v = v9 ∧ Al hs7 p0.come 1 v9 r ∧ Ow V' (.pt b1 (.cells z2 [.int .i64 p0.n, v4, v6]) :: .os RT_Tref16_Event v4 p0.e :: .oss (RO.os (RT.int .i64)) v6 hs7 p0.come :: Rs)) := by
  refine Ct.of (Nat.zero_le _) Try.func19 rfl (Nat.le_of_ble_eq_true rfl) ?_
  unfold law16_ahead at h
  refine WP.usreg rfl ?_
  refine U.p rfl rfl (.inl rfl) (S.assign rfl K) ?_
  refine U.done (Nat.le_of_ble_eq_true rfl) ?_
  refine WP.seq ?_
  refine WP.usreg rfl ?_
  refine U.p rfl rfl (.inl rfl) (S.move rfl (L 1 rfl rfl)) ?_
  refine U.p rfl rfl (.inl rfl) (S.nilCheck rfl (L 0 rfl rfl)) ?_
  refine U.p (v := .pointer (some ⟨b1, 2, none⟩)) rfl rfl (.inl rfl) (S.fieldAddr rfl (L 0 rfl rfl) Try.underlying46 rfl ti44 rfl rfl) ?_
  refine U.k rfl rfl (.inl rfl) (S.load rfl (L 0 rfl rfl) Try.underlying44 rfl ((ow.own (k := 0) rfl).cell rfl)) nd ?_
  refine U.p rfl rfl (.inl rfl) (S.move rfl (L 6 rfl rfl)) ?_
  obtain ⟨x11, hx12, h13⟩ := bindS h
  obtain ⟨b14, o15, n16, c17, hv18⟩ := ow.sspt (k := 2) rfl hx12
  refine U.p rfl rfl (.inl rfl) (S.index rfl ((L 1 rfl rfl).trans (ow.sslen' (k := 2) rfl hv18)) (L 0 rfl rfl) Try.underlying44 ti26 (ix_ge hx12) (ix_lt hx12)) ?_
  obtain ⟨h19, hh20, ow21⟩ := ow.ssopen (k := 2) rfl hx12
  have hcl23 := ow21.shcell (k := 3) rfl hv18 hh20
  refine U.k rfl rfl (.inl rfl) (S.load rfl (L 0 rfl rfl) Try.underlying26 rfl hcl23.2) nd ?_
  refine U.p rfl rfl (.inl rfl) (ow21.oslen (k := 0) rfl rfl (L 0 rfl rfl) Try.underlying26) ?_
  refine U.p rfl rfl (.inl rfl) (S.move rfl K) ?_
  refine U.done (Nat.le_of_ble_eq_true rfl) ?_
  refine WP.blk ?_
  have ow24 := ow21.ssclose' (k := 3) (j := 0) rfl rfl (by decide) hh20 hx12
  unfold law16_ahead_l1 at h13
  obtain ⟨n27, hn26⟩ := loopO_some.1 h13
  refine WP.loopI2 (fun n l V' => ∃ (x25 : Int), l = [(0, .pointer (some ⟨b1, 0, none⟩)), (1, .int .i64 p1), (2, .int .i64 p2), (15, h19), (16, .int .i64 (x11.length : Int)), (17, .int .i64 x25)] ∧ V.le V' ∧ Ow V' (.pt b1 (.cells z2 [.int .i64 p0.n, v4, v6]) :: .os RT_Tref16_Event v4 p0.e :: .oss (RO.os (RT.int .i64)) v6 hs7 p0.come :: Rs) ∧ itO (fun s => law16_ahead_l1b p0 p1 p2 x11 s) n x25 = some r) n27 _ ⟨0, rfl, .refl _, ow24, hn26⟩ (allCons (L 10 rfl rfl) (allCons (L 11 rfl rfl) (allCons (L 12 rfl rfl) (allCons (L 2 rfl rfl) (allCons (L 1 rfl rfl) (allCons (L 0 rfl rfl) allNil)))))) ?_
  rintro _ _ V28 ⟨x25, rfl, le29, ow30, h34⟩
  obtain ⟨m31, q32, rfl, h35, e33⟩ := itS h34
  replace h35 : law16_ahead_l1b p0 p1 p2 x11 x25 = some q32 := h35
  unfold law16_ahead_l1b at h35
  refine WP.usreg rfl ?_
  refine U.p rfl rfl (.inl rfl) (S.lss rfl (L 5 rfl rfl) (L 4 rfl rfl)) ?_
  refine U.done (Nat.le_of_ble_eq_true rfl) ?_
  refine WP.seq ?_
  refine WP.cond _ (L 0 rfl rfl) rfl (fun c36 => ?_) (fun c36 => ?_)
  · have h37 := ifT c36 h35
    refine WP.skip ?_
    refine sqN ?_
    refine WP.seq ?_
    refine WP.blk ?_
    refine WP.usreg rfl ?_
    refine U.p rfl rfl (.inl rfl) (S.move rfl (L 6 rfl rfl)) ?_
    obtain ⟨x38, hx39, h40⟩ := bindS h37
    obtain ⟨h41, hh42, ow43⟩ := ow30.ssopen (k := 2) rfl hx39
    obtain rfl : h41 = h19 := Option.some.inj (hh42.symm.trans hh20)
    obtain ⟨x45, hx46, h47⟩ := bindS h40
    obtain ⟨b48, o49, n50, c51, hv52⟩ := ow43.ospt (k := 0) rfl hx46
    obtain ⟨_, hv53, _⟩ := ow43.osel (k := 0) rfl hv52 hx46
    refine U.p rfl rfl (.inl rfl) (S.index rfl ((L 5 rfl rfl).trans hv53) (L 7 rfl rfl) Try.underlying26 ti3 (ix_ge hx46) (ix_lt hx46)) ?_
    obtain ⟨cs54, hv55, hlt56, hr57, hc58⟩ := ow43.osel (k := 0) rfl hv52 hx46
    obtain rfl : cs54 = [.int .i64 x45] := hr57
    refine U.k rfl rfl (.inl rfl) (S.load rfl (L 0 rfl rfl) Try.underlying3 rfl (hc58 0 _ rfl)) nd ?_
    refine U.p rfl rfl (.inl rfl) (S.assign rfl (L 2 rfl rfl)) ?_
    refine U.p rfl rfl (.inl rfl) (S.assign rfl (L 1 rfl rfl)) ?_
    refine U.done (Nat.le_of_ble_eq_true rfl) ?_
    refine WP.usreg rfl ?_
    refine U.p rfl rfl (.inl rfl) (S.move rfl (L 0 rfl rfl)) ?_
    refine U.p rfl rfl (.inl rfl) (S.move rfl (L 9 rfl rfl)) ?_
    refine U.p rfl rfl (.inl rfl) (S.eqlI rfl (L 1 rfl rfl) (L 0 rfl rfl)) ?_
    refine U.done (Nat.le_of_ble_eq_true rfl) ?_
    refine WP.cond _ (L 0 rfl rfl) rfl (fun c59 => ?_) (fun c59 => ?_)
    · have h60 := ifT c59 h47
      refine WP.usreg rfl ?_
      refine U.p rfl rfl (.inl rfl) (S.move rfl (L 9 rfl rfl)) ?_
      refine U.p rfl rfl (.inl rfl) (S.nilCheck rfl (L 0 rfl rfl)) ?_
      refine U.p (v := .pointer (some ⟨b1, 2, none⟩)) rfl rfl (.inl rfl) (S.fieldAddr rfl (L 0 rfl rfl) Try.underlying46 rfl ti44 rfl rfl) ?_
      refine U.k rfl rfl (.inl rfl) (S.load rfl (L 0 rfl rfl) Try.underlying44 rfl ((ow43.own (k := 1) rfl).cell rfl)) nd ?_
      refine U.p rfl rfl (.inl rfl) (S.move rfl (L 14 rfl rfl)) ?_
      obtain ⟨x61, hx62, h63⟩ := bindS h60
      refine U.p rfl rfl (.inl rfl) (S.index rfl ((L 1 rfl rfl).trans (ow43.shlen' (k := 3) rfl hv18)) (L 0 rfl rfl) Try.underlying44 ti26 (ix_ge hx62) (ix_lt hx62)) ?_
      have hcl64 := ow43.shcell (k := 3) rfl hv18 hh20
      refine U.k rfl rfl (.inl rfl) (S.load rfl (L 0 rfl rfl) Try.underlying26 rfl hcl64.2) nd ?_
      refine U.p rfl rfl (.inl rfl) (S.move rfl (L 11 rfl rfl)) ?_
      obtain ⟨xs65, hx66, h67⟩ := bindS h63
      refine O.subA (k := 0) ow43 rfl hx66 rfl rfl (.inl rfl) rfl (L 1 rfl rfl) Try.underlying26 ti3 ⟨.inl ⟨rfl, rfl⟩, .inr ⟨_, _, rfl, (L 0 rfl rfl)⟩, .inl rfl⟩ (fun v68 ha69 => ?_)
      have f70 : Al hs7 p0.come 1 v68 xs65 := .of hh20 hx39 hx66 ha69
      refine U.p rfl rfl (.inl rfl) (S.assign rfl (L 0 rfl rfl)) ?_
      refine U.done (Nat.le_of_ble_eq_true rfl) ?_
      refine WP.ret ?_
      refine blkR (sqR (sqR (blkR (sqR ?_))))
      have h71 := exitS h67 e33
      have ow72 := ow43.ssclose' (k := 3) (j := 0) rfl rfl (by decide) hh20 hx39
      refine fin.slot (.inr rfl) rfl (L 0 rfl rfl) ⟨V28, rfl, le29, ?_⟩
      have e73 := Option.some.inj h71
      subst e73
      exact ⟨v68, rfl, f70, ow72⟩
    · have h74 := ifF c59 h47
      refine WP.skip ?_
      refine blkN (sqN ?_)
      refine WP.ureg rfl ?_
      refine U.p rfl rfl (.inl rfl) (S.add rfl (L 14 rfl rfl) K) ?_
      refine U.p rfl rfl (.inl rfl) (S.move rfl (L 0 rfl rfl)) ?_
      refine U.done (Nat.le_of_ble_eq_true rfl) ?_
      refine sqN ?_
      have ow75 := ow43.ssclose' (k := 3) (j := 0) rfl rfl (by decide) hh20 hx39
      exact ⟨_, V28, rfl, ⟨m31, Nat.lt_succ_self _, w64 (x25 + 1), rfl, le29, ow75, backS h74 e33⟩, (allCons (L 11 rfl rfl) (allCons (L 12 rfl rfl) (allCons (L 13 rfl rfl) (allCons (L 14 rfl rfl) (allCons (L 15 rfl rfl) (allCons (L 0 rfl rfl) allNil))))))⟩
  · have h76 := ifF c36 h35
    refine WP.exit ?_
    refine sqE (sqE (blkE (sqN ?_)))
    have h77 := exitS h76 e33
    refine WP.usreg rfl ?_
    refine U.p rfl rfl (.inl rfl) (S.assign rfl K) ?_
    refine U.done (Nat.le_of_ble_eq_true rfl) ?_
    refine WP.ret ?_
    refine fin.slot (.inr rfl) rfl (L 0 rfl rfl) ⟨V28, rfl, le29, ?_⟩
    have e78 := Option.some.inj h77
    subst e78
    exact ⟨(.slice none 0 0), rfl, Al.nil, ow30⟩

end Go.Vm.G16
