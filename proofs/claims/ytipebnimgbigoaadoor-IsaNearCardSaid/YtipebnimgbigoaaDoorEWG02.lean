/-
  What the functions compute is what the plain ones say, for all inputs at which those answer.
-/
import Derived.Test.YtipebnimgbigoaaDoorEDG02
import Derived.Test.YtipebnimgbigoaaDoorProg
import Derived.Test.YtipebnimgbigoaaDoorESG02
set_option linter.unusedSimpArgs false
set_option linter.unusedVariables false
namespace Go.Vm.G02
open Go Go.Proofs
theorem ti3 : tinfo Tryd.prog 3 (.int .i64 0) 1 8 := by unfold tinfo; kernel_rfl
theorem ti4 : tinfo Tryd.prog 4 (.bool false) 1 1 := by unfold tinfo; kernel_rfl
theorem ti5 : tinfo Tryd.prog 5 (.int .u8 0) 1 1 := by unfold tinfo; kernel_rfl
theorem ti9 : tinfo Tryd.prog 9 (.string ByteArray.empty) 1 16 := by unfold tinfo; kernel_rfl
theorem ti22 : tinfo Tryd.prog 22 (.int .u32 0) 1 4 := by unfold tinfo; kernel_rfl
theorem ti25 : tinfo Tryd.prog 25 (.agg #[.int .i64 0, .int .i64 0, .int .i64 0, .int .i64 0, .int .i64 0]) 5 40 := by unfold tinfo; kernel_rfl
theorem ti37 : tinfo Tryd.prog 37 (.agg #[.string ByteArray.empty, .bool false, .bool false, .bool false, .int .i64 0, .int .u32 0]) 6 40 := by unfold tinfo; kernel_rfl
theorem ti52 : tinfo Tryd.prog 52 (.agg #[.string ByteArray.empty, .string ByteArray.empty, .int .u32 0]) 3 40 := by unfold tinfo; kernel_rfl
theorem ti68 : tinfo Tryd.prog 68 (.agg #[.string ByteArray.empty, .string ByteArray.empty, .string ByteArray.empty, .string ByteArray.empty, .string ByteArray.empty, .string ByteArray.empty]) 6 96 := by unfold tinfo; kernel_rfl
theorem ti69 : tinfo Tryd.prog 69 (.agg #[.int .i64 0, .int .i64 0, .int .i64 0]) 3 24 := by unfold tinfo; kernel_rfl
theorem ti70 : tinfo Tryd.prog 70 (.agg #[.bool false, .bool false, .bool false]) 3 3 := by unfold tinfo; kernel_rfl
theorem pl25 : placesAre Tryd.prog 25 #[(0, 1), (1, 1), (2, 1), (3, 1), (4, 1)] := ⟨_, Tryd.underlying25, by kernel_rfl⟩
theorem pl37 : placesAre Tryd.prog 37 #[(0, 1), (1, 1), (2, 1), (3, 1), (4, 1), (5, 1)] := ⟨_, Tryd.underlying37, by kernel_rfl⟩
theorem en10 : enterable Tryd.prog 10 := ⟨Tryd.f10, Tryd.func10, by kernel_rfl, rfl⟩
theorem en11 : enterable Tryd.prog 11 := ⟨Tryd.f11, Tryd.func11, by kernel_rfl, rfl⟩
theorem en12 : enterable Tryd.prog 12 := ⟨Tryd.f12, Tryd.func12, by kernel_rfl, rfl⟩
theorem en13 : enterable Tryd.prog 13 := ⟨Tryd.f13, Tryd.func13, by kernel_rfl, rfl⟩
theorem en14 : enterable Tryd.prog 14 := ⟨Tryd.f14, Tryd.func14, by kernel_rfl, rfl⟩
theorem en15 : enterable Tryd.prog 15 := ⟨Tryd.f15, Tryd.func15, by kernel_rfl, rfl⟩
theorem en16 : enterable Tryd.prog 16 := ⟨Tryd.f16, Tryd.func16, by kernel_rfl, rfl⟩
theorem en21 : enterable Tryd.prog 21 := ⟨Tryd.f21, Tryd.func21, by kernel_rfl, rfl⟩
theorem en22 : enterable Tryd.prog 22 := ⟨Tryd.f22, Tryd.func22, by kernel_rfl, rfl⟩
theorem en23 : enterable Tryd.prog 23 := ⟨Tryd.f23, Tryd.func23, by kernel_rfl, rfl⟩
theorem en24 : enterable Tryd.prog 24 := ⟨Tryd.f24, Tryd.func24, by kernel_rfl, rfl⟩
theorem en25 : enterable Tryd.prog 25 := ⟨Tryd.f25, Tryd.func25, by kernel_rfl, rfl⟩
theorem en26 : enterable Tryd.prog 26 := ⟨Tryd.f26, Tryd.func26, by kernel_rfl, rfl⟩
theorem en27 : enterable Tryd.prog 27 := ⟨Tryd.f27, Tryd.func27, by kernel_rfl, rfl⟩
theorem en28 : enterable Tryd.prog 28 := ⟨Tryd.f28, Tryd.func28, by kernel_rfl, rfl⟩
theorem en29 : enterable Tryd.prog 29 := ⟨Tryd.f29, Tryd.func29, by kernel_rfl, rfl⟩
theorem en30 : enterable Tryd.prog 30 := ⟨Tryd.f30, Tryd.func30, by kernel_rfl, rfl⟩
theorem en31 : enterable Tryd.prog 31 := ⟨Tryd.f31, Tryd.func31, by kernel_rfl, rfl⟩
theorem en32 : enterable Tryd.prog 32 := ⟨Tryd.f32, Tryd.func32, by kernel_rfl, rfl⟩
theorem en33 : enterable Tryd.prog 33 := ⟨Tryd.f33, Tryd.func33, by kernel_rfl, rfl⟩
theorem en34 : enterable Tryd.prog 34 := ⟨Tryd.f34, Tryd.func34, by kernel_rfl, rfl⟩
theorem en35 : enterable Tryd.prog 35 := ⟨Tryd.f35, Tryd.func35, by kernel_rfl, rfl⟩
theorem en36 : enterable Tryd.prog 36 := ⟨Tryd.f36, Tryd.func36, by kernel_rfl, rfl⟩
theorem en37 : enterable Tryd.prog 37 := ⟨Tryd.f37, Tryd.func37, by kernel_rfl, rfl⟩
theorem en38 : enterable Tryd.prog 38 := ⟨Tryd.f38, Tryd.func38, by kernel_rfl, rfl⟩
theorem en39 : enterable Tryd.prog 39 := ⟨Tryd.f39, Tryd.func39, by kernel_rfl, rfl⟩
theorem en40 : enterable Tryd.prog 40 := ⟨Tryd.f40, Tryd.func40, by kernel_rfl, rfl⟩
theorem en41 : enterable Tryd.prog 41 := ⟨Tryd.f41, Tryd.func41, by kernel_rfl, rfl⟩
theorem en42 : enterable Tryd.prog 42 := ⟨Tryd.f42, Tryd.func42, by kernel_rfl, rfl⟩
theorem en43 : enterable Tryd.prog 43 := ⟨Tryd.f43, Tryd.func43, by kernel_rfl, rfl⟩
theorem en44 : enterable Tryd.prog 44 := ⟨Tryd.f44, Tryd.func44, by kernel_rfl, rfl⟩
theorem en45 : enterable Tryd.prog 45 := ⟨Tryd.f45, Tryd.func45, by kernel_rfl, rfl⟩
set_option maxHeartbeats 4000000 in
set_option maxRecDepth 10000 in
theorem wk_isa_used (V : Vw) (Rs : List At) (gl : Glb V) (p0 : TInst) (ow : Ow V (Rs)) (r : TInst) (h : isa_used p0 = some r) : ∃ v V', Cl Tryd.prog NG 30 #[.agg #[.int .i64 p0.op, .int .i64 p0.d, .int .i64 p0.a, .int .i64 p0.b, .int .i64 p0.imm]] V.H v V'.H ∧ V.le V' ∧ (v = .agg #[.int .i64 r.op, .int .i64 r.d, .int .i64 r.a, .int .i64 r.b, .int .i64 r.imm] ∧ Ow V' (Rs)) := by
 refine Ct.of gl.lo Tryd.func30 rfl (nr rfl) ?_
 unfold isa_used at h
 refine WP.usreg rfl ?_
 refine O.box ow rfl rfl (.inl rfl) rfl (L 0 rfl rfl) (by simp [topV]) rfl nd (fun b1 V2 le3 ow4 => ?_)
 refine O.alloc ow4 rfl rfl (.inl rfl) rfl ti25 rfl rfl nd (fun b6 V7 le8 ow9 => ?_)
 refine U.done (nr rfl) ?_
 refine WP.usreg rfl ?_
 refine U.p (v := .pointer (some ⟨b1, 0, none⟩)) rfl rfl (.inl rfl) (S.fieldAddr rfl (L 1 rfl rfl) Tryd.underlying25 rfl ti3 rfl rfl) ?_
 refine U.k rfl rfl (.inl rfl) (S.load rfl (L 0 rfl rfl) Tryd.underlying3 rfl ((ow9.own (k := 1) rfl).cell rfl)) nd ?_
 refine U.p (v := .agg #[.int .i64 p0.op, .int .i64 0, .int .i64 0, .int .i64 0, .int .i64 0]) rfl rfl (.inl rfl) (S.build (vs := [.int .i64 p0.op]) rfl ti25 rfl pl25 (aC (L 0 rfl rfl) aN) (allC (by simp [topV]) allN) rfl) ?_
 refine O.alloc ow9 rfl rfl (.inl rfl) rfl ti25 rfl rfl nd (fun b11 V12 le13 ow14 => ?_)
 refine O.store (k := 0) (cs := [.int .i64 p0.op, .int .i64 0, .int .i64 0, .int .i64 0, .int .i64 0]) (c' := [.int .i64 p0.op, .int .i64 0, .int .i64 0, .int .i64 0, .int .i64 0]) ow14 rfl rfl rfl (.inl rfl) rfl (L 0 rfl rfl) (L 1 rfl rfl) ti25 (by simp [topV]) rfl rfl (nr rfl) rfl rfl nd (fun V16 le17 ow18 => ?_)
 refine U.done (nr rfl) ?_
 refine WP.seq ?_
 refine WP.usreg rfl ?_
 refine U.p (v := .pointer (some ⟨b1, 0, none⟩)) rfl rfl (.inl rfl) (S.fieldAddr rfl (L 5 rfl rfl) Tryd.underlying25 rfl ti3 rfl rfl) ?_
 refine U.k rfl rfl (.inl rfl) (S.load rfl (L 0 rfl rfl) Tryd.underlying3 rfl ((ow18.own (k := 2) rfl).cell rfl)) nd ?_
 obtain ⟨x19, hx20, h21⟩ := bindS h
 obtain ⟨_, _, _, cs22, hv23, hf24, hr25, hc26⟩ := (gl.up (((le3.trans le8).trans le13).trans le17)).g0.at hx20
 cases hv23
 obtain rfl : cs22 = [.string x19.name, .string x19.fields, .int .u32 x19.word] := hr25
 refine U.p rfl rfl (.inl rfl) (S.indexA rfl Gl (L 0 rfl rfl) Tryd.underlying53 ti52 (ix_ge hx20) (by have q1 := ix_lt hx20; have q2 := gl0_len; omega)) ?_
 refine U.p (v := .pointer (some ⟨0, 0 + Int.toNat p0.op * 3 + 1, none⟩)) rfl rfl (.inl rfl) (S.fieldAddr rfl (L 0 rfl rfl) Tryd.underlying52 rfl ti9 rfl rfl) ?_
 refine U.k rfl rfl (.inl rfl) (S.load rfl (L 0 rfl rfl) Tryd.underlying9 rfl (hc26 1 _ rfl)) nd ?_
 obtain ⟨xs27, hx28, h29⟩ := bindS h21
 refine O.bytes ow18 rfl rfl (.inl rfl) rfl (L 0 rfl rfl) Tryd.underlying9 Tryd.underlying54 Tryd.underlying5 hx28 (fun _ => nd) (fun v30 V31 le32 ow33 => ?_)
 refine U.p rfl rfl (.inl rfl) (ow33.oslen (k := 0) rfl rfl (L 0 rfl rfl) Tryd.underlying54) ?_
 refine U.p rfl rfl (.inl rfl) (S.move rfl K) ?_
 refine U.done (nr rfl) ?_
 refine WP.blk ?_
 have ow40 := ow33.pick 0 rfl
 have ow41 := ow40.pick 1 rfl
 have ow42 := ow41.pick 2 rfl
 have ow43 := ow42.pick 3 rfl
 unfold isa_used_l1 at h29
 obtain ⟨n45, hn44⟩ := loopO_some.1 h29
 refine WP.loopI2 (fun n l V' => ∃ (x35 : Int) (x36 : Int) (x37 : Int) (x38 : Int) (x39 : Int), l = [(1, .pointer (some ⟨b1, 0, none⟩)), (2, .pointer (some ⟨b6, 0, none⟩)), (3, .pointer (some ⟨b11, 0, none⟩)), (14, v30), (15, .int .i64 (xs27.length : Int)), (16, .int .i64 x39)] ∧ V31.le V' ∧ Ow V' (.pt b1 (.cells 0 [.int .i64 p0.op, .int .i64 p0.d, .int .i64 p0.a, .int .i64 p0.b, .int .i64 p0.imm]) :: .pt b6 (.cells 5 [.int .i64 0, .int .i64 0, .int .i64 0, .int .i64 0, .int .i64 0]) :: .pt b11 (.cells 5 [.int .i64 p0.op, .int .i64 x35, .int .i64 x36, .int .i64 x37, .int .i64 x38]) :: .os (RT.int .u8) v30 xs27 :: Rs) ∧ itO (fun s => isa_used_l1b p0 xs27 s.1 s.2.1 s.2.2.1 s.2.2.2.1 s.2.2.2.2) n (x35, x36, x37, x38, x39) = some r) n45 _ ⟨0, 0, 0, 0, 0, rfl, .refl _, ow43, hn44⟩ (allCons (L 13 rfl rfl) (allCons (L 12 rfl rfl) (allCons (L 8 rfl rfl) (allCons (L 2 rfl rfl) (allCons (L 1 rfl rfl) (allCons (L 0 rfl rfl) allNil)))))) ?_
 rintro _ _ V46 ⟨x35, x36, x37, x38, x39, rfl, le47, ow48, h52⟩
 obtain ⟨m49, q50, rfl, h53, e51⟩ := itS h52
 replace h53 : isa_used_l1b p0 xs27 x35 x36 x37 x38 x39 = some q50 := h53
 unfold isa_used_l1b at h53
 refine WP.usreg rfl ?_
 refine U.p rfl rfl (.inl rfl) (S.lss rfl (L 5 rfl rfl) (L 4 rfl rfl)) ?_
 refine U.done (nr rfl) ?_
 refine WP.seq ?_
 refine WP.cond _ (L 0 rfl rfl) rfl (fun c54 => ?_) (fun c54 => ?_)
 ·have h55 := ifT c54 h53
  refine WP.skip ?_
  refine sqN ?_
  refine WP.seqI (fun l V' => ∃ (x56 : Int) (x57 : Int) (x58 : Int) (x59 : Int), l = [(1, .pointer (some ⟨b1, 0, none⟩)), (2, .pointer (some ⟨b6, 0, none⟩)), (3, .pointer (some ⟨b11, 0, none⟩)), (14, v30), (15, .int .i64 (xs27.length : Int)), (16, .int .i64 x39)] ∧ V46.le V' ∧ Ow V' (.pt b1 (.cells 0 [.int .i64 p0.op, .int .i64 p0.d, .int .i64 p0.a, .int .i64 p0.b, .int .i64 p0.imm]) :: .pt b6 (.cells 5 [.int .i64 0, .int .i64 0, .int .i64 0, .int .i64 0, .int .i64 0]) :: .pt b11 (.cells 5 [.int .i64 p0.op, .int .i64 x56, .int .i64 x57, .int .i64 x58, .int .i64 x59]) :: .os (RT.int .u8) v30 xs27 :: Rs) ∧ isa_used_k1 x39 x56 x57 x58 x59 = some q50) ?_ ?_
  ·rintro _ V60 ⟨x56, x57, x58, x59, rfl, le61, ow62, h63⟩
   unfold isa_used_k1 at h63
   refine WP.ureg rfl ?_
   refine U.p rfl rfl (.inl rfl) (S.add rfl (L 5 rfl rfl) K) ?_
   refine U.p rfl rfl (.inl rfl) (S.move rfl (L 0 rfl rfl)) ?_
   refine U.done (nr rfl) ?_
   refine sqN ?_
   exact ⟨_, V60, rfl, ⟨m49, Nat.lt_succ_self _, x56, x57, x58, x59, w64 (x39 + 1), rfl, (le47.trans le61), ow62, backS h63 e51⟩, (allCons (L 2 rfl rfl) (allCons (L 3 rfl rfl) (allCons (L 4 rfl rfl) (allCons (L 5 rfl rfl) (allCons (L 6 rfl rfl) (allCons (L 0 rfl rfl) allNil))))))⟩
  ·skip
   refine WP.blk ?_
   refine WP.usreg rfl ?_
   obtain ⟨x64, hx65, h66⟩ := bindS h55
   obtain ⟨b67, o68, n69, c70, hv71⟩ := ow48.ospt (k := 3) rfl hx65
   obtain ⟨_, hv72, _⟩ := ow48.osel (k := 3) rfl hv71 hx65
   refine U.p rfl rfl (.inl rfl) (S.index rfl ((L 4 rfl rfl).trans hv72) (L 6 rfl rfl) Tryd.underlying54 ti5 (ix_ge hx65) (ix_lt hx65)) ?_
   obtain ⟨cs73, hv74, hlt75, hr76, hc77⟩ := ow48.osel (k := 3) rfl hv71 hx65
   obtain rfl : cs73 = [.int .u8 x64] := hr76
   refine U.k rfl rfl (.inl rfl) (S.load rfl (L 0 rfl rfl) Tryd.underlying5 rfl (hc77 0 _ rfl)) nd ?_
   refine U.p rfl rfl (.inl rfl) (S.assign rfl (L 0 rfl rfl)) ?_
   refine U.done (nr rfl) ?_
   refine WP.usreg rfl ?_
   refine U.p rfl rfl (.inl rfl) (S.move rfl (L 0 rfl rfl)) ?_
   refine U.done (nr rfl) ?_
   refine WP.blk ?_
   refine WP.usreg rfl ?_
   refine U.p rfl rfl (.inl rfl) (S.eqlI rfl (L 0 rfl rfl) K) ?_
   refine U.p rfl rfl (.inl rfl) (S.assign rfl (L 0 rfl rfl)) ?_
   refine U.done (nr rfl) ?_
   refine WP.cond _ (L 0 rfl rfl) rfl (fun c78 => ?_) (fun c78 => ?_)
   ·have h79 := ifT c78 h66
    refine WP.ureg rfl ?_
    refine U.p (v := .pointer (some ⟨b1, 1, none⟩)) rfl rfl (.inl rfl) (S.fieldAddr rfl (L 7 rfl rfl) Tryd.underlying25 rfl ti3 rfl rfl) ?_
    refine U.k rfl rfl (.inl rfl) (S.load rfl (L 0 rfl rfl) Tryd.underlying3 rfl ((ow48.own (k := 0) rfl).cell rfl)) nd ?_
    refine U.p (v := .pointer (some ⟨b11, 1, none⟩)) rfl rfl (.inl rfl) (S.fieldAddr rfl (L 11 rfl rfl) Tryd.underlying25 rfl ti3 rfl rfl) ?_
    refine O.store (k := 2) (cs := [.int .i64 p0.d]) (c' := [.int .i64 p0.op, .int .i64 p0.d, .int .i64 x36, .int .i64 x37, .int .i64 x38]) ow48 rfl rfl rfl (.inl rfl) rfl (L 0 rfl rfl) (L 1 rfl rfl) ti3 (by simp [topV]) rfl rfl (nr rfl) rfl rfl nd (fun V80 le81 ow82 => ?_)
    refine U.done (nr rfl) ?_
    refine blkN (blkN (sqN ?_))
    exact ⟨_, V80, rfl, ⟨p0.d, x36, x37, x38, rfl, le81, ow82, h79⟩, (allCons (L 10 rfl rfl) (allCons (L 11 rfl rfl) (allCons (L 12 rfl rfl) (allCons (L 13 rfl rfl) (allCons (L 14 rfl rfl) (allCons (L 15 rfl rfl) allNil))))))⟩
   ·have h83 := ifF c78 h66
    refine WP.usreg rfl ?_
    refine U.p rfl rfl (.inl rfl) (S.eqlI rfl (L 2 rfl rfl) K) ?_
    refine U.p rfl rfl (.inl rfl) (S.assign rfl (L 0 rfl rfl)) ?_
    refine U.done (nr rfl) ?_
    refine WP.cond _ (L 0 rfl rfl) rfl (fun c84 => ?_) (fun c84 => ?_)
    ·have h85 := ifT c84 h83
     refine WP.ureg rfl ?_
     refine U.p (v := .pointer (some ⟨b1, 2, none⟩)) rfl rfl (.inl rfl) (S.fieldAddr rfl (L 9 rfl rfl) Tryd.underlying25 rfl ti3 rfl rfl) ?_
     refine U.k rfl rfl (.inl rfl) (S.load rfl (L 0 rfl rfl) Tryd.underlying3 rfl ((ow48.own (k := 0) rfl).cell rfl)) nd ?_
     refine U.p (v := .pointer (some ⟨b11, 2, none⟩)) rfl rfl (.inl rfl) (S.fieldAddr rfl (L 13 rfl rfl) Tryd.underlying25 rfl ti3 rfl rfl) ?_
     refine O.store (k := 2) (cs := [.int .i64 p0.a]) (c' := [.int .i64 p0.op, .int .i64 x35, .int .i64 p0.a, .int .i64 x37, .int .i64 x38]) ow48 rfl rfl rfl (.inl rfl) rfl (L 0 rfl rfl) (L 1 rfl rfl) ti3 (by simp [topV]) rfl rfl (nr rfl) rfl rfl nd (fun V86 le87 ow88 => ?_)
     refine U.done (nr rfl) ?_
     refine blkN (blkN (sqN ?_))
     exact ⟨_, V86, rfl, ⟨x35, p0.a, x37, x38, rfl, le87, ow88, h85⟩, (allCons (L 12 rfl rfl) (allCons (L 13 rfl rfl) (allCons (L 14 rfl rfl) (allCons (L 15 rfl rfl) (allCons (L 16 rfl rfl) (allCons (L 17 rfl rfl) allNil))))))⟩
    ·have h89 := ifF c84 h83
     refine WP.usreg rfl ?_
     refine U.p rfl rfl (.inl rfl) (S.eqlI rfl (L 4 rfl rfl) K) ?_
     refine U.p rfl rfl (.inl rfl) (S.assign rfl (L 0 rfl rfl)) ?_
     refine U.done (nr rfl) ?_
     refine WP.cond _ (L 0 rfl rfl) rfl (fun c90 => ?_) (fun c90 => ?_)
     ·have h91 := ifT c90 h89
      refine WP.ureg rfl ?_
      refine U.p (v := .pointer (some ⟨b1, 3, none⟩)) rfl rfl (.inl rfl) (S.fieldAddr rfl (L 11 rfl rfl) Tryd.underlying25 rfl ti3 rfl rfl) ?_
      refine U.k rfl rfl (.inl rfl) (S.load rfl (L 0 rfl rfl) Tryd.underlying3 rfl ((ow48.own (k := 0) rfl).cell rfl)) nd ?_
      refine U.p (v := .pointer (some ⟨b11, 3, none⟩)) rfl rfl (.inl rfl) (S.fieldAddr rfl (L 15 rfl rfl) Tryd.underlying25 rfl ti3 rfl rfl) ?_
      refine O.store (k := 2) (cs := [.int .i64 p0.b]) (c' := [.int .i64 p0.op, .int .i64 x35, .int .i64 x36, .int .i64 p0.b, .int .i64 x38]) ow48 rfl rfl rfl (.inl rfl) rfl (L 0 rfl rfl) (L 1 rfl rfl) ti3 (by simp [topV]) rfl rfl (nr rfl) rfl rfl nd (fun V92 le93 ow94 => ?_)
      refine U.done (nr rfl) ?_
      refine blkN (blkN (sqN ?_))
      exact ⟨_, V92, rfl, ⟨x35, x36, p0.b, x38, rfl, le93, ow94, h91⟩, (allCons (L 14 rfl rfl) (allCons (L 15 rfl rfl) (allCons (L 16 rfl rfl) (allCons (L 17 rfl rfl) (allCons (L 18 rfl rfl) (allCons (L 19 rfl rfl) allNil))))))⟩
     ·have h95 := ifF c90 h89
      refine WP.usreg rfl ?_
      refine U.p rfl rfl (.inl rfl) (S.eqlI rfl (L 6 rfl rfl) K) ?_
      refine U.p rfl rfl (.inl rfl) (S.assign rfl (L 0 rfl rfl)) ?_
      refine U.done (nr rfl) ?_
      refine WP.cond _ (L 0 rfl rfl) rfl (fun c96 => ?_) (fun c96 => ?_)
      ·have h97 := ifT c96 h95
       refine WP.udreg rfl rfl rfl ?_
       refine U.p (v := .pointer (some ⟨b1, 1, none⟩)) rfl rfl (.inl rfl) (S.fieldAddr rfl (L 13 rfl rfl) Tryd.underlying25 rfl ti3 rfl rfl) ?_
       refine U.k rfl rfl (.inl rfl) (S.load rfl (L 0 rfl rfl) Tryd.underlying3 rfl ((ow48.own (k := 0) rfl).cell rfl)) (fun _ => (okH.nil (fun r h => by cases h; exact (ow48.own (k := 0) rfl).lt))) ?_
       refine U.p (v := .pointer (some ⟨b1, 2, none⟩)) rfl rfl (.inl rfl) (S.fieldAddr rfl (L 15 rfl rfl) Tryd.underlying25 rfl ti3 rfl rfl) ?_
       refine U.k rfl rfl (.inl rfl) (S.load rfl (L 0 rfl rfl) Tryd.underlying3 rfl ((ow48.own (k := 0) rfl).cell rfl)) (fun _ => (okH.cons trivial (okH.nil (fun r h => by cases h; exact (ow48.own (k := 0) rfl).lt)))) ?_
       refine U.p (v := .pointer (some ⟨b11, 1, none⟩)) rfl rfl (.inl rfl) (S.fieldAddr rfl (L 19 rfl rfl) Tryd.underlying25 rfl ti3 rfl rfl) ?_
       refine O.store (k := 2) (cs := [.int .i64 p0.d]) (c' := [.int .i64 p0.op, .int .i64 p0.d, .int .i64 x36, .int .i64 x37, .int .i64 x38]) ow48 rfl rfl rfl (.inl rfl) rfl (L 0 rfl rfl) (L 3 rfl rfl) ti3 (by simp [topV]) rfl rfl (nr rfl) rfl rfl (fun _ => (okH.cons (Or.inr (upd_same (ow48.nept (j := 0) (k := 2) rfl rfl (by decide)))) (okH.cons (Or.inl rfl) (okH.nil (fun r h => nomatch h))))) (fun V98 le99 ow100 => ?_)
       refine U.p (v := .pointer (some ⟨b11, 2, none⟩)) rfl rfl (.inl rfl) (S.fieldAddr rfl (L 20 rfl rfl) Tryd.underlying25 rfl ti3 rfl rfl) ?_
       refine O.store (k := 2) (cs := [.int .i64 p0.a]) (c' := [.int .i64 p0.op, .int .i64 p0.d, .int .i64 p0.a, .int .i64 x37, .int .i64 x38]) ow100 rfl rfl rfl (.inl rfl) rfl (L 0 rfl rfl) (L 2 rfl rfl) ti3 (by simp [topV]) rfl rfl (nr rfl) rfl rfl (fun _ => (okH.cons rfl (okH.cons (Or.inl rfl) (okH.cons (Or.inl rfl) (okH.nil (fun r h => nomatch h)))))) (fun V101 le102 ow103 => ?_)
       refine U.done (nr rfl) ?_
       refine blkN (blkN (sqN ?_))
       exact ⟨_, V101, rfl, ⟨p0.d, p0.a, x37, x38, rfl, (le99.trans le102), ow103, h97⟩, (allCons (L 19 rfl rfl) (allCons (L 20 rfl rfl) (allCons (L 21 rfl rfl) (allCons (L 22 rfl rfl) (allCons (L 23 rfl rfl) (allCons (L 24 rfl rfl) allNil))))))⟩
      ·have h104 := ifF c96 h95
       refine WP.ureg rfl ?_
       refine U.p (v := .pointer (some ⟨b1, 4, none⟩)) rfl rfl (.inl rfl) (S.fieldAddr rfl (L 13 rfl rfl) Tryd.underlying25 rfl ti3 rfl rfl) ?_
       refine U.k rfl rfl (.inl rfl) (S.load rfl (L 0 rfl rfl) Tryd.underlying3 rfl ((ow48.own (k := 0) rfl).cell rfl)) nd ?_
       refine U.p (v := .pointer (some ⟨b11, 4, none⟩)) rfl rfl (.inl rfl) (S.fieldAddr rfl (L 17 rfl rfl) Tryd.underlying25 rfl ti3 rfl rfl) ?_
       refine O.store (k := 2) (cs := [.int .i64 p0.imm]) (c' := [.int .i64 p0.op, .int .i64 x35, .int .i64 x36, .int .i64 x37, .int .i64 p0.imm]) ow48 rfl rfl rfl (.inl rfl) rfl (L 0 rfl rfl) (L 1 rfl rfl) ti3 (by simp [topV]) rfl rfl (nr rfl) rfl rfl nd (fun V105 le106 ow107 => ?_)
       refine U.done (nr rfl) ?_
       refine blkN (blkN (sqN ?_))
       exact ⟨_, V105, rfl, ⟨x35, x36, x37, p0.imm, rfl, le106, ow107, h104⟩, (allCons (L 16 rfl rfl) (allCons (L 17 rfl rfl) (allCons (L 18 rfl rfl) (allCons (L 19 rfl rfl) (allCons (L 20 rfl rfl) (allCons (L 21 rfl rfl) allNil))))))⟩
 ·have h108 := ifF c54 h53
  refine WP.exit ?_
  refine sqE (sqE (blkE (sqN ?_)))
  have h109 := exitS h108 e51
  refine WP.usreg rfl ?_
  refine U.k rfl rfl (.inl rfl) (S.loadB rfl (L 3 rfl rfl) Tryd.underlying25 rfl ti25 (ow48.own (k := 2) rfl).get rfl) nd ?_
  refine O.store (k := 1) (cs := [.int .i64 p0.op, .int .i64 x35, .int .i64 x36, .int .i64 x37, .int .i64 x38]) (c' := [.int .i64 p0.op, .int .i64 x35, .int .i64 x36, .int .i64 x37, .int .i64 x38]) ow48 rfl rfl rfl (.inl rfl) rfl (L 3 rfl rfl) (L 0 rfl rfl) ti25 (by simp [topV]) rfl rfl (nr rfl) rfl rfl nd (fun V110 le111 ow112 => ?_)
  refine U.done (nr rfl) ?_
  refine WP.ret ?_
  refine fin.cellN (.inr rfl) rfl (L 3 rfl rfl) Tryd.underlying25 rfl ti25 (ow112.own (k := 1) rfl).get rfl ⟨V110, rfl, ((((((le3.trans le8).trans le13).trans le17).trans le32).trans le47).trans le111), ?_⟩
  have ow113 := ow112.drop 0 rfl
  have ow114 := ow113.drop 0 rfl
  have ow115 := ow114.drop 0 rfl
  have ow116 := ow115.drop 0 rfl
  have e117 := Option.some.inj h109
  subst e117
  exact ⟨rfl, ow116⟩
set_option maxHeartbeats 4000000 in
set_option maxRecDepth 10000 in
theorem wk_isa_register (V : Vw) (Rs : List At) (gl : Glb V) (p0 : Int) (ow : Ow V (Rs)) (r : Bool) (h : isa_register p0 = some r) : ∃ v V', Cl Tryd.prog NG 42 #[.int .i64 p0] V.H v V'.H ∧ V.le V' ∧ (v = .bool r ∧ Ow V' (Rs)) := by
 refine Ct.of gl.lo Tryd.func42 rfl (nr rfl) ?_
 unfold isa_register at h
 refine WP.usreg rfl ?_
 refine U.p rfl rfl (.inl rfl) (S.assign rfl K) ?_
 refine U.done (nr rfl) ?_
 refine WP.usreg rfl ?_
 refine U.p rfl rfl (.inl rfl) (S.move rfl (L 1 rfl rfl)) ?_
 refine U.p rfl rfl (.inl rfl) (S.geq rfl (L 0 rfl rfl) K) ?_
 refine U.p rfl rfl (.inl rfl) (S.move rfl (L 0 rfl rfl)) ?_
 refine U.joinX 6 (fun e H => ∃ (u1 u2 : Value), H = V.H ∧ e = [(8, .bool ((decide (0 ≤ p0)) && (decide (p0 < 32)))), (7, u1), (6, u2)]) ?_ ?_
 ·rintro _ _ ⟨u1, u2, rfl, rfl⟩
  refine U.p rfl rfl (.inl rfl) (S.assign rfl (L 0 rfl rfl)) ?_
  refine U.done (nr rfl) ?_
  refine WP.ret ?_
  refine fin.slot (.inr rfl) rfl (L 0 rfl rfl) ⟨V, rfl, (.refl _), ?_⟩
  have e6 := Option.some.inj h
  subst e6
  exact ⟨rfl, ow⟩
 ·intro kk
  refine bcase (b := decide (0 ≤ p0)) (fun g7 => ?_) (fun g7 => ?_)
  ·skip
   refine U.p rfl rfl (.inr ⟨_, _, _, rfl, rfl, ((L 0 rfl rfl).trans (congrArg Value.bool g7))⟩) (S.move rfl (L 4 rfl rfl)) ?_
   refine U.p rfl rfl (.inr ⟨_, _, _, rfl, rfl, ((L 1 rfl rfl).trans (congrArg Value.bool g7))⟩) (S.lss rfl (L 0 rfl rfl) K) ?_
   refine U.p rfl rfl (.inl rfl) (S.pickT rfl ((L 2 rfl rfl).trans (congrArg Value.bool g7)) (L 0 rfl rfl)) ?_
   exact kk [(8, .bool (decide (p0 < 32))), (7, .bool (decide (p0 < 32))), (6, .int .i64 p0)] _ ⟨.bool (decide (p0 < 32)), .int .i64 p0, rfl, (by rw [g7, Bool.true_and])⟩
  ·skip
   refine U.x rfl rfl rfl rfl ((L 0 rfl rfl).trans (congrArg Value.bool g7)) (by decide) ?_
   refine U.x rfl rfl rfl rfl ((L 1 rfl rfl).trans (congrArg Value.bool g7)) (by decide) ?_
   refine U.p rfl rfl (.inl rfl) (S.pickF rfl ((L 2 rfl rfl).trans (congrArg Value.bool g7)) K) ?_
   exact kk [(8, .bool false), (7, .tuple #[]), (6, .tuple #[])] _ ⟨.tuple #[], .tuple #[], rfl, (by rw [g7, Bool.false_and])⟩
set_option maxHeartbeats 4000000 in
set_option maxRecDepth 10000 in
theorem wk_word_Fits (V : Vw) (Rs : List At) (gl : Glb V) (p0 : Int) (p1 : Int) (ow : Ow V (Rs)) (r : Bool) (h : word_Fits p0 p1 = some r) : ∃ v V', Cl Tryd.prog NG 43 #[.int .i64 p0, .int .i64 p1] V.H v V'.H ∧ V.le V' ∧ (v = .bool r ∧ Ow V' (Rs)) := by
 refine Ct.of gl.lo Tryd.func43 rfl (nr rfl) ?_
 unfold word_Fits at h
 refine WP.usreg rfl ?_
 refine U.p rfl rfl (.inl rfl) (S.assign rfl K) ?_
 refine U.done (nr rfl) ?_
 refine WP.seq ?_
 refine WP.usreg rfl ?_
 refine U.p rfl rfl (.inl rfl) (S.move rfl (L 2 rfl rfl)) ?_
 refine U.p rfl rfl (.inl rfl) (S.lss rfl (L 0 rfl rfl) K) ?_
 refine U.done (nr rfl) ?_
 refine WP.cond _ (L 0 rfl rfl) rfl (fun c1 => ?_) (fun c1 => ?_)
 ·have h2 := ifT c1 h
  refine WP.usreg rfl ?_
  refine U.p rfl rfl (.inl rfl) (S.assign rfl K) ?_
  refine U.done (nr rfl) ?_
  refine WP.ret ?_
  refine sqR ?_
  refine fin.slot (.inr rfl) rfl (L 0 rfl rfl) ⟨V, rfl, (.refl _), ?_⟩
  have e3 := Option.some.inj h2
  subst e3
  exact ⟨rfl, ow⟩
 ·have h4 := ifF c1 h
  refine WP.skip ?_
  refine sqN ?_
  refine WP.seq ?_
  refine WP.usreg rfl ?_
  refine U.p rfl rfl (.inl rfl) (S.move rfl (L 4 rfl rfl)) ?_
  refine U.p rfl rfl (.inl rfl) (S.gtr rfl (L 0 rfl rfl) K) ?_
  refine U.done (nr rfl) ?_
  refine WP.cond _ (L 0 rfl rfl) rfl (fun c5 => ?_) (fun c5 => ?_)
  ·have h6 := ifT c5 h4
   refine WP.usreg rfl ?_
   refine U.p rfl rfl (.inl rfl) (S.assign rfl K) ?_
   refine U.done (nr rfl) ?_
   refine WP.ret ?_
   refine sqR ?_
   refine fin.slot (.inr rfl) rfl (L 0 rfl rfl) ⟨V, rfl, (.refl _), ?_⟩
   have e7 := Option.some.inj h6
   subst e7
   exact ⟨rfl, ow⟩
  ·have h8 := ifF c5 h4
   refine WP.skip ?_
   refine sqN ?_
   refine WP.usreg rfl ?_
   refine U.p rfl rfl (.inl rfl) (S.move rfl (L 5 rfl rfl)) ?_
   refine U.p rfl rfl (.inl rfl) (S.move rfl (L 7 rfl rfl)) ?_
   refine U.p rfl rfl (.inl rfl) (S.sub rfl (L 0 rfl rfl) K) ?_
   obtain ⟨x9, hx10, h11⟩ := bindS h8
   refine U.p rfl rfl (.inl rfl) (S.shl hx10 rfl K (L 0 rfl rfl)) ?_
   refine U.p rfl rfl (.inl rfl) (S.geq rfl (L 3 rfl rfl) (L 0 rfl rfl)) ?_
   refine U.p rfl rfl (.inl rfl) (S.move rfl (L 0 rfl rfl)) ?_
   obtain ⟨y12, hy13, h14⟩ := bindS h11
   refine U.joinX 12 (fun e H => ∃ (u15 u16 u17 u18 u19 : Value), H = V.H ∧ e = [(20, .bool y12), (19, u15), (18, u16), (17, u17), (16, u18), (15, u19)]) ?_ ?_
   ·rintro _ _ ⟨u15, u16, u17, u18, u19, rfl, rfl⟩
    refine U.p rfl rfl (.inl rfl) (S.assign rfl (L 0 rfl rfl)) ?_
    refine U.done (nr rfl) ?_
    refine WP.ret ?_
    refine fin.slot (.inr rfl) rfl (L 0 rfl rfl) ⟨V, rfl, (.refl _), ?_⟩
    have e23 := Option.some.inj h14
    subst e23
    exact ⟨rfl, ow⟩
   ·intro kk
    refine bcase (b := decide (x9 ≤ p0)) (fun g24 => ?_) (fun g24 => ?_)
    ·have h25 := ifT g24 hy13
     refine U.p rfl rfl (.inr ⟨_, _, _, rfl, rfl, ((L 0 rfl rfl).trans (congrArg Value.bool g24))⟩) (S.move rfl (L 11 rfl rfl)) ?_
     refine U.p rfl rfl (.inr ⟨_, _, _, rfl, rfl, ((L 1 rfl rfl).trans (congrArg Value.bool g24))⟩) (S.move rfl (L 13 rfl rfl)) ?_
     refine U.p rfl rfl (.inr ⟨_, _, _, rfl, rfl, ((L 2 rfl rfl).trans (congrArg Value.bool g24))⟩) (S.sub rfl (L 0 rfl rfl) K) ?_
     obtain ⟨x26, hx27, h28⟩ := bindS h25
     refine U.p rfl rfl (.inr ⟨_, _, _, rfl, rfl, ((L 3 rfl rfl).trans (congrArg Value.bool g24))⟩) (S.shl hx27 rfl K (L 0 rfl rfl)) ?_
     refine U.p rfl rfl (.inr ⟨_, _, _, rfl, rfl, ((L 4 rfl rfl).trans (congrArg Value.bool g24))⟩) (S.lss rfl (L 3 rfl rfl) (L 0 rfl rfl)) ?_
     refine U.p rfl rfl (.inl rfl) (S.pickT rfl ((L 5 rfl rfl).trans (congrArg Value.bool g24)) (L 0 rfl rfl)) ?_
     have e29 := Option.some.inj h28
     subst e29
     exact kk [(20, .bool (decide (p0 < x26))), (19, .bool (decide (p0 < x26))), (18, .int .i64 x26), (17, .int .i64 (w64 (p1 - 1))), (16, .int .i64 p1), (15, .int .i64 p0)] _ ⟨.bool (decide (p0 < x26)), .int .i64 x26, .int .i64 (w64 (p1 - 1)), .int .i64 p1, .int .i64 p0, rfl, rfl⟩
    ·have h30 := ifF g24 hy13
     refine U.x rfl rfl rfl rfl ((L 0 rfl rfl).trans (congrArg Value.bool g24)) (by decide) ?_
     refine U.x rfl rfl rfl rfl ((L 1 rfl rfl).trans (congrArg Value.bool g24)) (by decide) ?_
     refine U.x rfl rfl rfl rfl ((L 2 rfl rfl).trans (congrArg Value.bool g24)) (by decide) ?_
     refine U.x rfl rfl rfl rfl ((L 3 rfl rfl).trans (congrArg Value.bool g24)) (by decide) ?_
     refine U.x rfl rfl rfl rfl ((L 4 rfl rfl).trans (congrArg Value.bool g24)) (by decide) ?_
     refine U.p rfl rfl (.inl rfl) (S.pickF rfl ((L 5 rfl rfl).trans (congrArg Value.bool g24)) K) ?_
     have e31 := Option.some.inj h30
     subst e31
     exact kk [(20, .bool false), (19, .tuple #[]), (18, .tuple #[]), (17, .tuple #[]), (16, .tuple #[]), (15, .tuple #[])] _ ⟨.tuple #[], .tuple #[], .tuple #[], .tuple #[], .tuple #[], rfl, rfl⟩
set_option maxHeartbeats 4000000 in
set_option maxRecDepth 10000 in
theorem wk_isa_part (V : Vw) (Rs : List At) (gl : Glb V) (p0 : Int) (p1 : TInst) (b1 : Nat) (z2 : Nat) (ow : Ow V (.pt b1 (.cells z2 [.int .i64 p1.op, .int .i64 p1.d, .int .i64 p1.a, .int .i64 p1.b, .int .i64 p1.imm]) :: Rs)) (r : Int × Int × Int × Bool) (h : isa_part p0 p1 = some r) : ∃ v V', Cl Tryd.prog NG 27 #[.int .u8 p0, .pointer (some ⟨b1, 0, none⟩)] V.H v V'.H ∧ V.le V' ∧ (v = .tuple #[.int .i64 r.1, .int .i64 r.2.1, .int .i64 r.2.2.1, .bool r.2.2.2] ∧ Ow V' (.pt b1 (.cells z2 [.int .i64 p1.op, .int .i64 p1.d, .int .i64 p1.a, .int .i64 p1.b, .int .i64 p1.imm]) :: Rs)) := by
 refine Ct.of gl.lo Tryd.func27 rfl (nr rfl) ?_
 unfold isa_part at h
 refine WP.usreg rfl ?_
 refine U.p rfl rfl (.inl rfl) (S.assign rfl K) ?_
 refine U.p rfl rfl (.inl rfl) (S.assign rfl K) ?_
 refine U.p rfl rfl (.inl rfl) (S.assign rfl K) ?_
 refine U.p rfl rfl (.inl rfl) (S.assign rfl K) ?_
 refine U.done (nr rfl) ?_
 refine WP.seq ?_
 refine WP.usreg rfl ?_
 refine U.p rfl rfl (.inl rfl) (S.move rfl (L 4 rfl rfl)) ?_
 refine U.done (nr rfl) ?_
 refine WP.blk ?_
 refine WP.usreg rfl ?_
 refine U.p rfl rfl (.inl rfl) (S.eqlI rfl (L 0 rfl rfl) K) ?_
 refine U.p rfl rfl (.inl rfl) (S.assign rfl (L 0 rfl rfl)) ?_
 refine U.done (nr rfl) ?_
 refine WP.cond _ (L 0 rfl rfl) rfl (fun c4 => ?_) (fun c4 => ?_)
 ·have h5 := ifT c4 h
  refine WP.usdreg rfl rfl rfl ?_
  refine U.p rfl rfl (.inl rfl) (S.move rfl (L 8 rfl rfl)) ?_
  refine U.p rfl rfl (.inl rfl) (S.nilCheck rfl (L 0 rfl rfl)) ?_
  refine U.p (v := .pointer (some ⟨b1, 1, none⟩)) rfl rfl (.inl rfl) (S.fieldAddr rfl (L 0 rfl rfl) Tryd.underlying25 rfl ti3 rfl rfl) ?_
  refine U.k rfl rfl (.inl rfl) (S.load rfl (L 0 rfl rfl) Tryd.underlying3 rfl ((ow.own (k := 0) rfl).cell rfl)) (fun _ => (okH.nil (fun r h => by cases h; exact (ow.own (k := 0) rfl).lt))) ?_
  refine U.p rfl rfl (.inl rfl) (S.move rfl (L 12 rfl rfl)) ?_
  refine U.p rfl rfl (.inl rfl) (S.nilCheck rfl (L 0 rfl rfl)) ?_
  refine U.p (v := .pointer (some ⟨b1, 1, none⟩)) rfl rfl (.inl rfl) (S.fieldAddr rfl (L 0 rfl rfl) Tryd.underlying25 rfl ti3 rfl rfl) ?_
  refine U.k rfl rfl (.inl rfl) (S.load rfl (L 0 rfl rfl) Tryd.underlying3 rfl ((ow.own (k := 0) rfl).cell rfl)) (fun _ => (okH.cons trivial (okH.nil (fun r h => by cases h; exact (ow.own (k := 0) rfl).lt)))) ?_
  obtain ⟨x6, hx7, h8⟩ := bindS h5
  refine O.call (V := V) rfl rfl (.inl rfl) rfl en42 (aC (L 0 rfl rfl) aN) (wk_isa_register V _ gl p1.d ow _ hx7) (fun v9 V10 le11 hp12 => by obtain ⟨rfl, ow13⟩ := hp12; exact (fun _ => (okH.cons (Or.inl rfl) (okH.cons (Or.inr (((ow13.own (k := 0) rfl).get.trans (ow.own (k := 0) rfl).get.symm))) (okH.nil (fun r h => nomatch h)))))) (fun v9 V10 le11 hp12 => ?_)
  obtain ⟨rfl, ow13⟩ := hp12
  refine U.p rfl rfl (.inl rfl) (S.assign rfl K) ?_
  refine U.p rfl rfl (.inl rfl) (S.assign rfl K) ?_
  refine U.p rfl rfl (.inl rfl) (S.assign rfl (L 7 rfl rfl)) ?_
  refine U.p rfl rfl (.inl rfl) (S.assign rfl (L 3 rfl rfl)) ?_
  refine U.done (nr rfl) ?_
  refine WP.ret ?_
  refine blkR (sqR ?_)
  refine fin.slots' (.inr rfl) (fsC (L 3 rfl rfl) (fsC (L 2 rfl rfl) (fsC (L 1 rfl rfl) (fsC (L 0 rfl rfl) fsN)))) rfl ⟨V10, rfl, le11, ?_⟩
  have e14 := Option.some.inj h8
  subst e14
  exact ⟨rfl, ow13⟩
 ·have h15 := ifF c4 h
  refine WP.usreg rfl ?_
  refine U.p rfl rfl (.inl rfl) (S.eqlI rfl (L 2 rfl rfl) K) ?_
  refine U.p rfl rfl (.inl rfl) (S.assign rfl (L 0 rfl rfl)) ?_
  refine U.done (nr rfl) ?_
  refine WP.cond _ (L 0 rfl rfl) rfl (fun c16 => ?_) (fun c16 => ?_)
  ·have h17 := ifT c16 h15
   refine WP.usdreg rfl rfl rfl ?_
   refine U.p rfl rfl (.inl rfl) (S.move rfl (L 10 rfl rfl)) ?_
   refine U.p rfl rfl (.inl rfl) (S.nilCheck rfl (L 0 rfl rfl)) ?_
   refine U.p (v := .pointer (some ⟨b1, 2, none⟩)) rfl rfl (.inl rfl) (S.fieldAddr rfl (L 0 rfl rfl) Tryd.underlying25 rfl ti3 rfl rfl) ?_
   refine U.k rfl rfl (.inl rfl) (S.load rfl (L 0 rfl rfl) Tryd.underlying3 rfl ((ow.own (k := 0) rfl).cell rfl)) (fun _ => (okH.nil (fun r h => by cases h; exact (ow.own (k := 0) rfl).lt))) ?_
   refine U.p rfl rfl (.inl rfl) (S.move rfl (L 14 rfl rfl)) ?_
   refine U.p rfl rfl (.inl rfl) (S.nilCheck rfl (L 0 rfl rfl)) ?_
   refine U.p (v := .pointer (some ⟨b1, 2, none⟩)) rfl rfl (.inl rfl) (S.fieldAddr rfl (L 0 rfl rfl) Tryd.underlying25 rfl ti3 rfl rfl) ?_
   refine U.k rfl rfl (.inl rfl) (S.load rfl (L 0 rfl rfl) Tryd.underlying3 rfl ((ow.own (k := 0) rfl).cell rfl)) (fun _ => (okH.cons trivial (okH.nil (fun r h => by cases h; exact (ow.own (k := 0) rfl).lt)))) ?_
   obtain ⟨x18, hx19, h20⟩ := bindS h17
   refine O.call (V := V) rfl rfl (.inl rfl) rfl en42 (aC (L 0 rfl rfl) aN) (wk_isa_register V _ gl p1.a ow _ hx19) (fun v21 V22 le23 hp24 => by obtain ⟨rfl, ow25⟩ := hp24; exact (fun _ => (okH.cons (Or.inl rfl) (okH.cons (Or.inr (((ow25.own (k := 0) rfl).get.trans (ow.own (k := 0) rfl).get.symm))) (okH.nil (fun r h => nomatch h)))))) (fun v21 V22 le23 hp24 => ?_)
   obtain ⟨rfl, ow25⟩ := hp24
   refine U.p rfl rfl (.inl rfl) (S.assign rfl K) ?_
   refine U.p rfl rfl (.inl rfl) (S.assign rfl K) ?_
   refine U.p rfl rfl (.inl rfl) (S.assign rfl (L 7 rfl rfl)) ?_
   refine U.p rfl rfl (.inl rfl) (S.assign rfl (L 3 rfl rfl)) ?_
   refine U.done (nr rfl) ?_
   refine WP.ret ?_
   refine blkR (sqR ?_)
   refine fin.slots' (.inr rfl) (fsC (L 3 rfl rfl) (fsC (L 2 rfl rfl) (fsC (L 1 rfl rfl) (fsC (L 0 rfl rfl) fsN)))) rfl ⟨V22, rfl, le23, ?_⟩
   have e26 := Option.some.inj h20
   subst e26
   exact ⟨rfl, ow25⟩
  ·have h27 := ifF c16 h15
   refine WP.usreg rfl ?_
   refine U.p rfl rfl (.inl rfl) (S.eqlI rfl (L 4 rfl rfl) K) ?_
   refine U.p rfl rfl (.inl rfl) (S.assign rfl (L 0 rfl rfl)) ?_
   refine U.done (nr rfl) ?_
   refine WP.cond _ (L 0 rfl rfl) rfl (fun c28 => ?_) (fun c28 => ?_)
   ·have h29 := ifT c28 h27
    refine WP.usdreg rfl rfl rfl ?_
    refine U.p rfl rfl (.inl rfl) (S.move rfl (L 12 rfl rfl)) ?_
    refine U.p rfl rfl (.inl rfl) (S.nilCheck rfl (L 0 rfl rfl)) ?_
    refine U.p (v := .pointer (some ⟨b1, 3, none⟩)) rfl rfl (.inl rfl) (S.fieldAddr rfl (L 0 rfl rfl) Tryd.underlying25 rfl ti3 rfl rfl) ?_
    refine U.k rfl rfl (.inl rfl) (S.load rfl (L 0 rfl rfl) Tryd.underlying3 rfl ((ow.own (k := 0) rfl).cell rfl)) (fun _ => (okH.nil (fun r h => by cases h; exact (ow.own (k := 0) rfl).lt))) ?_
    refine U.p rfl rfl (.inl rfl) (S.move rfl (L 16 rfl rfl)) ?_
    refine U.p rfl rfl (.inl rfl) (S.nilCheck rfl (L 0 rfl rfl)) ?_
    refine U.p (v := .pointer (some ⟨b1, 3, none⟩)) rfl rfl (.inl rfl) (S.fieldAddr rfl (L 0 rfl rfl) Tryd.underlying25 rfl ti3 rfl rfl) ?_
    refine U.k rfl rfl (.inl rfl) (S.load rfl (L 0 rfl rfl) Tryd.underlying3 rfl ((ow.own (k := 0) rfl).cell rfl)) (fun _ => (okH.cons trivial (okH.nil (fun r h => by cases h; exact (ow.own (k := 0) rfl).lt)))) ?_
    obtain ⟨x30, hx31, h32⟩ := bindS h29
    refine O.call (V := V) rfl rfl (.inl rfl) rfl en42 (aC (L 0 rfl rfl) aN) (wk_isa_register V _ gl p1.b ow _ hx31) (fun v33 V34 le35 hp36 => by obtain ⟨rfl, ow37⟩ := hp36; exact (fun _ => (okH.cons (Or.inl rfl) (okH.cons (Or.inr (((ow37.own (k := 0) rfl).get.trans (ow.own (k := 0) rfl).get.symm))) (okH.nil (fun r h => nomatch h)))))) (fun v33 V34 le35 hp36 => ?_)
    obtain ⟨rfl, ow37⟩ := hp36
    refine U.p rfl rfl (.inl rfl) (S.assign rfl K) ?_
    refine U.p rfl rfl (.inl rfl) (S.assign rfl K) ?_
    refine U.p rfl rfl (.inl rfl) (S.assign rfl (L 7 rfl rfl)) ?_
    refine U.p rfl rfl (.inl rfl) (S.assign rfl (L 3 rfl rfl)) ?_
    refine U.done (nr rfl) ?_
    refine WP.ret ?_
    refine blkR (sqR ?_)
    refine fin.slots' (.inr rfl) (fsC (L 3 rfl rfl) (fsC (L 2 rfl rfl) (fsC (L 1 rfl rfl) (fsC (L 0 rfl rfl) fsN)))) rfl ⟨V34, rfl, le35, ?_⟩
    have e38 := Option.some.inj h32
    subst e38
    exact ⟨rfl, ow37⟩
   ·have h39 := ifF c28 h27
    refine WP.usreg rfl ?_
    refine U.p rfl rfl (.inl rfl) (S.eqlI rfl (L 6 rfl rfl) K) ?_
    refine U.p rfl rfl (.inl rfl) (S.assign rfl (L 0 rfl rfl)) ?_
    refine U.done (nr rfl) ?_
    refine WP.cond _ (L 0 rfl rfl) rfl (fun c40 => ?_) (fun c40 => ?_)
    ·have h41 := ifT c40 h39
     refine WP.usdreg rfl rfl rfl ?_
     refine U.p rfl rfl (.inl rfl) (S.move rfl (L 14 rfl rfl)) ?_
     refine U.p rfl rfl (.inl rfl) (S.nilCheck rfl (L 0 rfl rfl)) ?_
     refine U.p (v := .pointer (some ⟨b1, 4, none⟩)) rfl rfl (.inl rfl) (S.fieldAddr rfl (L 0 rfl rfl) Tryd.underlying25 rfl ti3 rfl rfl) ?_
     refine U.k rfl rfl (.inl rfl) (S.load rfl (L 0 rfl rfl) Tryd.underlying3 rfl ((ow.own (k := 0) rfl).cell rfl)) (fun _ => (okH.nil (fun r h => by cases h; exact (ow.own (k := 0) rfl).lt))) ?_
     refine U.p rfl rfl (.inl rfl) (S.move rfl (L 18 rfl rfl)) ?_
     refine U.p rfl rfl (.inl rfl) (S.nilCheck rfl (L 0 rfl rfl)) ?_
     refine U.p (v := .pointer (some ⟨b1, 4, none⟩)) rfl rfl (.inl rfl) (S.fieldAddr rfl (L 0 rfl rfl) Tryd.underlying25 rfl ti3 rfl rfl) ?_
     refine U.k rfl rfl (.inl rfl) (S.load rfl (L 0 rfl rfl) Tryd.underlying3 rfl ((ow.own (k := 0) rfl).cell rfl)) (fun _ => (okH.cons trivial (okH.nil (fun r h => by cases h; exact (ow.own (k := 0) rfl).lt)))) ?_
     obtain ⟨x42, hx43, h44⟩ := bindS h41
     refine O.call (V := V) rfl rfl (.inl rfl) rfl en43 (aC (L 0 rfl rfl) (aC K aN)) (wk_word_Fits V _ gl p1.imm 16 ow _ hx43) (fun v45 V46 le47 hp48 => by obtain ⟨rfl, ow49⟩ := hp48; exact (fun _ => (okH.cons (Or.inl rfl) (okH.cons (Or.inr (((ow49.own (k := 0) rfl).get.trans (ow.own (k := 0) rfl).get.symm))) (okH.nil (fun r h => nomatch h)))))) (fun v45 V46 le47 hp48 => ?_)
     obtain ⟨rfl, ow49⟩ := hp48
     refine U.p rfl rfl (.inl rfl) (S.assign rfl K) ?_
     refine U.p rfl rfl (.inl rfl) (S.assign rfl K) ?_
     refine U.p rfl rfl (.inl rfl) (S.assign rfl (L 7 rfl rfl)) ?_
     refine U.p rfl rfl (.inl rfl) (S.assign rfl (L 3 rfl rfl)) ?_
     refine U.done (nr rfl) ?_
     refine WP.ret ?_
     refine blkR (sqR ?_)
     refine fin.slots' (.inr rfl) (fsC (L 3 rfl rfl) (fsC (L 2 rfl rfl) (fsC (L 1 rfl rfl) (fsC (L 0 rfl rfl) fsN)))) rfl ⟨V46, rfl, le47, ?_⟩
     have e50 := Option.some.inj h44
     subst e50
     exact ⟨rfl, ow49⟩
    ·have h51 := ifF c40 h39
     refine WP.usreg rfl ?_
     refine U.p rfl rfl (.inl rfl) (S.eqlI rfl (L 8 rfl rfl) K) ?_
     refine U.p rfl rfl (.inl rfl) (S.assign rfl (L 0 rfl rfl)) ?_
     refine U.done (nr rfl) ?_
     refine WP.cond _ (L 0 rfl rfl) rfl (fun c52 => ?_) (fun c52 => ?_)
     ·have h53 := ifT c52 h51
      refine WP.seqI (fun l V' => ∃ (x54 : Int) (x55 : Bool), l = [(4, .int .i64 16), (5, .int .i64 14), (6, .int .i64 x54), (7, .bool x55)] ∧ V.le V' ∧ Ow V' (.pt b1 (.cells z2 [.int .i64 p1.op, .int .i64 p1.d, .int .i64 p1.a, .int .i64 p1.b, .int .i64 p1.imm]) :: Rs) ∧ isa_part_k1 x54 x55 = some r) ?_ ?_
      ·rintro _ V56 ⟨x54, x55, rfl, le57, ow58, h59⟩
       unfold isa_part_k1 at h59
       refine WP.ret ?_
       refine blkR (sqR ?_)
       refine fin.slots' (.inr rfl) (fsC (L 0 rfl rfl) (fsC (L 1 rfl rfl) (fsC (L 2 rfl rfl) (fsC (L 3 rfl rfl) fsN)))) rfl ⟨V56, rfl, le57, ?_⟩
       have e60 := Option.some.inj h59
       subst e60
       exact ⟨rfl, ow58⟩
      ·skip
       refine WP.udreg rfl rfl rfl ?_
       refine U.p rfl rfl (.inl rfl) (S.move rfl (L 16 rfl rfl)) ?_
       refine U.p rfl rfl (.inl rfl) (S.nilCheck rfl (L 0 rfl rfl)) ?_
       refine U.p (v := .pointer (some ⟨b1, 4, none⟩)) rfl rfl (.inl rfl) (S.fieldAddr rfl (L 0 rfl rfl) Tryd.underlying25 rfl ti3 rfl rfl) ?_
       refine U.k rfl rfl (.inl rfl) (S.load rfl (L 0 rfl rfl) Tryd.underlying3 rfl ((ow.own (k := 0) rfl).cell rfl)) (fun _ => (okH.nil (fun r h => by cases h; exact (ow.own (k := 0) rfl).lt))) ?_
       obtain ⟨x61, hx62, h63⟩ := bindS h53
       refine U.p rfl rfl (.inl rfl) (S.shr hx62 rfl (L 0 rfl rfl) K) ?_
       refine U.p rfl rfl (.inl rfl) (S.move rfl (L 21 rfl rfl)) ?_
       refine U.p rfl rfl (.inl rfl) (S.nilCheck rfl (L 0 rfl rfl)) ?_
       refine U.p (v := .pointer (some ⟨b1, 4, none⟩)) rfl rfl (.inl rfl) (S.fieldAddr rfl (L 0 rfl rfl) Tryd.underlying25 rfl ti3 rfl rfl) ?_
       refine U.k rfl rfl (.inl rfl) (S.load rfl (L 0 rfl rfl) Tryd.underlying3 rfl ((ow.own (k := 0) rfl).cell rfl)) (fun _ => (okH.cons trivial (okH.nil (fun r h => by cases h; exact (ow.own (k := 0) rfl).lt)))) ?_
       obtain ⟨x64, hx65, h66⟩ := bindS h63
       refine O.call (V := V) rfl rfl (.inl rfl) rfl en43 (aC (L 0 rfl rfl) (aC K aN)) (wk_word_Fits V _ gl p1.imm 16 ow _ hx65) (fun v67 V68 le69 hp70 => by obtain ⟨rfl, ow71⟩ := hp70; exact (fun _ => (okH.cons (Or.inl rfl) (okH.cons (Or.inr (((ow71.own (k := 0) rfl).get.trans (ow.own (k := 0) rfl).get.symm))) (okH.nil (fun r h => nomatch h)))))) (fun v67 V68 le69 hp70 => ?_)
       obtain ⟨rfl, ow71⟩ := hp70
       refine U.p rfl rfl (.inl rfl) (S.move rfl (L 0 rfl rfl)) ?_
       refine bcase (b := x64) (fun g72 => ?_) (fun g72 => ?_)
       ·have h73 := ifT g72 h66
        refine U.p rfl rfl (.inr ⟨_, _, _, rfl, rfl, ((L 0 rfl rfl).trans (congrArg Value.bool g72))⟩) (S.move rfl (L 27 rfl rfl)) ?_
        refine U.p rfl rfl (.inr ⟨_, _, _, rfl, rfl, ((L 1 rfl rfl).trans (congrArg Value.bool g72))⟩) (S.nilCheck rfl (L 0 rfl rfl)) ?_
        refine U.p (v := .pointer (some ⟨b1, 4, none⟩)) rfl rfl (.inr ⟨_, _, _, rfl, rfl, ((L 2 rfl rfl).trans (congrArg Value.bool g72))⟩) (S.fieldAddr rfl (L 0 rfl rfl) Tryd.underlying25 rfl ti3 rfl rfl) ?_
        refine U.k rfl rfl (.inr ⟨_, _, _, rfl, rfl, ((L 3 rfl rfl).trans (congrArg Value.bool g72))⟩) (S.load rfl (L 0 rfl rfl) Tryd.underlying3 rfl ((ow71.own (k := 0) rfl).cell rfl)) (fun _ => (okH.cons (Or.inl rfl) (okH.cons trivial (okH.cons trivial (okH.nil (fun r h => by cases h; exact (ow71.own (k := 0) rfl).lt)))))) ?_
        refine U.p rfl rfl (.inr ⟨_, _, _, rfl, rfl, ((L 4 rfl rfl).trans (congrArg Value.bool g72))⟩) (S.andI rfl (L 0 rfl rfl) K) ?_
        refine U.p rfl rfl (.inr ⟨_, _, _, rfl, rfl, ((L 5 rfl rfl).trans (congrArg Value.bool g72))⟩) (S.eqlI rfl (L 0 rfl rfl) K) ?_
        refine U.p rfl rfl (.inl rfl) (S.pickT rfl ((L 6 rfl rfl).trans (congrArg Value.bool g72)) (L 0 rfl rfl)) ?_
        refine U.p rfl rfl (.inl rfl) (S.assign rfl K) ?_
        refine U.p rfl rfl (.inl rfl) (S.assign rfl K) ?_
        refine U.p rfl rfl (.inl rfl) (S.assign rfl (L 15 rfl rfl)) ?_
        refine U.p rfl rfl (.inl rfl) (S.assign rfl (L 3 rfl rfl)) ?_
        refine U.done (nr rfl) ?_
        refine sqN ?_
        exact ⟨_, V68, rfl, ⟨x61, decide ((andB .i64 p1.imm 3) = 0), rfl, le69, ow71, h73⟩, (allCons (L 3 rfl rfl) (allCons (L 2 rfl rfl) (allCons (L 1 rfl rfl) (allCons (L 0 rfl rfl) allNil))))⟩
       ·have h74 := ifF g72 h66
        refine U.x rfl rfl rfl rfl ((L 0 rfl rfl).trans (congrArg Value.bool g72)) (by decide) ?_
        refine U.x rfl rfl rfl rfl ((L 1 rfl rfl).trans (congrArg Value.bool g72)) (by decide) ?_
        refine U.x rfl rfl rfl rfl ((L 2 rfl rfl).trans (congrArg Value.bool g72)) (by decide) ?_
        refine U.x rfl rfl rfl rfl ((L 3 rfl rfl).trans (congrArg Value.bool g72)) (by decide) ?_
        refine U.x rfl rfl rfl rfl ((L 4 rfl rfl).trans (congrArg Value.bool g72)) (by decide) ?_
        refine U.x rfl rfl rfl rfl ((L 5 rfl rfl).trans (congrArg Value.bool g72)) (by decide) ?_
        refine U.p rfl rfl (.inl rfl) (S.pickF rfl ((L 6 rfl rfl).trans (congrArg Value.bool g72)) K) ?_
        refine U.p rfl rfl (.inl rfl) (S.assign rfl K) ?_
        refine U.p rfl rfl (.inl rfl) (S.assign rfl K) ?_
        refine U.p rfl rfl (.inl rfl) (S.assign rfl (L 15 rfl rfl)) ?_
        refine U.p rfl rfl (.inl rfl) (S.assign rfl (L 3 rfl rfl)) ?_
        refine U.done (nr rfl) ?_
        refine sqN ?_
        exact ⟨_, V68, rfl, ⟨x61, false, rfl, le69, ow71, h74⟩, (allCons (L 3 rfl rfl) (allCons (L 2 rfl rfl) (allCons (L 1 rfl rfl) (allCons (L 0 rfl rfl) allNil))))⟩
     ·have h75 := ifF c52 h51
      refine WP.usreg rfl ?_
      refine U.p rfl rfl (.inl rfl) (S.eqlI rfl (L 10 rfl rfl) K) ?_
      refine U.p rfl rfl (.inl rfl) (S.assign rfl (L 0 rfl rfl)) ?_
      refine U.done (nr rfl) ?_
      refine WP.cond _ (L 0 rfl rfl) rfl (fun c76 => ?_) (fun c76 => ?_)
      ·have h77 := ifT c76 h75
       refine WP.usdreg rfl rfl rfl ?_
       refine U.p rfl rfl (.inl rfl) (S.move rfl (L 18 rfl rfl)) ?_
       refine U.p rfl rfl (.inl rfl) (S.nilCheck rfl (L 0 rfl rfl)) ?_
       refine U.p (v := .pointer (some ⟨b1, 4, none⟩)) rfl rfl (.inl rfl) (S.fieldAddr rfl (L 0 rfl rfl) Tryd.underlying25 rfl ti3 rfl rfl) ?_
       refine U.k rfl rfl (.inl rfl) (S.load rfl (L 0 rfl rfl) Tryd.underlying3 rfl ((ow.own (k := 0) rfl).cell rfl)) (fun _ => (okH.nil (fun r h => by cases h; exact (ow.own (k := 0) rfl).lt))) ?_
       refine U.p rfl rfl (.inl rfl) (S.move rfl (L 22 rfl rfl)) ?_
       refine U.p rfl rfl (.inl rfl) (S.nilCheck rfl (L 0 rfl rfl)) ?_
       refine U.p (v := .pointer (some ⟨b1, 4, none⟩)) rfl rfl (.inl rfl) (S.fieldAddr rfl (L 0 rfl rfl) Tryd.underlying25 rfl ti3 rfl rfl) ?_
       refine U.k rfl rfl (.inl rfl) (S.load rfl (L 0 rfl rfl) Tryd.underlying3 rfl ((ow.own (k := 0) rfl).cell rfl)) (fun _ => (okH.cons trivial (okH.nil (fun r h => by cases h; exact (ow.own (k := 0) rfl).lt)))) ?_
       obtain ⟨x78, hx79, h80⟩ := bindS h77
       refine O.call (V := V) rfl rfl (.inl rfl) rfl en43 (aC (L 0 rfl rfl) (aC K aN)) (wk_word_Fits V _ gl p1.imm 14 ow _ hx79) (fun v81 V82 le83 hp84 => by obtain ⟨rfl, ow85⟩ := hp84; exact (fun _ => (okH.cons (Or.inl rfl) (okH.cons (Or.inr (((ow85.own (k := 0) rfl).get.trans (ow.own (k := 0) rfl).get.symm))) (okH.nil (fun r h => nomatch h)))))) (fun v81 V82 le83 hp84 => ?_)
       obtain ⟨rfl, ow85⟩ := hp84
       refine U.p rfl rfl (.inl rfl) (S.assign rfl K) ?_
       refine U.p rfl rfl (.inl rfl) (S.assign rfl K) ?_
       refine U.p rfl rfl (.inl rfl) (S.assign rfl (L 7 rfl rfl)) ?_
       refine U.p rfl rfl (.inl rfl) (S.assign rfl (L 3 rfl rfl)) ?_
       refine U.done (nr rfl) ?_
       refine WP.ret ?_
       refine blkR (sqR ?_)
       refine fin.slots' (.inr rfl) (fsC (L 3 rfl rfl) (fsC (L 2 rfl rfl) (fsC (L 1 rfl rfl) (fsC (L 0 rfl rfl) fsN)))) rfl ⟨V82, rfl, le83, ?_⟩
       have e86 := Option.some.inj h80
       subst e86
       exact ⟨rfl, ow85⟩
      ·have h87 := ifF c76 h75
       refine WP.usreg rfl ?_
       refine U.p rfl rfl (.inl rfl) (S.eqlI rfl (L 12 rfl rfl) K) ?_
       refine U.p rfl rfl (.inl rfl) (S.assign rfl (L 0 rfl rfl)) ?_
       refine U.done (nr rfl) ?_
       refine WP.cond _ (L 0 rfl rfl) rfl (fun c88 => ?_) (fun c88 => ?_)
       ·have h89 := ifT c88 h87
        refine WP.usdreg rfl rfl rfl ?_
        refine U.p rfl rfl (.inl rfl) (S.move rfl (L 20 rfl rfl)) ?_
        refine U.p rfl rfl (.inl rfl) (S.nilCheck rfl (L 0 rfl rfl)) ?_
        refine U.p (v := .pointer (some ⟨b1, 4, none⟩)) rfl rfl (.inl rfl) (S.fieldAddr rfl (L 0 rfl rfl) Tryd.underlying25 rfl ti3 rfl rfl) ?_
        refine U.k rfl rfl (.inl rfl) (S.load rfl (L 0 rfl rfl) Tryd.underlying3 rfl ((ow.own (k := 0) rfl).cell rfl)) (fun _ => (okH.nil (fun r h => by cases h; exact (ow.own (k := 0) rfl).lt))) ?_
        refine U.p rfl rfl (.inl rfl) (S.move rfl (L 24 rfl rfl)) ?_
        refine U.p rfl rfl (.inl rfl) (S.nilCheck rfl (L 0 rfl rfl)) ?_
        refine U.p (v := .pointer (some ⟨b1, 4, none⟩)) rfl rfl (.inl rfl) (S.fieldAddr rfl (L 0 rfl rfl) Tryd.underlying25 rfl ti3 rfl rfl) ?_
        refine U.k rfl rfl (.inl rfl) (S.load rfl (L 0 rfl rfl) Tryd.underlying3 rfl ((ow.own (k := 0) rfl).cell rfl)) (fun _ => (okH.cons trivial (okH.nil (fun r h => by cases h; exact (ow.own (k := 0) rfl).lt)))) ?_
        obtain ⟨x90, hx91, h92⟩ := bindS h89
        refine O.call (V := V) rfl rfl (.inl rfl) rfl en43 (aC (L 0 rfl rfl) (aC K aN)) (wk_word_Fits V _ gl p1.imm 24 ow _ hx91) (fun v93 V94 le95 hp96 => by obtain ⟨rfl, ow97⟩ := hp96; exact (fun _ => (okH.cons (Or.inl rfl) (okH.cons (Or.inr (((ow97.own (k := 0) rfl).get.trans (ow.own (k := 0) rfl).get.symm))) (okH.nil (fun r h => nomatch h)))))) (fun v93 V94 le95 hp96 => ?_)
        obtain ⟨rfl, ow97⟩ := hp96
        refine U.p rfl rfl (.inl rfl) (S.assign rfl K) ?_
        refine U.p rfl rfl (.inl rfl) (S.assign rfl K) ?_
        refine U.p rfl rfl (.inl rfl) (S.assign rfl (L 7 rfl rfl)) ?_
        refine U.p rfl rfl (.inl rfl) (S.assign rfl (L 3 rfl rfl)) ?_
        refine U.done (nr rfl) ?_
        refine WP.ret ?_
        refine blkR (sqR ?_)
        refine fin.slots' (.inr rfl) (fsC (L 3 rfl rfl) (fsC (L 2 rfl rfl) (fsC (L 1 rfl rfl) (fsC (L 0 rfl rfl) fsN)))) rfl ⟨V94, rfl, le95, ?_⟩
        have e98 := Option.some.inj h92
        subst e98
        exact ⟨rfl, ow97⟩
       ·have h99 := ifF c88 h87
        refine WP.skip ?_
        refine blkN (sqN ?_)
        refine WP.seqI (fun l V' => ∃ (x100 : Int) (x101 : Bool), l = [(4, .int .i64 6), (5, .int .i64 10), (6, .int .i64 x100), (7, .bool x101)] ∧ V.le V' ∧ Ow V' (.pt b1 (.cells z2 [.int .i64 p1.op, .int .i64 p1.d, .int .i64 p1.a, .int .i64 p1.b, .int .i64 p1.imm]) :: Rs) ∧ isa_part_k2 x100 x101 = some r) ?_ ?_
        ·rintro _ V102 ⟨x100, x101, rfl, le103, ow104, h105⟩
         unfold isa_part_k2 at h105
         refine WP.ret ?_
         refine fin.slots' (.inr rfl) (fsC (L 0 rfl rfl) (fsC (L 1 rfl rfl) (fsC (L 2 rfl rfl) (fsC (L 3 rfl rfl) fsN)))) rfl ⟨V102, rfl, le103, ?_⟩
         have e106 := Option.some.inj h105
         subst e106
         exact ⟨rfl, ow104⟩
        ·skip
         refine WP.udreg rfl rfl rfl ?_
         refine U.p rfl rfl (.inl rfl) (S.move rfl (L 20 rfl rfl)) ?_
         refine U.p rfl rfl (.inl rfl) (S.nilCheck rfl (L 0 rfl rfl)) ?_
         refine U.p (v := .pointer (some ⟨b1, 1, none⟩)) rfl rfl (.inl rfl) (S.fieldAddr rfl (L 0 rfl rfl) Tryd.underlying25 rfl ti3 rfl rfl) ?_
         refine U.k rfl rfl (.inl rfl) (S.load rfl (L 0 rfl rfl) Tryd.underlying3 rfl ((ow.own (k := 0) rfl).cell rfl)) (fun _ => (okH.nil (fun r h => by cases h; exact (ow.own (k := 0) rfl).lt))) ?_
         obtain ⟨x107, hx108, h109⟩ := bindS h99
         refine U.p rfl rfl (.inl rfl) (S.shl hx108 rfl (L 0 rfl rfl) K) ?_
         refine U.p rfl rfl (.inl rfl) (S.move rfl (L 25 rfl rfl)) ?_
         refine U.p rfl rfl (.inl rfl) (S.nilCheck rfl (L 0 rfl rfl)) ?_
         refine U.p (v := .pointer (some ⟨b1, 2, none⟩)) rfl rfl (.inl rfl) (S.fieldAddr rfl (L 0 rfl rfl) Tryd.underlying25 rfl ti3 rfl rfl) ?_
         refine U.k rfl rfl (.inl rfl) (S.load rfl (L 0 rfl rfl) Tryd.underlying3 rfl ((ow.own (k := 0) rfl).cell rfl)) (fun _ => (okH.cons trivial (okH.nil (fun r h => by cases h; exact (ow.own (k := 0) rfl).lt)))) ?_
         refine U.p rfl rfl (.inl rfl) (S.orI rfl (L 4 rfl rfl) (L 0 rfl rfl)) ?_
         refine U.p rfl rfl (.inl rfl) (S.move rfl (L 30 rfl rfl)) ?_
         refine U.p rfl rfl (.inl rfl) (S.nilCheck rfl (L 0 rfl rfl)) ?_
         refine U.p (v := .pointer (some ⟨b1, 1, none⟩)) rfl rfl (.inl rfl) (S.fieldAddr rfl (L 0 rfl rfl) Tryd.underlying25 rfl ti3 rfl rfl) ?_
         refine U.k rfl rfl (.inl rfl) (S.load rfl (L 0 rfl rfl) Tryd.underlying3 rfl ((ow.own (k := 0) rfl).cell rfl)) (fun _ => (okH.cons trivial (okH.cons trivial (okH.nil (fun r h => by cases h; exact (ow.own (k := 0) rfl).lt))))) ?_
         refine U.p rfl rfl (.inl rfl) (S.eqlI rfl (L 0 rfl rfl) K) ?_
         refine U.p rfl rfl (.inl rfl) (S.move rfl (L 0 rfl rfl)) ?_
         refine bcase (b := decide (p1.d = 4)) (fun g110 => ?_) (fun g110 => ?_)
         ·have h111 := ifT g110 h109
          refine U.x rfl rfl rfl rfl ((L 0 rfl rfl).trans (congrArg Value.bool g110)) (by decide) ?_
          refine U.x rfl rfl rfl rfl ((L 1 rfl rfl).trans (congrArg Value.bool g110)) (by decide) ?_
          refine U.x rfl rfl rfl rfl ((L 2 rfl rfl).trans (congrArg Value.bool g110)) (by decide) ?_
          refine U.x rfl rfl rfl rfl ((L 3 rfl rfl).trans (congrArg Value.bool g110)) (by decide) ?_
          refine U.x rfl rfl rfl rfl ((L 4 rfl rfl).trans (congrArg Value.bool g110)) (by decide) ?_
          refine U.p rfl rfl (.inl rfl) (S.pickT rfl ((L 5 rfl rfl).trans (congrArg Value.bool g110)) K) ?_
          refine U.p rfl rfl (.inl rfl) (S.move rfl (L 0 rfl rfl)) ?_
          refine U.p rfl rfl (.inr ⟨_, _, _, rfl, rfl, (L 0 rfl rfl)⟩) (S.move rfl (L 43 rfl rfl)) ?_
          refine U.p rfl rfl (.inr ⟨_, _, _, rfl, rfl, (L 1 rfl rfl)⟩) (S.nilCheck rfl (L 0 rfl rfl)) ?_
          refine U.p (v := .pointer (some ⟨b1, 2, none⟩)) rfl rfl (.inr ⟨_, _, _, rfl, rfl, (L 2 rfl rfl)⟩) (S.fieldAddr rfl (L 0 rfl rfl) Tryd.underlying25 rfl ti3 rfl rfl) ?_
          refine U.k rfl rfl (.inr ⟨_, _, _, rfl, rfl, (L 3 rfl rfl)⟩) (S.load rfl (L 0 rfl rfl) Tryd.underlying3 rfl ((ow.own (k := 0) rfl).cell rfl)) (fun _ => (okH.cons trivial (okH.cons trivial (okH.cons trivial (okH.nil (fun r h => by cases h; exact (ow.own (k := 0) rfl).lt)))))) ?_
          refine U.p rfl rfl (.inr ⟨_, _, _, rfl, rfl, (L 4 rfl rfl)⟩) (S.geq rfl (L 0 rfl rfl) K) ?_
          refine U.p rfl rfl (.inl rfl) (S.pickT rfl (L 5 rfl rfl) (L 0 rfl rfl)) ?_
          refine U.p rfl rfl (.inl rfl) (S.move rfl (L 0 rfl rfl)) ?_
          refine bcase (b := decide (0 ≤ p1.a)) (fun g112 => ?_) (fun g112 => ?_)
          ·have h113 := ifT g112 h111
           refine U.p rfl rfl (.inr ⟨_, _, _, rfl, rfl, ((L 0 rfl rfl).trans (congrArg Value.bool g112))⟩) (S.move rfl (L 50 rfl rfl)) ?_
           refine U.p rfl rfl (.inr ⟨_, _, _, rfl, rfl, ((L 1 rfl rfl).trans (congrArg Value.bool g112))⟩) (S.nilCheck rfl (L 0 rfl rfl)) ?_
           refine U.p (v := .pointer (some ⟨b1, 2, none⟩)) rfl rfl (.inr ⟨_, _, _, rfl, rfl, ((L 2 rfl rfl).trans (congrArg Value.bool g112))⟩) (S.fieldAddr rfl (L 0 rfl rfl) Tryd.underlying25 rfl ti3 rfl rfl) ?_
           refine U.k rfl rfl (.inr ⟨_, _, _, rfl, rfl, ((L 3 rfl rfl).trans (congrArg Value.bool g112))⟩) (S.load rfl (L 0 rfl rfl) Tryd.underlying3 rfl ((ow.own (k := 0) rfl).cell rfl)) (fun _ => (okH.cons trivial (okH.cons trivial (okH.cons trivial (okH.cons trivial (okH.nil (fun r h => by cases h; exact (ow.own (k := 0) rfl).lt))))))) ?_
           refine U.p rfl rfl (.inr ⟨_, _, _, rfl, rfl, ((L 4 rfl rfl).trans (congrArg Value.bool g112))⟩) (S.lss rfl (L 0 rfl rfl) K) ?_
           refine U.p rfl rfl (.inl rfl) (S.pickT rfl ((L 5 rfl rfl).trans (congrArg Value.bool g112)) (L 0 rfl rfl)) ?_
           refine U.p rfl rfl (.inl rfl) (S.assign rfl K) ?_
           refine U.p rfl rfl (.inl rfl) (S.assign rfl K) ?_
           refine U.p rfl rfl (.inl rfl) (S.assign rfl (L 28 rfl rfl)) ?_
           refine U.p rfl rfl (.inl rfl) (S.assign rfl (L 3 rfl rfl)) ?_
           refine U.done (nr rfl) ?_
           refine sqN ?_
           exact ⟨_, V, rfl, ⟨orB .i64 x107 p1.a, decide (p1.a < 3), rfl, (.refl _), ow, h113⟩, (allCons (L 3 rfl rfl) (allCons (L 2 rfl rfl) (allCons (L 1 rfl rfl) (allCons (L 0 rfl rfl) allNil))))⟩
          ·have h114 := ifF g112 h111
           refine U.x rfl rfl rfl rfl ((L 0 rfl rfl).trans (congrArg Value.bool g112)) (by decide) ?_
           refine U.x rfl rfl rfl rfl ((L 1 rfl rfl).trans (congrArg Value.bool g112)) (by decide) ?_
           refine U.x rfl rfl rfl rfl ((L 2 rfl rfl).trans (congrArg Value.bool g112)) (by decide) ?_
           refine U.x rfl rfl rfl rfl ((L 3 rfl rfl).trans (congrArg Value.bool g112)) (by decide) ?_
           refine U.x rfl rfl rfl rfl ((L 4 rfl rfl).trans (congrArg Value.bool g112)) (by decide) ?_
           refine U.p rfl rfl (.inl rfl) (S.pickF rfl ((L 5 rfl rfl).trans (congrArg Value.bool g112)) K) ?_
           refine U.p rfl rfl (.inl rfl) (S.assign rfl K) ?_
           refine U.p rfl rfl (.inl rfl) (S.assign rfl K) ?_
           refine U.p rfl rfl (.inl rfl) (S.assign rfl (L 28 rfl rfl)) ?_
           refine U.p rfl rfl (.inl rfl) (S.assign rfl (L 3 rfl rfl)) ?_
           refine U.done (nr rfl) ?_
           refine sqN ?_
           exact ⟨_, V, rfl, ⟨orB .i64 x107 p1.a, false, rfl, (.refl _), ow, h114⟩, (allCons (L 3 rfl rfl) (allCons (L 2 rfl rfl) (allCons (L 1 rfl rfl) (allCons (L 0 rfl rfl) allNil))))⟩
         ·have h115 := ifF g110 h109
          refine U.p rfl rfl (.inr ⟨_, _, _, rfl, rfl, ((L 0 rfl rfl).trans (congrArg Value.bool g110))⟩) (S.move rfl (L 36 rfl rfl)) ?_
          refine U.p rfl rfl (.inr ⟨_, _, _, rfl, rfl, ((L 1 rfl rfl).trans (congrArg Value.bool g110))⟩) (S.nilCheck rfl (L 0 rfl rfl)) ?_
          refine U.p (v := .pointer (some ⟨b1, 1, none⟩)) rfl rfl (.inr ⟨_, _, _, rfl, rfl, ((L 2 rfl rfl).trans (congrArg Value.bool g110))⟩) (S.fieldAddr rfl (L 0 rfl rfl) Tryd.underlying25 rfl ti3 rfl rfl) ?_
          refine U.k rfl rfl (.inr ⟨_, _, _, rfl, rfl, ((L 3 rfl rfl).trans (congrArg Value.bool g110))⟩) (S.load rfl (L 0 rfl rfl) Tryd.underlying3 rfl ((ow.own (k := 0) rfl).cell rfl)) (fun _ => (okH.cons trivial (okH.cons trivial (okH.cons trivial (okH.nil (fun r h => by cases h; exact (ow.own (k := 0) rfl).lt)))))) ?_
          refine U.p rfl rfl (.inr ⟨_, _, _, rfl, rfl, ((L 4 rfl rfl).trans (congrArg Value.bool g110))⟩) (S.eqlI rfl (L 0 rfl rfl) K) ?_
          refine U.p rfl rfl (.inl rfl) (S.pickF rfl ((L 5 rfl rfl).trans (congrArg Value.bool g110)) (L 0 rfl rfl)) ?_
          refine U.p rfl rfl (.inl rfl) (S.move rfl (L 0 rfl rfl)) ?_
          refine bcase (b := decide (p1.d = 12)) (fun g116 => ?_) (fun g116 => ?_)
          ·have h117 := ifT g116 h115
           refine U.p rfl rfl (.inr ⟨_, _, _, rfl, rfl, ((L 0 rfl rfl).trans (congrArg Value.bool g116))⟩) (S.move rfl (L 43 rfl rfl)) ?_
           refine U.p rfl rfl (.inr ⟨_, _, _, rfl, rfl, ((L 1 rfl rfl).trans (congrArg Value.bool g116))⟩) (S.nilCheck rfl (L 0 rfl rfl)) ?_
           refine U.p (v := .pointer (some ⟨b1, 2, none⟩)) rfl rfl (.inr ⟨_, _, _, rfl, rfl, ((L 2 rfl rfl).trans (congrArg Value.bool g116))⟩) (S.fieldAddr rfl (L 0 rfl rfl) Tryd.underlying25 rfl ti3 rfl rfl) ?_
           refine U.k rfl rfl (.inr ⟨_, _, _, rfl, rfl, ((L 3 rfl rfl).trans (congrArg Value.bool g116))⟩) (S.load rfl (L 0 rfl rfl) Tryd.underlying3 rfl ((ow.own (k := 0) rfl).cell rfl)) (fun _ => (okH.cons trivial (okH.cons trivial (okH.cons trivial (okH.cons trivial (okH.nil (fun r h => by cases h; exact (ow.own (k := 0) rfl).lt))))))) ?_
           refine U.p rfl rfl (.inr ⟨_, _, _, rfl, rfl, ((L 4 rfl rfl).trans (congrArg Value.bool g116))⟩) (S.geq rfl (L 0 rfl rfl) K) ?_
           refine U.p rfl rfl (.inl rfl) (S.pickT rfl ((L 5 rfl rfl).trans (congrArg Value.bool g116)) (L 0 rfl rfl)) ?_
           refine U.p rfl rfl (.inl rfl) (S.move rfl (L 0 rfl rfl)) ?_
           refine bcase (b := decide (0 ≤ p1.a)) (fun g118 => ?_) (fun g118 => ?_)
           ·have h119 := ifT g118 h117
            refine U.p rfl rfl (.inr ⟨_, _, _, rfl, rfl, ((L 0 rfl rfl).trans (congrArg Value.bool g118))⟩) (S.move rfl (L 50 rfl rfl)) ?_
            refine U.p rfl rfl (.inr ⟨_, _, _, rfl, rfl, ((L 1 rfl rfl).trans (congrArg Value.bool g118))⟩) (S.nilCheck rfl (L 0 rfl rfl)) ?_
            refine U.p (v := .pointer (some ⟨b1, 2, none⟩)) rfl rfl (.inr ⟨_, _, _, rfl, rfl, ((L 2 rfl rfl).trans (congrArg Value.bool g118))⟩) (S.fieldAddr rfl (L 0 rfl rfl) Tryd.underlying25 rfl ti3 rfl rfl) ?_
            refine U.k rfl rfl (.inr ⟨_, _, _, rfl, rfl, ((L 3 rfl rfl).trans (congrArg Value.bool g118))⟩) (S.load rfl (L 0 rfl rfl) Tryd.underlying3 rfl ((ow.own (k := 0) rfl).cell rfl)) (fun _ => (okH.cons trivial (okH.cons trivial (okH.cons trivial (okH.cons trivial (okH.cons trivial (okH.nil (fun r h => by cases h; exact (ow.own (k := 0) rfl).lt)))))))) ?_
            refine U.p rfl rfl (.inr ⟨_, _, _, rfl, rfl, ((L 4 rfl rfl).trans (congrArg Value.bool g118))⟩) (S.lss rfl (L 0 rfl rfl) K) ?_
            refine U.p rfl rfl (.inl rfl) (S.pickT rfl ((L 5 rfl rfl).trans (congrArg Value.bool g118)) (L 0 rfl rfl)) ?_
            refine U.p rfl rfl (.inl rfl) (S.assign rfl K) ?_
            refine U.p rfl rfl (.inl rfl) (S.assign rfl K) ?_
            refine U.p rfl rfl (.inl rfl) (S.assign rfl (L 28 rfl rfl)) ?_
            refine U.p rfl rfl (.inl rfl) (S.assign rfl (L 3 rfl rfl)) ?_
            refine U.done (nr rfl) ?_
            refine sqN ?_
            exact ⟨_, V, rfl, ⟨orB .i64 x107 p1.a, decide (p1.a < 3), rfl, (.refl _), ow, h119⟩, (allCons (L 3 rfl rfl) (allCons (L 2 rfl rfl) (allCons (L 1 rfl rfl) (allCons (L 0 rfl rfl) allNil))))⟩
           ·have h120 := ifF g118 h117
            refine U.x rfl rfl rfl rfl ((L 0 rfl rfl).trans (congrArg Value.bool g118)) (by decide) ?_
            refine U.x rfl rfl rfl rfl ((L 1 rfl rfl).trans (congrArg Value.bool g118)) (by decide) ?_
            refine U.x rfl rfl rfl rfl ((L 2 rfl rfl).trans (congrArg Value.bool g118)) (by decide) ?_
            refine U.x rfl rfl rfl rfl ((L 3 rfl rfl).trans (congrArg Value.bool g118)) (by decide) ?_
            refine U.x rfl rfl rfl rfl ((L 4 rfl rfl).trans (congrArg Value.bool g118)) (by decide) ?_
            refine U.p rfl rfl (.inl rfl) (S.pickF rfl ((L 5 rfl rfl).trans (congrArg Value.bool g118)) K) ?_
            refine U.p rfl rfl (.inl rfl) (S.assign rfl K) ?_
            refine U.p rfl rfl (.inl rfl) (S.assign rfl K) ?_
            refine U.p rfl rfl (.inl rfl) (S.assign rfl (L 28 rfl rfl)) ?_
            refine U.p rfl rfl (.inl rfl) (S.assign rfl (L 3 rfl rfl)) ?_
            refine U.done (nr rfl) ?_
            refine sqN ?_
            exact ⟨_, V, rfl, ⟨orB .i64 x107 p1.a, false, rfl, (.refl _), ow, h120⟩, (allCons (L 3 rfl rfl) (allCons (L 2 rfl rfl) (allCons (L 1 rfl rfl) (allCons (L 0 rfl rfl) allNil))))⟩
          ·have h121 := ifF g116 h115
           refine U.x rfl rfl rfl rfl ((L 0 rfl rfl).trans (congrArg Value.bool g116)) (by decide) ?_
           refine U.x rfl rfl rfl rfl ((L 1 rfl rfl).trans (congrArg Value.bool g116)) (by decide) ?_
           refine U.x rfl rfl rfl rfl ((L 2 rfl rfl).trans (congrArg Value.bool g116)) (by decide) ?_
           refine U.x rfl rfl rfl rfl ((L 3 rfl rfl).trans (congrArg Value.bool g116)) (by decide) ?_
           refine U.x rfl rfl rfl rfl ((L 4 rfl rfl).trans (congrArg Value.bool g116)) (by decide) ?_
           refine U.p rfl rfl (.inl rfl) (S.pickF rfl ((L 5 rfl rfl).trans (congrArg Value.bool g116)) K) ?_
           refine U.p rfl rfl (.inl rfl) (S.move rfl (L 0 rfl rfl)) ?_
           refine U.x rfl rfl rfl rfl (L 0 rfl rfl) (by decide) ?_
           refine U.x rfl rfl rfl rfl (L 1 rfl rfl) (by decide) ?_
           refine U.x rfl rfl rfl rfl (L 2 rfl rfl) (by decide) ?_
           refine U.x rfl rfl rfl rfl (L 3 rfl rfl) (by decide) ?_
           refine U.x rfl rfl rfl rfl (L 4 rfl rfl) (by decide) ?_
           refine U.p rfl rfl (.inl rfl) (S.pickF rfl (L 5 rfl rfl) K) ?_
           refine U.p rfl rfl (.inl rfl) (S.assign rfl K) ?_
           refine U.p rfl rfl (.inl rfl) (S.assign rfl K) ?_
           refine U.p rfl rfl (.inl rfl) (S.assign rfl (L 28 rfl rfl)) ?_
           refine U.p rfl rfl (.inl rfl) (S.assign rfl (L 3 rfl rfl)) ?_
           refine U.done (nr rfl) ?_
           refine sqN ?_
           exact ⟨_, V, rfl, ⟨orB .i64 x107 p1.a, false, rfl, (.refl _), ow, h121⟩, (allCons (L 3 rfl rfl) (allCons (L 2 rfl rfl) (allCons (L 1 rfl rfl) (allCons (L 0 rfl rfl) allNil))))⟩
set_option maxHeartbeats 4000000 in
set_option maxRecDepth 10000 in
theorem wk_isa_Good (V : Vw) (Rs : List At) (gl : Glb V) (p0 : TInst) (ow : Ow V (Rs)) (r : Bool) (h : isa_Good p0 = some r) : ∃ v V', Cl Tryd.prog NG 14 #[.agg #[.int .i64 p0.op, .int .i64 p0.d, .int .i64 p0.a, .int .i64 p0.b, .int .i64 p0.imm]] V.H v V'.H ∧ V.le V' ∧ (v = .bool r ∧ Ow V' (Rs)) := by
 refine Ct.of gl.lo Tryd.func14 rfl (nr rfl) ?_
 unfold isa_Good at h
 refine WP.usreg rfl ?_
 refine O.box ow rfl rfl (.inl rfl) rfl (L 0 rfl rfl) (by simp [topV]) rfl nd (fun b1 V2 le3 ow4 => ?_)
 refine U.p rfl rfl (.inl rfl) (S.assign rfl K) ?_
 refine U.done (nr rfl) ?_
 refine WP.seq ?_
 refine WP.seqI (fun l V' => ∃ (x6 : Bool), l = [(1, .pointer (some ⟨b1, 0, none⟩)), (32, .bool x6)] ∧ V2.le V' ∧ Ow V' (.pt b1 (.cells 0 [.int .i64 p0.op, .int .i64 p0.d, .int .i64 p0.a, .int .i64 p0.b, .int .i64 p0.imm]) :: Rs) ∧ isa_Good_k1 p0 x6 = some r) ?_ ?_
 ·rintro _ V7 ⟨x6, rfl, le8, ow9, h10⟩
  unfold isa_Good_k1 at h10
  refine WP.cond _ (L 1 rfl rfl) rfl (fun c11 => ?_) (fun c11 => ?_)
  ·have h12 := ifT c11 h10
   refine WP.usreg rfl ?_
   refine U.p rfl rfl (.inl rfl) (S.assign rfl K) ?_
   refine U.done (nr rfl) ?_
   refine WP.ret ?_
   refine sqR ?_
   refine fin.slot (.inr rfl) rfl (L 0 rfl rfl) ⟨V7, rfl, (le3.trans le8), ?_⟩
   have ow13 := ow9.drop 0 rfl
   have e14 := Option.some.inj h12
   subst e14
   exact ⟨rfl, ow13⟩
  ·have h15 := ifF c11 h10
   refine WP.skip ?_
   refine sqN ?_
   refine WP.seq ?_
   refine WP.usreg rfl ?_
   refine U.p (v := .pointer (some ⟨b1, 0, none⟩)) rfl rfl (.inl rfl) (S.fieldAddr rfl (L 0 rfl rfl) Tryd.underlying25 rfl ti3 rfl rfl) ?_
   refine U.k rfl rfl (.inl rfl) (S.load rfl (L 0 rfl rfl) Tryd.underlying3 rfl ((ow9.own (k := 0) rfl).cell rfl)) nd ?_
   obtain ⟨x16, hx17, h18⟩ := bindS h15
   obtain ⟨_, _, _, cs19, hv20, hf21, hr22, hc23⟩ := (gl.up (le3.trans le8)).g0.at hx17
   cases hv20
   obtain rfl : cs19 = [.string x16.name, .string x16.fields, .int .u32 x16.word] := hr22
   refine U.p rfl rfl (.inl rfl) (S.indexA rfl Gl (L 0 rfl rfl) Tryd.underlying53 ti52 (ix_ge hx17) (by have q1 := ix_lt hx17; have q2 := gl0_len; omega)) ?_
   refine U.p (v := .pointer (some ⟨0, 0 + Int.toNat p0.op * 3 + 1, none⟩)) rfl rfl (.inl rfl) (S.fieldAddr rfl (L 0 rfl rfl) Tryd.underlying52 rfl ti9 rfl rfl) ?_
   refine U.k rfl rfl (.inl rfl) (S.load rfl (L 0 rfl rfl) Tryd.underlying9 rfl (hc23 1 _ rfl)) nd ?_
   obtain ⟨xs24, hx25, h26⟩ := bindS h18
   refine O.bytes ow9 rfl rfl (.inl rfl) rfl (L 0 rfl rfl) Tryd.underlying9 Tryd.underlying54 Tryd.underlying5 hx25 (fun _ => nd) (fun v27 V28 le29 ow30 => ?_)
   refine U.p rfl rfl (.inl rfl) (ow30.oslen (k := 0) rfl rfl (L 0 rfl rfl) Tryd.underlying54) ?_
   refine U.p rfl rfl (.inl rfl) (S.move rfl K) ?_
   refine U.done (nr rfl) ?_
   refine WP.blk ?_
   have ow33 := ow30.pick 0 rfl
   have ow34 := ow33.pick 1 rfl
   unfold isa_Good_l1 at h26
   obtain ⟨n36, hn35⟩ := loopO_some.1 h26
   refine WP.loopI2 (fun n l V' => ∃ (x32 : Int), l = [(1, .pointer (some ⟨b1, 0, none⟩)), (38, v27), (39, .int .i64 (xs24.length : Int)), (40, .int .i64 x32)] ∧ V28.le V' ∧ Ow V' (.pt b1 (.cells 0 [.int .i64 p0.op, .int .i64 p0.d, .int .i64 p0.a, .int .i64 p0.b, .int .i64 p0.imm]) :: .os (RT.int .u8) v27 xs24 :: Rs) ∧ itO (fun s => isa_Good_l1b p0 xs24 s) n x32 = some r) n36 _ ⟨0, rfl, .refl _, ow34, hn35⟩ (allCons (L 8 rfl rfl) (allCons (L 2 rfl rfl) (allCons (L 1 rfl rfl) (allCons (L 0 rfl rfl) allNil)))) ?_
   rintro _ _ V37 ⟨x32, rfl, le38, ow39, h43⟩
   obtain ⟨m40, q41, rfl, h44, e42⟩ := itS h43
   replace h44 : isa_Good_l1b p0 xs24 x32 = some q41 := h44
   unfold isa_Good_l1b at h44
   refine WP.usreg rfl ?_
   refine U.p rfl rfl (.inl rfl) (S.lss rfl (L 3 rfl rfl) (L 2 rfl rfl)) ?_
   refine U.done (nr rfl) ?_
   refine WP.seq ?_
   refine WP.cond _ (L 0 rfl rfl) rfl (fun c45 => ?_) (fun c45 => ?_)
   ·have h46 := ifT c45 h44
    refine WP.skip ?_
    refine sqN ?_
    refine WP.seq ?_
    refine WP.blk ?_
    refine WP.usreg rfl ?_
    obtain ⟨x47, hx48, h49⟩ := bindS h46
    obtain ⟨b50, o51, n52, c53, hv54⟩ := ow39.ospt (k := 1) rfl hx48
    obtain ⟨_, hv55, _⟩ := ow39.osel (k := 1) rfl hv54 hx48
    refine U.p rfl rfl (.inl rfl) (S.index rfl ((L 2 rfl rfl).trans hv55) (L 4 rfl rfl) Tryd.underlying54 ti5 (ix_ge hx48) (ix_lt hx48)) ?_
    obtain ⟨cs56, hv57, hlt58, hr59, hc60⟩ := ow39.osel (k := 1) rfl hv54 hx48
    obtain rfl : cs56 = [.int .u8 x47] := hr59
    refine U.k rfl rfl (.inl rfl) (S.load rfl (L 0 rfl rfl) Tryd.underlying5 rfl (hc60 0 _ rfl)) nd ?_
    refine U.p rfl rfl (.inl rfl) (S.assign rfl (L 0 rfl rfl)) ?_
    refine U.done (nr rfl) ?_
    refine WP.usreg rfl ?_
    refine U.p rfl rfl (.inl rfl) (S.move rfl (L 0 rfl rfl)) ?_
    obtain ⟨x61, hx62, h63⟩ := bindS h49
    refine O.call (V := V37) rfl rfl (.inl rfl) rfl en27 (aC (L 0 rfl rfl) (aC (L 5 rfl rfl) aN)) (wk_isa_part V37 _ (gl.up (((le3.trans le8).trans le29).trans le38)) x47 p0 b1 0 ow39 _ hx62) (fun _ _ _ _ => nd) (fun v64 V65 le66 hp67 => ?_)
    obtain ⟨rfl, ow68⟩ := hp67
    refine U.p rfl rfl (.inl rfl) (S.move rfl (L 0 rfl rfl)) ?_
    refine U.p rfl rfl (.inl rfl) (S.extract rfl (L 0 rfl rfl) rfl (nr rfl)) ?_
    refine U.p rfl rfl (.inl rfl) (S.extract rfl (L 1 rfl rfl) rfl (nr rfl)) ?_
    refine U.p rfl rfl (.inl rfl) (S.extract rfl (L 2 rfl rfl) rfl (nr rfl)) ?_
    refine U.p rfl rfl (.inl rfl) (S.extract rfl (L 3 rfl rfl) rfl (nr rfl)) ?_
    refine U.p rfl rfl (.inl rfl) (S.assign rfl (L 3 rfl rfl)) ?_
    refine U.p rfl rfl (.inl rfl) (S.assign rfl (L 3 rfl rfl)) ?_
    refine U.p rfl rfl (.inl rfl) (S.assign rfl (L 3 rfl rfl)) ?_
    refine U.p rfl rfl (.inl rfl) (S.assign rfl (L 3 rfl rfl)) ?_
    refine U.done (nr rfl) ?_
    refine WP.usreg rfl ?_
    refine U.p rfl rfl (.inl rfl) (S.move rfl (L 0 rfl rfl)) ?_
    refine U.p rfl rfl (.inl rfl) (S.not rfl (L 0 rfl rfl)) ?_
    refine U.done (nr rfl) ?_
    refine WP.cond _ (L 0 rfl rfl) rfl (fun c69 => ?_) (fun c69 => ?_)
    ·have h70 := ifT c69 h63
     have k71 : x61.2.2.2 = false := nT c69
     refine WP.usreg rfl ?_
     refine U.p rfl rfl (.inl rfl) (S.assign rfl K) ?_
     refine U.done (nr rfl) ?_
     refine WP.ret ?_
     refine blkR (sqR (sqR (blkR (sqR ?_))))
     have h72 := exitS h70 e42
     refine fin.slot (.inr rfl) rfl (L 0 rfl rfl) ⟨V65, rfl, ((((le3.trans le8).trans le29).trans le38).trans le66), ?_⟩
     have ow73 := ow68.drop 0 rfl
     have ow74 := ow73.drop 0 rfl
     have e75 := Option.some.inj h72
     subst e75
     exact ⟨rfl, ow74⟩
    ·have h76 := ifF c69 h63
     have k77 : x61.2.2.2 = true := nF c69
     refine WP.skip ?_
     refine blkN (sqN ?_)
     refine WP.ureg rfl ?_
     refine U.p rfl rfl (.inl rfl) (S.add rfl (L 20 rfl rfl) K) ?_
     refine U.p rfl rfl (.inl rfl) (S.move rfl (L 0 rfl rfl)) ?_
     refine U.done (nr rfl) ?_
     refine sqN ?_
     exact ⟨_, V65, rfl, ⟨m40, Nat.lt_succ_self _, w64 (x32 + 1), rfl, (le38.trans le66), ow68, backS h76 e42⟩, (allCons (L 19 rfl rfl) (allCons (L 20 rfl rfl) (allCons (L 21 rfl rfl) (allCons (L 0 rfl rfl) allNil))))⟩
   ·have h78 := ifF c45 h44
    refine WP.exit ?_
    refine sqE (sqE (blkE (sqN ?_)))
    have h79 := exitS h78 e42
    refine WP.usreg rfl ?_
    refine U.p rfl rfl (.inl rfl) (S.assign rfl K) ?_
    refine U.done (nr rfl) ?_
    refine WP.ret ?_
    refine fin.slot (.inr rfl) rfl (L 0 rfl rfl) ⟨V37, rfl, (((le3.trans le8).trans le29).trans le38), ?_⟩
    have ow80 := ow39.drop 0 rfl
    have ow81 := ow80.drop 0 rfl
    have e82 := Option.some.inj h79
    subst e82
    exact ⟨rfl, ow81⟩
 ·skip
  refine WP.udreg rfl rfl rfl ?_
  refine U.p (v := .pointer (some ⟨b1, 0, none⟩)) rfl rfl (.inl rfl) (S.fieldAddr rfl (L 1 rfl rfl) Tryd.underlying25 rfl ti3 rfl rfl) ?_
  refine U.k rfl rfl (.inl rfl) (S.load rfl (L 0 rfl rfl) Tryd.underlying3 rfl ((ow4.own (k := 0) rfl).cell rfl)) (fun _ => (okH.nil (fun r h => by cases h; exact (ow4.own (k := 0) rfl).lt))) ?_
  refine U.p rfl rfl (.inl rfl) (S.lss rfl (L 0 rfl rfl) K) ?_
  refine U.p rfl rfl (.inl rfl) (S.move rfl (L 0 rfl rfl)) ?_
  refine bcase (b := decide (p0.op < 1)) (fun g83 => ?_) (fun g83 => ?_)
  ·have h84 := ifT g83 h
   refine U.x rfl rfl rfl rfl ((L 0 rfl rfl).trans (congrArg Value.bool g83)) (by decide) ?_
   refine U.x rfl rfl rfl rfl ((L 1 rfl rfl).trans (congrArg Value.bool g83)) (by decide) ?_
   refine U.x rfl rfl rfl rfl ((L 2 rfl rfl).trans (congrArg Value.bool g83)) (by decide) ?_
   refine U.p rfl rfl (.inl rfl) (S.pickT rfl ((L 3 rfl rfl).trans (congrArg Value.bool g83)) K) ?_
   refine U.p rfl rfl (.inl rfl) (S.move rfl (L 0 rfl rfl)) ?_
   refine U.x rfl rfl rfl rfl (L 0 rfl rfl) (by decide) ?_
   refine U.x rfl rfl rfl rfl (L 1 rfl rfl) (by decide) ?_
   refine U.x rfl rfl rfl rfl (L 2 rfl rfl) (by decide) ?_
   refine U.x rfl rfl rfl rfl (L 3 rfl rfl) (by decide) ?_
   refine U.p rfl rfl (.inl rfl) (S.pickT rfl (L 4 rfl rfl) K) ?_
   refine U.p rfl rfl (.inl rfl) (S.move rfl (L 0 rfl rfl)) ?_
   refine U.x rfl rfl rfl rfl (L 0 rfl rfl) (by decide) ?_
   refine U.x rfl rfl rfl rfl (L 1 rfl rfl) (by decide) ?_
   refine U.x rfl rfl rfl rfl (L 2 rfl rfl) (by decide) ?_
   refine U.x rfl rfl rfl rfl (L 3 rfl rfl) (by decide) ?_
   refine U.z rfl rfl rfl rfl (L 0 rfl rfl) ?_
   refine U.z rfl rfl rfl rfl (L 1 rfl rfl) ?_
   refine U.z rfl rfl rfl rfl (L 2 rfl rfl) ?_
   refine U.x rfl rfl rfl rfl (L 7 rfl rfl) (by decide) ?_
   refine U.p rfl rfl (.inl rfl) (S.pickT rfl (L 8 rfl rfl) K) ?_
   refine U.done (nr rfl) ?_
   refine sqN ?_
   exact ⟨_, V2, rfl, ⟨true, rfl, (.refl _), ow4, h84⟩, (allCons (L 25 rfl rfl) (allCons (L 0 rfl rfl) allNil))⟩
  ·have h85 := ifF g83 h
   refine U.p (v := .pointer (some ⟨b1, 0, none⟩)) rfl rfl (.inr ⟨_, _, _, rfl, rfl, ((L 0 rfl rfl).trans (congrArg Value.bool g83))⟩) (S.fieldAddr rfl (L 5 rfl rfl) Tryd.underlying25 rfl ti3 rfl rfl) ?_
   refine U.k rfl rfl (.inr ⟨_, _, _, rfl, rfl, ((L 1 rfl rfl).trans (congrArg Value.bool g83))⟩) (S.load rfl (L 0 rfl rfl) Tryd.underlying3 rfl ((ow4.own (k := 0) rfl).cell rfl)) (fun _ => (okH.cons trivial (okH.nil (fun r h => by cases h; exact (ow4.own (k := 0) rfl).lt)))) ?_
   refine U.p rfl rfl (.inr ⟨_, _, _, rfl, rfl, ((L 2 rfl rfl).trans (congrArg Value.bool g83))⟩) (S.gtr rfl (L 0 rfl rfl) K) ?_
   refine U.p rfl rfl (.inl rfl) (S.pickF rfl ((L 3 rfl rfl).trans (congrArg Value.bool g83)) (L 0 rfl rfl)) ?_
   refine U.p rfl rfl (.inl rfl) (S.move rfl (L 0 rfl rfl)) ?_
   refine bcase (b := decide (22 < p0.op)) (fun g86 => ?_) (fun g86 => ?_)
   ·have h87 := ifT g86 h85
    refine U.x rfl rfl rfl rfl ((L 0 rfl rfl).trans (congrArg Value.bool g86)) (by decide) ?_
    refine U.x rfl rfl rfl rfl ((L 1 rfl rfl).trans (congrArg Value.bool g86)) (by decide) ?_
    refine U.x rfl rfl rfl rfl ((L 2 rfl rfl).trans (congrArg Value.bool g86)) (by decide) ?_
    refine U.x rfl rfl rfl rfl ((L 3 rfl rfl).trans (congrArg Value.bool g86)) (by decide) ?_
    refine U.p rfl rfl (.inl rfl) (S.pickT rfl ((L 4 rfl rfl).trans (congrArg Value.bool g86)) K) ?_
    refine U.p rfl rfl (.inl rfl) (S.move rfl (L 0 rfl rfl)) ?_
    refine U.x rfl rfl rfl rfl (L 0 rfl rfl) (by decide) ?_
    refine U.x rfl rfl rfl rfl (L 1 rfl rfl) (by decide) ?_
    refine U.x rfl rfl rfl rfl (L 2 rfl rfl) (by decide) ?_
    refine U.x rfl rfl rfl rfl (L 3 rfl rfl) (by decide) ?_
    refine U.z rfl rfl rfl rfl (L 0 rfl rfl) ?_
    refine U.z rfl rfl rfl rfl (L 1 rfl rfl) ?_
    refine U.z rfl rfl rfl rfl (L 2 rfl rfl) ?_
    refine U.x rfl rfl rfl rfl (L 7 rfl rfl) (by decide) ?_
    refine U.p rfl rfl (.inl rfl) (S.pickT rfl (L 8 rfl rfl) K) ?_
    refine U.done (nr rfl) ?_
    refine sqN ?_
    exact ⟨_, V2, rfl, ⟨true, rfl, (.refl _), ow4, h87⟩, (allCons (L 25 rfl rfl) (allCons (L 0 rfl rfl) allNil))⟩
   ·have h88 := ifF g86 h85
    refine U.k rfl rfl (.inr ⟨_, _, _, rfl, rfl, ((L 0 rfl rfl).trans (congrArg Value.bool g86))⟩) (S.loadB rfl (L 10 rfl rfl) Tryd.underlying25 rfl ti25 (ow4.own (k := 0) rfl).get rfl) (fun _ => (okH.cons trivial (okH.cons trivial (okH.nil (fun r h => by cases h; exact (ow4.own (k := 0) rfl).lt))))) ?_
    obtain ⟨x89, hx90, h91⟩ := bindS h88
    refine O.call (V := V2) rfl rfl (.inr ⟨_, _, _, rfl, rfl, ((L 1 rfl rfl).trans (congrArg Value.bool g86))⟩) rfl en30 (aC (L 0 rfl rfl) aN) (wk_isa_used V2 _ (gl.up le3) p0 ow4 _ hx90) (fun v92 V93 le94 hp95 => by obtain ⟨rfl, ow96⟩ := hp95; exact (fun _ => (okH.cons (Or.inl rfl) (okH.cons (Or.inl rfl) (okH.cons (Or.inl rfl) (okH.nil (fun r h => nomatch h))))))) (fun v92 V93 le94 hp95 => ?_)
    obtain ⟨rfl, ow96⟩ := hp95
    refine U.k rfl rfl (.inr ⟨_, _, _, rfl, rfl, ((L 2 rfl rfl).trans (congrArg Value.bool g86))⟩) (S.loadB rfl (L 12 rfl rfl) Tryd.underlying25 rfl ti25 (ow96.own (k := 0) rfl).get rfl) (fun _ => (okH.cons (Or.inr (Or.inl ((ow96.own (k := 0) rfl).get.trans (ow4.own (k := 0) rfl).get.symm))) (okH.cons trivial (okH.cons trivial (okH.cons trivial (okH.nil (fun r h => by cases h; exact (ow96.own (k := 0) rfl).lt))))))) ?_
    refine U.p rfl rfl (.inr ⟨_, _, _, rfl, rfl, ((L 3 rfl rfl).trans (congrArg Value.bool g86))⟩) (S.neqT (flA (flC (.int _ _) (flC (.int _ _) (flC (.int _ _) (flC (.int _ _) (flC (.int _ _) flN)))))) (flA (flC (.int _ _) (flC (.int _ _) (flC (.int _ _) (flC (.int _ _) (flC (.int _ _) flN)))))) rfl (L 1 rfl rfl) (L 0 rfl rfl) Tryd.underlying25 (by kernel_rfl) (by kernel_rfl) (.cons _ _ _ _ _ _ (by decide) (part_cell Tryd.underlying3 rfl rfl) (part_cell Tryd.underlying3 rfl rfl) (eqIn_int Tryd.underlying3 9998) (.cons _ _ _ _ _ _ (by decide) (part_cell Tryd.underlying3 rfl rfl) (part_cell Tryd.underlying3 rfl rfl) (eqIn_int Tryd.underlying3 9998) (.cons _ _ _ _ _ _ (by decide) (part_cell Tryd.underlying3 rfl rfl) (part_cell Tryd.underlying3 rfl rfl) (eqIn_int Tryd.underlying3 9998) (.cons _ _ _ _ _ _ (by decide) (part_cell Tryd.underlying3 rfl rfl) (part_cell Tryd.underlying3 rfl rfl) (eqIn_int Tryd.underlying3 9998) (.cons _ _ _ _ _ _ (by decide) (part_cell Tryd.underlying3 rfl rfl) (part_cell Tryd.underlying3 rfl rfl) (eqIn_int Tryd.underlying3 9998) .nil)))))) ?_
    refine U.p rfl rfl (.inl rfl) (S.pickF rfl ((L 4 rfl rfl).trans (congrArg Value.bool g86)) (L 0 rfl rfl)) ?_
    refine U.p rfl rfl (.inl rfl) (S.move rfl (L 0 rfl rfl)) ?_
    refine bcase (b := !((decide (x89.op = p0.op)) && ((decide (x89.d = p0.d)) && ((decide (x89.a = p0.a)) && ((decide (x89.b = p0.b)) && ((decide (x89.imm = p0.imm)) && true)))))) (fun g97 => ?_) (fun g97 => ?_)
    ·have h98 := ifT g97 h91
     have k99 : ((decide (x89.op = p0.op)) && ((decide (x89.d = p0.d)) && ((decide (x89.a = p0.a)) && ((decide (x89.b = p0.b)) && ((decide (x89.imm = p0.imm)) && true))))) = false := nT g97
     refine U.x rfl rfl rfl rfl ((L 0 rfl rfl).trans (congrArg Value.bool g97)) (by decide) ?_
     refine U.x rfl rfl rfl rfl ((L 1 rfl rfl).trans (congrArg Value.bool g97)) (by decide) ?_
     refine U.x rfl rfl rfl rfl ((L 2 rfl rfl).trans (congrArg Value.bool g97)) (by decide) ?_
     refine U.x rfl rfl rfl rfl ((L 3 rfl rfl).trans (congrArg Value.bool g97)) (by decide) ?_
     refine U.z rfl rfl rfl rfl (L 0 rfl rfl) ?_
     refine U.z rfl rfl rfl rfl (L 1 rfl rfl) ?_
     refine U.z rfl rfl rfl rfl (L 2 rfl rfl) ?_
     refine U.x rfl rfl rfl rfl ((L 7 rfl rfl).trans (congrArg Value.bool g97)) (by decide) ?_
     refine U.p rfl rfl (.inl rfl) (S.pickT rfl ((L 8 rfl rfl).trans (congrArg Value.bool g97)) K) ?_
     refine U.done (nr rfl) ?_
     refine sqN ?_
     exact ⟨_, V93, rfl, ⟨true, rfl, le94, ow96, h98⟩, (allCons (L 25 rfl rfl) (allCons (L 0 rfl rfl) allNil))⟩
    ·have h100 := ifF g97 h91
     have k101 : ((decide (x89.op = p0.op)) && ((decide (x89.d = p0.d)) && ((decide (x89.a = p0.a)) && ((decide (x89.b = p0.b)) && ((decide (x89.imm = p0.imm)) && true))))) = true := nF g97
     refine U.p (v := .pointer (some ⟨b1, 0, none⟩)) rfl rfl (.inr ⟨_, _, _, rfl, rfl, ((L 0 rfl rfl).trans (congrArg Value.bool g97))⟩) (S.fieldAddr rfl (L 16 rfl rfl) Tryd.underlying25 rfl ti3 rfl rfl) ?_
     refine U.k rfl rfl (.inr ⟨_, _, _, rfl, rfl, ((L 1 rfl rfl).trans (congrArg Value.bool g97))⟩) (S.load rfl (L 0 rfl rfl) Tryd.underlying3 rfl ((ow96.own (k := 0) rfl).cell rfl)) (fun _ => (okH.cons trivial (okH.cons (Or.inl rfl) (okH.cons trivial (okH.cons trivial (okH.cons trivial (okH.nil (fun r h => by cases h; exact (ow96.own (k := 0) rfl).lt)))))))) ?_
     refine U.p rfl rfl (.inr ⟨_, _, _, rfl, rfl, ((L 2 rfl rfl).trans (congrArg Value.bool g97))⟩) (S.eqlI rfl (L 0 rfl rfl) K) ?_
     refine U.p rfl rfl (.inr ⟨_, _, _, rfl, rfl, ((L 3 rfl rfl).trans (congrArg Value.bool g97))⟩) (S.move rfl (L 0 rfl rfl)) ?_
     refine bcase (b := decide (p0.op = 21)) (fun g102 => ?_) (fun g102 => ?_)
     ·have h103 := ifT g102 h100
      refine U.p (v := .pointer (some ⟨b1, 4, none⟩)) rfl rfl (.inr ⟨_, _, _, rfl, rfl, ((L 0 rfl rfl).trans (congrArg Value.bool g102))⟩) (S.fieldAddr rfl (L 20 rfl rfl) Tryd.underlying25 rfl ti3 rfl rfl) ?_
      refine U.k rfl rfl (.inr ⟨_, _, _, rfl, rfl, ((L 1 rfl rfl).trans (congrArg Value.bool g102))⟩) (S.load rfl (L 0 rfl rfl) Tryd.underlying3 rfl ((ow96.own (k := 0) rfl).cell rfl)) (fun _ => (okH.cons trivial (okH.cons trivial (okH.cons (Or.inl rfl) (okH.cons trivial (okH.cons trivial (okH.cons trivial (okH.nil (fun r h => by cases h; exact (ow96.own (k := 0) rfl).lt))))))))) ?_
      refine U.p rfl rfl (.inr ⟨_, _, _, rfl, rfl, ((L 2 rfl rfl).trans (congrArg Value.bool g102))⟩) (S.lss rfl (L 0 rfl rfl) K) ?_
      refine U.p rfl rfl (.inr ⟨_, _, _, rfl, rfl, ((L 7 rfl rfl).trans (congrArg Value.bool g97))⟩) (S.pickT rfl ((L 3 rfl rfl).trans (congrArg Value.bool g102)) (L 0 rfl rfl)) ?_
      refine U.p rfl rfl (.inl rfl) (S.pickF rfl ((L 8 rfl rfl).trans (congrArg Value.bool g97)) (L 0 rfl rfl)) ?_
      refine U.done (nr rfl) ?_
      refine sqN ?_
      exact ⟨_, V93, rfl, ⟨decide (p0.imm < 0), rfl, le94, ow96, h103⟩, (allCons (L 25 rfl rfl) (allCons (L 0 rfl rfl) allNil))⟩
     ·have h104 := ifF g102 h100
      refine U.x rfl rfl rfl rfl ((L 0 rfl rfl).trans (congrArg Value.bool g102)) (by decide) ?_
      refine U.x rfl rfl rfl rfl ((L 1 rfl rfl).trans (congrArg Value.bool g102)) (by decide) ?_
      refine U.x rfl rfl rfl rfl ((L 2 rfl rfl).trans (congrArg Value.bool g102)) (by decide) ?_
      refine U.p rfl rfl (.inr ⟨_, _, _, rfl, rfl, ((L 7 rfl rfl).trans (congrArg Value.bool g97))⟩) (S.pickF rfl ((L 3 rfl rfl).trans (congrArg Value.bool g102)) K) ?_
      refine U.p rfl rfl (.inl rfl) (S.pickF rfl ((L 8 rfl rfl).trans (congrArg Value.bool g97)) (L 0 rfl rfl)) ?_
      refine U.done (nr rfl) ?_
      refine sqN ?_
      exact ⟨_, V93, rfl, ⟨false, rfl, le94, ow96, h104⟩, (allCons (L 25 rfl rfl) (allCons (L 0 rfl rfl) allNil))⟩
set_option maxHeartbeats 4000000 in
set_option maxRecDepth 10000 in
theorem wk_word_mask (V : Vw) (Rs : List At) (gl : Glb V) (p0 : Int) (ow : Ow V (Rs)) (r : Int) (h : word_mask p0 = some r) : ∃ v V', Cl Tryd.prog NG 45 #[.int .i64 p0] V.H v V'.H ∧ V.le V' ∧ (v = .int .u32 r ∧ Ow V' (Rs)) := by
 refine Ct.of gl.lo Tryd.func45 rfl (nr rfl) ?_
 unfold word_mask at h
 refine WP.usreg rfl ?_
 refine U.p rfl rfl (.inl rfl) (S.assign rfl K) ?_
 refine U.done (nr rfl) ?_
 refine WP.seq ?_
 refine WP.usreg rfl ?_
 refine U.p rfl rfl (.inl rfl) (S.move rfl (L 1 rfl rfl)) ?_
 refine U.p rfl rfl (.inl rfl) (S.geq rfl (L 0 rfl rfl) K) ?_
 refine U.done (nr rfl) ?_
 refine WP.cond _ (L 0 rfl rfl) rfl (fun c1 => ?_) (fun c1 => ?_)
 ·have h2 := ifT c1 h
  refine WP.usreg rfl ?_
  refine U.p rfl rfl (.inl rfl) (S.assign rfl K) ?_
  refine U.done (nr rfl) ?_
  refine WP.ret ?_
  refine sqR ?_
  refine fin.slot (.inr rfl) rfl (L 0 rfl rfl) ⟨V, rfl, (.refl _), ?_⟩
  have e3 := Option.some.inj h2
  subst e3
  exact ⟨rfl, ow⟩
 ·have h4 := ifF c1 h
  refine WP.skip ?_
  refine sqN ?_
  refine WP.usreg rfl ?_
  refine U.p rfl rfl (.inl rfl) (S.move rfl (L 3 rfl rfl)) ?_
  refine U.p rfl rfl (.inl rfl) (S.maxI rfl (L 0 rfl rfl) K) ?_
  obtain ⟨x5, hx6, h7⟩ := bindS h4
  refine U.p rfl rfl (.inl rfl) (S.shl hx6 rfl K (L 0 rfl rfl)) ?_
  refine U.p rfl rfl (.inl rfl) (S.sub rfl (L 0 rfl rfl) K) ?_
  refine U.p rfl rfl (.inl rfl) (S.assign rfl (L 0 rfl rfl)) ?_
  refine U.done (nr rfl) ?_
  refine WP.ret ?_
  refine fin.slot (.inr rfl) rfl (L 0 rfl rfl) ⟨V, rfl, (.refl _), ?_⟩
  have e8 := Option.some.inj h7
  subst e8
  exact ⟨rfl, ow⟩
set_option maxHeartbeats 4000000 in
set_option maxRecDepth 10000 in
theorem wk_word_Bits (V : Vw) (Rs : List At) (gl : Glb V) (p0 : Int) (p1 : Int) (ow : Ow V (Rs)) (r : Int) (h : word_Bits p0 p1 = some r) : ∃ v V', Cl Tryd.prog NG 29 #[.int .i64 p0, .int .i64 p1] V.H v V'.H ∧ V.le V' ∧ (v = .int .u32 r ∧ Ow V' (Rs)) := by
 refine Ct.of gl.lo Tryd.func29 rfl (nr rfl) ?_
 unfold word_Bits at h
 refine WP.usreg rfl ?_
 refine U.p rfl rfl (.inl rfl) (S.assign rfl K) ?_
 refine U.done (nr rfl) ?_
 refine WP.usreg rfl ?_
 refine U.p rfl rfl (.inl rfl) (S.move rfl (L 1 rfl rfl)) ?_
 refine U.p rfl rfl (.inl rfl) (S.conv rfl (L 0 rfl rfl) Tryd.underlying3 Tryd.underlying22) ?_
 refine U.p rfl rfl (.inl rfl) (S.move rfl (L 4 rfl rfl)) ?_
 obtain ⟨x1, hx2, h3⟩ := bindS h
 refine O.call (V := V) rfl rfl (.inl rfl) rfl en45 (aC (L 0 rfl rfl) aN) (wk_word_mask V _ gl p1 ow _ hx2) (fun _ _ _ _ => nd) (fun v4 V5 le6 hp7 => ?_)
 obtain ⟨rfl, ow8⟩ := hp7
 refine U.p rfl rfl (.inl rfl) (S.andI rfl (L 2 rfl rfl) (L 0 rfl rfl)) ?_
 refine U.p rfl rfl (.inl rfl) (S.assign rfl (L 0 rfl rfl)) ?_
 refine U.done (nr rfl) ?_
 refine WP.ret ?_
 refine fin.slot (.inr rfl) rfl (L 0 rfl rfl) ⟨V5, rfl, le6, ?_⟩
 have e9 := Option.some.inj h3
 subst e9
 exact ⟨rfl, ow8⟩
set_option maxHeartbeats 4000000 in
set_option maxRecDepth 10000 in
theorem wk_word_good (V : Vw) (Rs : List At) (gl : Glb V) (p0 : Int) (p1 : Int) (ow : Ow V (Rs)) (r : Bool) (h : word_good p0 p1 = some r) : ∃ v V', Cl Tryd.prog NG 44 #[.int .i64 p0, .int .i64 p1] V.H v V'.H ∧ V.le V' ∧ (v = .bool r ∧ Ow V' (Rs)) := by
 refine Ct.of gl.lo Tryd.func44 rfl (nr rfl) ?_
 unfold word_good at h
 refine WP.usreg rfl ?_
 refine U.p rfl rfl (.inl rfl) (S.assign rfl K) ?_
 refine U.done (nr rfl) ?_
 refine WP.usreg rfl ?_
 refine U.p rfl rfl (.inl rfl) (S.move rfl (L 1 rfl rfl)) ?_
 refine U.p rfl rfl (.inl rfl) (S.geq rfl (L 0 rfl rfl) K) ?_
 refine U.p rfl rfl (.inl rfl) (S.move rfl (L 0 rfl rfl)) ?_
 refine U.joinX 6 (fun e H => ∃ (u1 u2 : Value), H = V.H ∧ e = [(10, .bool ((decide (0 ≤ p0)) && (decide (0 ≤ p1)))), (9, u1), (8, u2)]) ?_ ?_
 ·rintro _ _ ⟨u1, u2, rfl, rfl⟩
  refine U.p rfl rfl (.inl rfl) (S.move rfl (L 0 rfl rfl)) ?_
  refine U.joinX 10 (fun e H => ∃ (u6 u7 : Value), H = V.H ∧ e = [(14, .bool (((decide (0 ≤ p0)) && (decide (0 ≤ p1))) && (decide (p0 ≤ 32)))), (13, u6), (12, u7)]) ?_ ?_
  ·rintro _ _ ⟨u6, u7, rfl, rfl⟩
   refine U.p rfl rfl (.inl rfl) (S.move rfl (L 0 rfl rfl)) ?_
   refine U.joinX 16 (fun e H => ∃ (u11 u12 u13 u14 : Value), H = V.H ∧ e = [(20, .bool ((((decide (0 ≤ p0)) && (decide (0 ≤ p1))) && (decide (p0 ≤ 32))) && (decide (p1 ≤ (w64 (32 - p0)))))), (19, u11), (18, u12), (17, u13), (16, u14)]) ?_ ?_
   ·rintro _ _ ⟨u11, u12, u13, u14, rfl, rfl⟩
    refine U.p rfl rfl (.inl rfl) (S.assign rfl (L 0 rfl rfl)) ?_
    refine U.done (nr rfl) ?_
    refine WP.ret ?_
    refine fin.slot (.inr rfl) rfl (L 0 rfl rfl) ⟨V, rfl, (.refl _), ?_⟩
    have e18 := Option.some.inj h
    subst e18
    exact ⟨rfl, ow⟩
   ·intro kk
    refine bcase (b := ((decide (0 ≤ p0)) && (decide (0 ≤ p1))) && (decide (p0 ≤ 32))) (fun g19 => ?_) (fun g19 => ?_)
    ·skip
     refine U.p rfl rfl (.inr ⟨_, _, _, rfl, rfl, ((L 0 rfl rfl).trans (congrArg Value.bool g19))⟩) (S.move rfl (L 13 rfl rfl)) ?_
     refine U.p rfl rfl (.inr ⟨_, _, _, rfl, rfl, ((L 1 rfl rfl).trans (congrArg Value.bool g19))⟩) (S.move rfl (L 13 rfl rfl)) ?_
     refine U.p rfl rfl (.inr ⟨_, _, _, rfl, rfl, ((L 2 rfl rfl).trans (congrArg Value.bool g19))⟩) (S.sub rfl K (L 0 rfl rfl)) ?_
     refine U.p rfl rfl (.inr ⟨_, _, _, rfl, rfl, ((L 3 rfl rfl).trans (congrArg Value.bool g19))⟩) (S.leq rfl (L 2 rfl rfl) (L 0 rfl rfl)) ?_
     refine U.p rfl rfl (.inl rfl) (S.pickT rfl ((L 4 rfl rfl).trans (congrArg Value.bool g19)) (L 0 rfl rfl)) ?_
     exact kk [(20, .bool (decide (p1 ≤ (w64 (32 - p0))))), (19, .bool (decide (p1 ≤ (w64 (32 - p0))))), (18, .int .i64 (w64 (32 - p0))), (17, .int .i64 p0), (16, .int .i64 p1)] _ ⟨.bool (decide (p1 ≤ (w64 (32 - p0)))), .int .i64 (w64 (32 - p0)), .int .i64 p0, .int .i64 p1, rfl, (by rw [g19, Bool.true_and])⟩
    ·skip
     refine U.x rfl rfl rfl rfl ((L 0 rfl rfl).trans (congrArg Value.bool g19)) (by decide) ?_
     refine U.x rfl rfl rfl rfl ((L 1 rfl rfl).trans (congrArg Value.bool g19)) (by decide) ?_
     refine U.x rfl rfl rfl rfl ((L 2 rfl rfl).trans (congrArg Value.bool g19)) (by decide) ?_
     refine U.x rfl rfl rfl rfl ((L 3 rfl rfl).trans (congrArg Value.bool g19)) (by decide) ?_
     refine U.p rfl rfl (.inl rfl) (S.pickF rfl ((L 4 rfl rfl).trans (congrArg Value.bool g19)) K) ?_
     exact kk [(20, .bool false), (19, .tuple #[]), (18, .tuple #[]), (17, .tuple #[]), (16, .tuple #[])] _ ⟨.tuple #[], .tuple #[], .tuple #[], .tuple #[], rfl, (by rw [g19, Bool.false_and])⟩
  ·intro kk
   refine bcase (b := (decide (0 ≤ p0)) && (decide (0 ≤ p1))) (fun g20 => ?_) (fun g20 => ?_)
   ·skip
    refine U.p rfl rfl (.inr ⟨_, _, _, rfl, rfl, ((L 0 rfl rfl).trans (congrArg Value.bool g20))⟩) (S.move rfl (L 8 rfl rfl)) ?_
    refine U.p rfl rfl (.inr ⟨_, _, _, rfl, rfl, ((L 1 rfl rfl).trans (congrArg Value.bool g20))⟩) (S.leq rfl (L 0 rfl rfl) K) ?_
    refine U.p rfl rfl (.inl rfl) (S.pickT rfl ((L 2 rfl rfl).trans (congrArg Value.bool g20)) (L 0 rfl rfl)) ?_
    exact kk [(14, .bool (decide (p0 ≤ 32))), (13, .bool (decide (p0 ≤ 32))), (12, .int .i64 p0)] _ ⟨.bool (decide (p0 ≤ 32)), .int .i64 p0, rfl, (by rw [g20, Bool.true_and])⟩
   ·skip
    refine U.x rfl rfl rfl rfl ((L 0 rfl rfl).trans (congrArg Value.bool g20)) (by decide) ?_
    refine U.x rfl rfl rfl rfl ((L 1 rfl rfl).trans (congrArg Value.bool g20)) (by decide) ?_
    refine U.p rfl rfl (.inl rfl) (S.pickF rfl ((L 2 rfl rfl).trans (congrArg Value.bool g20)) K) ?_
    exact kk [(14, .bool false), (13, .tuple #[]), (12, .tuple #[])] _ ⟨.tuple #[], .tuple #[], rfl, (by rw [g20, Bool.false_and])⟩
 ·intro kk
  refine bcase (b := decide (0 ≤ p0)) (fun g21 => ?_) (fun g21 => ?_)
  ·skip
   refine U.p rfl rfl (.inr ⟨_, _, _, rfl, rfl, ((L 0 rfl rfl).trans (congrArg Value.bool g21))⟩) (S.move rfl (L 5 rfl rfl)) ?_
   refine U.p rfl rfl (.inr ⟨_, _, _, rfl, rfl, ((L 1 rfl rfl).trans (congrArg Value.bool g21))⟩) (S.geq rfl (L 0 rfl rfl) K) ?_
   refine U.p rfl rfl (.inl rfl) (S.pickT rfl ((L 2 rfl rfl).trans (congrArg Value.bool g21)) (L 0 rfl rfl)) ?_
   exact kk [(10, .bool (decide (0 ≤ p1))), (9, .bool (decide (0 ≤ p1))), (8, .int .i64 p1)] _ ⟨.bool (decide (0 ≤ p1)), .int .i64 p1, rfl, (by rw [g21, Bool.true_and])⟩
  ·skip
   refine U.x rfl rfl rfl rfl ((L 0 rfl rfl).trans (congrArg Value.bool g21)) (by decide) ?_
   refine U.x rfl rfl rfl rfl ((L 1 rfl rfl).trans (congrArg Value.bool g21)) (by decide) ?_
   refine U.p rfl rfl (.inl rfl) (S.pickF rfl ((L 2 rfl rfl).trans (congrArg Value.bool g21)) K) ?_
   exact kk [(10, .bool false), (9, .tuple #[]), (8, .tuple #[])] _ ⟨.tuple #[], .tuple #[], rfl, (by rw [g21, Bool.false_and])⟩
set_option maxHeartbeats 4000000 in
set_option maxRecDepth 10000 in
theorem wk_word_Put (V : Vw) (Rs : List At) (gl : Glb V) (p0 : Int) (p1 : Int) (p2 : Int) (p3 : Int) (ow : Ow V (Rs)) (r : Int) (h : word_Put p0 p1 p2 p3 = some r) : ∃ v V', Cl Tryd.prog NG 28 #[.int .u32 p0, .int .i64 p1, .int .i64 p2, .int .u32 p3] V.H v V'.H ∧ V.le V' ∧ (v = .int .u32 r ∧ Ow V' (Rs)) := by
 refine Ct.of gl.lo Tryd.func28 rfl (nr rfl) ?_
 unfold word_Put at h
 refine WP.usreg rfl ?_
 refine U.p rfl rfl (.inl rfl) (S.assign rfl K) ?_
 refine U.done (nr rfl) ?_
 refine WP.seq ?_
 refine WP.usreg rfl ?_
 refine U.p rfl rfl (.inl rfl) (S.move rfl (L 2 rfl rfl)) ?_
 refine U.p rfl rfl (.inl rfl) (S.move rfl (L 4 rfl rfl)) ?_
 obtain ⟨x1, hx2, h3⟩ := bindS h
 refine O.call (V := V) rfl rfl (.inl rfl) rfl en44 (aC (L 1 rfl rfl) (aC (L 0 rfl rfl) aN)) (wk_word_good V _ gl p1 p2 ow _ hx2) (fun _ _ _ _ => nd) (fun v4 V5 le6 hp7 => ?_)
 obtain ⟨rfl, ow8⟩ := hp7
 refine U.p rfl rfl (.inl rfl) (S.not rfl (L 0 rfl rfl)) ?_
 refine U.done (nr rfl) ?_
 refine WP.cond _ (L 0 rfl rfl) rfl (fun c9 => ?_) (fun c9 => ?_)
 ·have h10 := ifT c9 h3
  have k11 : x1 = false := nT c9
  refine WP.usreg rfl ?_
  refine U.p rfl rfl (.inl rfl) (S.move rfl (L 5 rfl rfl)) ?_
  refine U.p rfl rfl (.inl rfl) (S.assign rfl (L 0 rfl rfl)) ?_
  refine U.done (nr rfl) ?_
  refine WP.ret ?_
  refine sqR ?_
  refine fin.slot (.inr rfl) rfl (L 0 rfl rfl) ⟨V5, rfl, le6, ?_⟩
  have e12 := Option.some.inj h10
  subst e12
  exact ⟨rfl, ow8⟩
 ·have h13 := ifF c9 h3
  have k14 : x1 = true := nF c9
  refine WP.skip ?_
  refine sqN ?_
  refine WP.usreg rfl ?_
  refine U.p rfl rfl (.inl rfl) (S.move rfl (L 6 rfl rfl)) ?_
  refine U.p rfl rfl (.inl rfl) (S.sub rfl K (L 0 rfl rfl)) ?_
  refine U.p rfl rfl (.inl rfl) (S.move rfl (L 9 rfl rfl)) ?_
  refine U.p rfl rfl (.inl rfl) (S.sub rfl (L 1 rfl rfl) (L 0 rfl rfl)) ?_
  refine U.p rfl rfl (.inl rfl) (S.assign rfl (L 0 rfl rfl)) ?_
  refine U.done (nr rfl) ?_
  refine WP.usdreg rfl rfl rfl ?_
  refine U.p rfl rfl (.inl rfl) (S.move rfl (L 10 rfl rfl)) ?_
  refine U.p rfl rfl (.inl rfl) (S.move rfl (L 13 rfl rfl)) ?_
  obtain ⟨x15, hx16, h17⟩ := bindS h13
  refine O.call (V := V5) rfl rfl (.inl rfl) rfl en45 (aC (L 0 rfl rfl) aN) (wk_word_mask V5 _ (gl.up le6) p2 ow8 _ hx16) (fun v18 V19 le20 hp21 => by obtain ⟨rfl, ow22⟩ := hp21; exact (fun _ => (okH.nil (fun r h => nomatch h)))) (fun v18 V19 le20 hp21 => ?_)
  obtain ⟨rfl, ow22⟩ := hp21
  refine U.p rfl rfl (.inl rfl) (S.move rfl (L 3 rfl rfl)) ?_
  obtain ⟨x23, hx24, h25⟩ := bindS h17
  refine U.p rfl rfl (.inl rfl) (S.shl hx24 rfl (L 1 rfl rfl) (L 0 rfl rfl)) ?_
  refine U.p rfl rfl (.inl rfl) (S.andNotI rfl (L 4 rfl rfl) (L 0 rfl rfl)) ?_
  refine U.p rfl rfl (.inl rfl) (S.move rfl (L 19 rfl rfl)) ?_
  refine U.p rfl rfl (.inl rfl) (S.move rfl (L 19 rfl rfl)) ?_
  obtain ⟨x26, hx27, h28⟩ := bindS h25
  refine O.call (V := V19) rfl rfl (.inl rfl) rfl en45 (aC (L 0 rfl rfl) aN) (wk_word_mask V19 _ (gl.up (le6.trans le20)) p2 ow22 _ hx27) (fun v29 V30 le31 hp32 => by obtain ⟨rfl, ow33⟩ := hp32; exact (fun _ => (okH.cons rfl (okH.nil (fun r h => nomatch h))))) (fun v29 V30 le31 hp32 => ?_)
  obtain ⟨rfl, ow33⟩ := hp32
  refine U.p rfl rfl (.inl rfl) (S.andI rfl (L 2 rfl rfl) (L 0 rfl rfl)) ?_
  refine U.p rfl rfl (.inl rfl) (S.move rfl (L 10 rfl rfl)) ?_
  obtain ⟨x34, hx35, h36⟩ := bindS h28
  refine U.p rfl rfl (.inl rfl) (S.shl hx35 rfl (L 1 rfl rfl) (L 0 rfl rfl)) ?_
  refine U.p rfl rfl (.inl rfl) (S.orI rfl (L 6 rfl rfl) (L 0 rfl rfl)) ?_
  refine U.p rfl rfl (.inl rfl) (S.assign rfl (L 0 rfl rfl)) ?_
  refine U.done (nr rfl) ?_
  refine WP.ret ?_
  refine fin.slot (.inr rfl) rfl (L 0 rfl rfl) ⟨V30, rfl, ((le6.trans le20).trans le31), ?_⟩
  have e37 := Option.some.inj h36
  subst e37
  exact ⟨rfl, ow33⟩
set_option maxHeartbeats 4000000 in
set_option maxRecDepth 10000 in
theorem wk_isa_Encode (V : Vw) (Rs : List At) (gl : Glb V) (p0 : TInst) (ow : Ow V (Rs)) (r : Int × Int) (h : isa_Encode p0 = some r) : ∃ v V', Cl Tryd.prog NG 13 #[.agg #[.int .i64 p0.op, .int .i64 p0.d, .int .i64 p0.a, .int .i64 p0.b, .int .i64 p0.imm]] V.H v V'.H ∧ V.le V' ∧ (v = .tuple #[.int .u32 r.1, .int .i64 r.2] ∧ Ow V' (Rs)) := by
 refine Ct.of gl.lo Tryd.func13 rfl (nr rfl) ?_
 unfold isa_Encode at h
 refine WP.usreg rfl ?_
 refine O.box ow rfl rfl (.inl rfl) rfl (L 0 rfl rfl) (by simp [topV]) rfl nd (fun b1 V2 le3 ow4 => ?_)
 refine U.p rfl rfl (.inl rfl) (S.assign rfl K) ?_
 refine U.p rfl rfl (.inl rfl) (S.assign rfl K) ?_
 refine U.done (nr rfl) ?_
 refine WP.seq ?_
 refine WP.usreg rfl ?_
 refine U.k rfl rfl (.inl rfl) (S.loadB rfl (L 2 rfl rfl) Tryd.underlying25 rfl ti25 (ow4.own (k := 0) rfl).get rfl) nd ?_
 obtain ⟨x6, hx7, h8⟩ := bindS h
 refine O.call (V := V2) rfl rfl (.inl rfl) rfl en14 (aC (L 0 rfl rfl) aN) (wk_isa_Good V2 _ (gl.up le3) p0 ow4 _ hx7) (fun _ _ _ _ => nd) (fun v9 V10 le11 hp12 => ?_)
 obtain ⟨rfl, ow13⟩ := hp12
 refine U.p rfl rfl (.inl rfl) (S.not rfl (L 0 rfl rfl)) ?_
 refine U.done (nr rfl) ?_
 refine WP.cond _ (L 0 rfl rfl) rfl (fun c14 => ?_) (fun c14 => ?_)
 ·have h15 := ifT c14 h8
  have k16 : x6 = false := nT c14
  refine WP.usreg rfl ?_
  refine U.p rfl rfl (.inl rfl) (S.assign rfl K) ?_
  refine U.p rfl rfl (.inl rfl) (S.assign rfl K) ?_
  refine U.done (nr rfl) ?_
  refine WP.ret ?_
  refine sqR ?_
  refine fin.slots' (.inr rfl) (fsC (L 1 rfl rfl) (fsC (L 0 rfl rfl) fsN)) rfl ⟨V10, rfl, (le3.trans le11), ?_⟩
  have ow17 := ow13.drop 0 rfl
  have e18 := Option.some.inj h15
  subst e18
  exact ⟨rfl, ow17⟩
 ·have h19 := ifF c14 h8
  have k20 : x6 = true := nF c14
  refine WP.skip ?_
  refine sqN ?_
  refine WP.usreg rfl ?_
  refine U.p (v := .pointer (some ⟨b1, 0, none⟩)) rfl rfl (.inl rfl) (S.fieldAddr rfl (L 5 rfl rfl) Tryd.underlying25 rfl ti3 rfl rfl) ?_
  refine U.k rfl rfl (.inl rfl) (S.load rfl (L 0 rfl rfl) Tryd.underlying3 rfl ((ow13.own (k := 0) rfl).cell rfl)) nd ?_
  obtain ⟨x21, hx22, h23⟩ := bindS h19
  obtain ⟨_, _, _, cs24, hv25, hf26, hr27, hc28⟩ := (gl.up (le3.trans le11)).g0.at hx22
  cases hv25
  obtain rfl : cs24 = [.string x21.name, .string x21.fields, .int .u32 x21.word] := hr27
  refine U.p rfl rfl (.inl rfl) (S.indexA rfl Gl (L 0 rfl rfl) Tryd.underlying53 ti52 (ix_ge hx22) (by have q1 := ix_lt hx22; have q2 := gl0_len; omega)) ?_
  refine U.p (v := .pointer (some ⟨0, 0 + Int.toNat p0.op * 3 + 2, none⟩)) rfl rfl (.inl rfl) (S.fieldAddr rfl (L 0 rfl rfl) Tryd.underlying52 rfl ti22 rfl rfl) ?_
  refine U.k rfl rfl (.inl rfl) (S.load rfl (L 0 rfl rfl) Tryd.underlying22 rfl (hc28 2 _ rfl)) nd ?_
  refine U.p rfl rfl (.inl rfl) (S.assign rfl (L 0 rfl rfl)) ?_
  refine U.done (nr rfl) ?_
  refine WP.seq ?_
  refine WP.usreg rfl ?_
  refine U.p (v := .pointer (some ⟨b1, 0, none⟩)) rfl rfl (.inl rfl) (S.fieldAddr rfl (L 11 rfl rfl) Tryd.underlying25 rfl ti3 rfl rfl) ?_
  refine U.k rfl rfl (.inl rfl) (S.load rfl (L 0 rfl rfl) Tryd.underlying3 rfl ((ow13.own (k := 0) rfl).cell rfl)) nd ?_
  obtain ⟨x29, hx30, h31⟩ := bindS h23
  obtain ⟨_, _, _, cs32, hv33, hf34, hr35, hc36⟩ := (gl.up (le3.trans le11)).g0.at hx30
  cases hv33
  obtain rfl : cs32 = [.string x29.name, .string x29.fields, .int .u32 x29.word] := hr35
  refine U.p rfl rfl (.inl rfl) (S.indexA rfl Gl (L 0 rfl rfl) Tryd.underlying53 ti52 (ix_ge hx30) (by have q1 := ix_lt hx30; have q2 := gl0_len; omega)) ?_
  refine U.p (v := .pointer (some ⟨0, 0 + Int.toNat p0.op * 3 + 1, none⟩)) rfl rfl (.inl rfl) (S.fieldAddr rfl (L 0 rfl rfl) Tryd.underlying52 rfl ti9 rfl rfl) ?_
  refine U.k rfl rfl (.inl rfl) (S.load rfl (L 0 rfl rfl) Tryd.underlying9 rfl (hc36 1 _ rfl)) nd ?_
  obtain ⟨xs37, hx38, h39⟩ := bindS h31
  refine O.bytes ow13 rfl rfl (.inl rfl) rfl (L 0 rfl rfl) Tryd.underlying9 Tryd.underlying54 Tryd.underlying5 hx38 (fun _ => nd) (fun v40 V41 le42 ow43 => ?_)
  refine U.p rfl rfl (.inl rfl) (ow43.oslen (k := 0) rfl rfl (L 0 rfl rfl) Tryd.underlying54) ?_
  refine U.p rfl rfl (.inl rfl) (S.move rfl K) ?_
  refine U.done (nr rfl) ?_
  refine WP.blk ?_
  have ow47 := ow43.pick 0 rfl
  have ow48 := ow47.pick 1 rfl
  unfold isa_Encode_l1 at h39
  obtain ⟨n50, hn49⟩ := loopO_some.1 h39
  refine WP.loopI2 (fun n l V' => ∃ (x45 : Int) (x46 : Int), l = [(1, .pointer (some ⟨b1, 0, none⟩)), (4, .int .u32 x45), (24, v40), (25, .int .i64 (xs37.length : Int)), (26, .int .i64 x46)] ∧ V41.le V' ∧ Ow V' (.pt b1 (.cells 0 [.int .i64 p0.op, .int .i64 p0.d, .int .i64 p0.a, .int .i64 p0.b, .int .i64 p0.imm]) :: .os (RT.int .u8) v40 xs37 :: Rs) ∧ itO (fun s => isa_Encode_l1b p0 xs37 s.1 s.2) n (x45, x46) = some r) n50 _ ⟨x21.word, 0, rfl, .refl _, ow48, hn49⟩ (allCons (L 19 rfl rfl) (allCons (L 8 rfl rfl) (allCons (L 2 rfl rfl) (allCons (L 1 rfl rfl) (allCons (L 0 rfl rfl) allNil))))) ?_
  rintro _ _ V51 ⟨x45, x46, rfl, le52, ow53, h57⟩
  obtain ⟨m54, q55, rfl, h58, e56⟩ := itS h57
  replace h58 : isa_Encode_l1b p0 xs37 x45 x46 = some q55 := h58
  unfold isa_Encode_l1b at h58
  refine WP.usreg rfl ?_
  refine U.p rfl rfl (.inl rfl) (S.lss rfl (L 4 rfl rfl) (L 3 rfl rfl)) ?_
  refine U.done (nr rfl) ?_
  refine WP.seq ?_
  refine WP.cond _ (L 0 rfl rfl) rfl (fun c59 => ?_) (fun c59 => ?_)
  ·have h60 := ifT c59 h58
   refine WP.skip ?_
   refine sqN ?_
   refine WP.seq ?_
   refine WP.blk ?_
   refine WP.usreg rfl ?_
   obtain ⟨x61, hx62, h63⟩ := bindS h60
   obtain ⟨b64, o65, n66, c67, hv68⟩ := ow53.ospt (k := 1) rfl hx62
   obtain ⟨_, hv69, _⟩ := ow53.osel (k := 1) rfl hv68 hx62
   refine U.p rfl rfl (.inl rfl) (S.index rfl ((L 3 rfl rfl).trans hv69) (L 5 rfl rfl) Tryd.underlying54 ti5 (ix_ge hx62) (ix_lt hx62)) ?_
   obtain ⟨cs70, hv71, hlt72, hr73, hc74⟩ := ow53.osel (k := 1) rfl hv68 hx62
   obtain rfl : cs70 = [.int .u8 x61] := hr73
   refine U.k rfl rfl (.inl rfl) (S.load rfl (L 0 rfl rfl) Tryd.underlying5 rfl (hc74 0 _ rfl)) nd ?_
   refine U.p rfl rfl (.inl rfl) (S.assign rfl (L 0 rfl rfl)) ?_
   refine U.done (nr rfl) ?_
   refine WP.usreg rfl ?_
   refine U.p rfl rfl (.inl rfl) (S.move rfl (L 0 rfl rfl)) ?_
   obtain ⟨x75, hx76, h77⟩ := bindS h63
   refine O.call (V := V51) rfl rfl (.inl rfl) rfl en27 (aC (L 0 rfl rfl) (aC (L 5 rfl rfl) aN)) (wk_isa_part V51 _ (gl.up (((le3.trans le11).trans le42).trans le52)) x61 p0 b1 0 ow53 _ hx76) (fun _ _ _ _ => nd) (fun v78 V79 le80 hp81 => ?_)
   obtain ⟨rfl, ow82⟩ := hp81
   refine U.p rfl rfl (.inl rfl) (S.move rfl (L 0 rfl rfl)) ?_
   refine U.p rfl rfl (.inl rfl) (S.extract rfl (L 0 rfl rfl) rfl (nr rfl)) ?_
   refine U.p rfl rfl (.inl rfl) (S.extract rfl (L 1 rfl rfl) rfl (nr rfl)) ?_
   refine U.p rfl rfl (.inl rfl) (S.extract rfl (L 2 rfl rfl) rfl (nr rfl)) ?_
   refine U.p rfl rfl (.inl rfl) (S.extract rfl (L 3 rfl rfl) rfl (nr rfl)) ?_
   refine U.p rfl rfl (.inl rfl) (S.assign rfl (L 3 rfl rfl)) ?_
   refine U.p rfl rfl (.inl rfl) (S.assign rfl (L 3 rfl rfl)) ?_
   refine U.p rfl rfl (.inl rfl) (S.assign rfl (L 3 rfl rfl)) ?_
   refine U.p rfl rfl (.inl rfl) (S.assign rfl (L 3 rfl rfl)) ?_
   refine U.done (nr rfl) ?_
   refine WP.ureg rfl ?_
   refine U.p rfl rfl (.inl rfl) (S.move rfl (L 16 rfl rfl)) ?_
   refine U.p rfl rfl (.inl rfl) (S.move rfl (L 4 rfl rfl)) ?_
   refine U.p rfl rfl (.inl rfl) (S.move rfl (L 4 rfl rfl)) ?_
   refine U.p rfl rfl (.inl rfl) (S.move rfl (L 4 rfl rfl)) ?_
   refine U.p rfl rfl (.inl rfl) (S.move rfl (L 6 rfl rfl)) ?_
   obtain ⟨x83, hx84, h85⟩ := bindS h77
   refine O.call (V := V79) rfl rfl (.inl rfl) rfl en29 (aC (L 1 rfl rfl) (aC (L 0 rfl rfl) aN)) (wk_word_Bits V79 _ (gl.up ((((le3.trans le11).trans le42).trans le52).trans le80)) x75.2.2.1 x75.2.1 ow82 _ hx84) (fun _ _ _ _ => nd) (fun v86 V87 le88 hp89 => ?_)
   obtain ⟨rfl, ow90⟩ := hp89
   obtain ⟨x91, hx92, h93⟩ := bindS h85
   refine O.call (V := V87) rfl rfl (.inl rfl) rfl en28 (aC (L 5 rfl rfl) (aC (L 4 rfl rfl) (aC (L 3 rfl rfl) (aC (L 0 rfl rfl) aN)))) (wk_word_Put V87 _ (gl.up (((((le3.trans le11).trans le42).trans le52).trans le80).trans le88)) x45 x75.1 x75.2.1 x83 ow90 _ hx92) (fun _ _ _ _ => nd) (fun v94 V95 le96 hp97 => ?_)
   obtain ⟨rfl, ow98⟩ := hp97
   refine U.p rfl rfl (.inl rfl) (S.assign rfl (L 0 rfl rfl)) ?_
   refine U.done (nr rfl) ?_
   refine blkN (sqN ?_)
   refine WP.ureg rfl ?_
   refine U.p rfl rfl (.inl rfl) (S.add rfl (L 27 rfl rfl) K) ?_
   refine U.p rfl rfl (.inl rfl) (S.move rfl (L 0 rfl rfl)) ?_
   refine U.done (nr rfl) ?_
   refine sqN ?_
   exact ⟨_, V95, rfl, ⟨m54, Nat.lt_succ_self _, x91, w64 (x46 + 1), rfl, (((le52.trans le80).trans le88).trans le96), ow98, backS h93 e56⟩, (allCons (L 25 rfl rfl) (allCons (L 2 rfl rfl) (allCons (L 27 rfl rfl) (allCons (L 28 rfl rfl) (allCons (L 0 rfl rfl) allNil)))))⟩
  ·have h99 := ifF c59 h58
   refine WP.exit ?_
   refine sqE (sqE (blkE (sqN ?_)))
   have h100 := exitS h99 e56
   refine WP.usreg rfl ?_
   refine U.p rfl rfl (.inl rfl) (S.move rfl (L 2 rfl rfl)) ?_
   refine U.p rfl rfl (.inl rfl) (S.assign rfl (L 0 rfl rfl)) ?_
   refine U.p rfl rfl (.inl rfl) (S.assign rfl K) ?_
   refine U.done (nr rfl) ?_
   refine WP.ret ?_
   refine fin.slots' (.inr rfl) (fsC (L 1 rfl rfl) (fsC (L 0 rfl rfl) fsN)) rfl ⟨V51, rfl, (((le3.trans le11).trans le42).trans le52), ?_⟩
   have ow101 := ow53.drop 0 rfl
   have ow102 := ow101.drop 0 rfl
   have e103 := Option.some.inj h100
   subst e103
   exact ⟨rfl, ow102⟩
set_option maxHeartbeats 4000000 in
set_option maxRecDepth 10000 in
theorem wk_word_Get (V : Vw) (Rs : List At) (gl : Glb V) (p0 : Int) (p1 : Int) (p2 : Int) (ow : Ow V (Rs)) (r : Int) (h : word_Get p0 p1 p2 = some r) : ∃ v V', Cl Tryd.prog NG 38 #[.int .u32 p0, .int .i64 p1, .int .i64 p2] V.H v V'.H ∧ V.le V' ∧ (v = .int .u32 r ∧ Ow V' (Rs)) := by
 refine Ct.of gl.lo Tryd.func38 rfl (nr rfl) ?_
 unfold word_Get at h
 refine WP.usreg rfl ?_
 refine U.p rfl rfl (.inl rfl) (S.assign rfl K) ?_
 refine U.done (nr rfl) ?_
 refine WP.seq ?_
 refine WP.usreg rfl ?_
 refine U.p rfl rfl (.inl rfl) (S.move rfl (L 2 rfl rfl)) ?_
 refine U.p rfl rfl (.inl rfl) (S.move rfl (L 4 rfl rfl)) ?_
 obtain ⟨x1, hx2, h3⟩ := bindS h
 refine O.call (V := V) rfl rfl (.inl rfl) rfl en44 (aC (L 1 rfl rfl) (aC (L 0 rfl rfl) aN)) (wk_word_good V _ gl p1 p2 ow _ hx2) (fun _ _ _ _ => nd) (fun v4 V5 le6 hp7 => ?_)
 obtain ⟨rfl, ow8⟩ := hp7
 refine U.p rfl rfl (.inl rfl) (S.not rfl (L 0 rfl rfl)) ?_
 refine U.done (nr rfl) ?_
 refine WP.cond _ (L 0 rfl rfl) rfl (fun c9 => ?_) (fun c9 => ?_)
 ·have h10 := ifT c9 h3
  have k11 : x1 = false := nT c9
  refine WP.usreg rfl ?_
  refine U.p rfl rfl (.inl rfl) (S.assign rfl K) ?_
  refine U.done (nr rfl) ?_
  refine WP.ret ?_
  refine sqR ?_
  refine fin.slot (.inr rfl) rfl (L 0 rfl rfl) ⟨V5, rfl, le6, ?_⟩
  have e12 := Option.some.inj h10
  subst e12
  exact ⟨rfl, ow8⟩
 ·have h13 := ifF c9 h3
  have k14 : x1 = true := nF c9
  refine WP.skip ?_
  refine sqN ?_
  refine WP.usdreg rfl rfl rfl ?_
  refine U.p rfl rfl (.inl rfl) (S.move rfl (L 5 rfl rfl)) ?_
  refine U.p rfl rfl (.inl rfl) (S.move rfl (L 7 rfl rfl)) ?_
  refine U.p rfl rfl (.inl rfl) (S.sub rfl K (L 0 rfl rfl)) ?_
  refine U.p rfl rfl (.inl rfl) (S.move rfl (L 10 rfl rfl)) ?_
  refine U.p rfl rfl (.inl rfl) (S.sub rfl (L 1 rfl rfl) (L 0 rfl rfl)) ?_
  obtain ⟨x15, hx16, h17⟩ := bindS h13
  refine U.p rfl rfl (.inl rfl) (S.shr hx16 rfl (L 4 rfl rfl) (L 0 rfl rfl)) ?_
  refine U.p rfl rfl (.inl rfl) (S.move rfl (L 13 rfl rfl)) ?_
  obtain ⟨x18, hx19, h20⟩ := bindS h17
  refine O.call (V := V5) rfl rfl (.inl rfl) rfl en45 (aC (L 0 rfl rfl) aN) (wk_word_mask V5 _ (gl.up le6) p2 ow8 _ hx19) (fun v21 V22 le23 hp24 => by obtain ⟨rfl, ow25⟩ := hp24; exact (fun _ => (okH.nil (fun r h => nomatch h)))) (fun v21 V22 le23 hp24 => ?_)
  obtain ⟨rfl, ow25⟩ := hp24
  refine U.p rfl rfl (.inl rfl) (S.andI rfl (L 2 rfl rfl) (L 0 rfl rfl)) ?_
  refine U.p rfl rfl (.inl rfl) (S.assign rfl (L 0 rfl rfl)) ?_
  refine U.done (nr rfl) ?_
  refine WP.ret ?_
  refine fin.slot (.inr rfl) rfl (L 0 rfl rfl) ⟨V22, rfl, (le6.trans le23), ?_⟩
  have e26 := Option.some.inj h20
  subst e26
  exact ⟨rfl, ow25⟩
set_option maxHeartbeats 4000000 in
set_option maxRecDepth 10000 in
theorem wk_word_Signed (V : Vw) (Rs : List At) (gl : Glb V) (p0 : Int) (p1 : Int) (ow : Ow V (Rs)) (r : Int) (h : word_Signed p0 p1 = some r) : ∃ v V', Cl Tryd.prog NG 39 #[.int .u32 p0, .int .i64 p1] V.H v V'.H ∧ V.le V' ∧ (v = .int .i64 r ∧ Ow V' (Rs)) := by
 refine Ct.of gl.lo Tryd.func39 rfl (nr rfl) ?_
 unfold word_Signed at h
 refine WP.usreg rfl ?_
 refine U.p rfl rfl (.inl rfl) (S.assign rfl K) ?_
 refine U.done (nr rfl) ?_
 refine WP.seq ?_
 refine WP.usreg rfl ?_
 refine U.p rfl rfl (.inl rfl) (S.move rfl (L 2 rfl rfl)) ?_
 refine U.p rfl rfl (.inl rfl) (S.lss rfl (L 0 rfl rfl) K) ?_
 refine U.p rfl rfl (.inl rfl) (S.move rfl (L 0 rfl rfl)) ?_
 refine U.joinX 6 (fun e H => ∃ (u1 u2 : Value), H = V.H ∧ e = [(11, .bool ((decide (p1 < 1)) || (decide (32 < p1)))), (10, u1), (9, u2)]) ?_ ?_
 ·rintro _ _ ⟨u1, u2, rfl, rfl⟩
  refine U.done (nr rfl) ?_
  refine WP.cond _ (L 0 rfl rfl) rfl (fun c6 => ?_) (fun c6 => ?_)
  ·have h7 := ifT c6 h
   refine WP.usreg rfl ?_
   refine U.p rfl rfl (.inl rfl) (S.assign rfl K) ?_
   refine U.done (nr rfl) ?_
   refine WP.ret ?_
   refine sqR ?_
   refine fin.slot (.inr rfl) rfl (L 0 rfl rfl) ⟨V, rfl, (.refl _), ?_⟩
   have e8 := Option.some.inj h7
   subst e8
   exact ⟨rfl, ow⟩
  ·have h9 := ifF c6 h
   refine WP.skip ?_
   refine sqN ?_
   refine WP.usreg rfl ?_
   refine U.p rfl rfl (.inl rfl) (S.move rfl (L 7 rfl rfl)) ?_
   refine U.p rfl rfl (.inl rfl) (S.move rfl (L 9 rfl rfl)) ?_
   obtain ⟨x10, hx11, h12⟩ := bindS h9
   refine O.call (V := V) rfl rfl (.inl rfl) rfl en45 (aC (L 0 rfl rfl) aN) (wk_word_mask V _ gl p1 ow _ hx11) (fun _ _ _ _ => nd) (fun v13 V14 le15 hp16 => ?_)
   obtain ⟨rfl, ow17⟩ := hp16
   refine U.p rfl rfl (.inl rfl) (S.andI rfl (L 2 rfl rfl) (L 0 rfl rfl)) ?_
   refine U.p rfl rfl (.inl rfl) (S.conv rfl (L 0 rfl rfl) Tryd.underlying22 Tryd.underlying3) ?_
   refine U.p rfl rfl (.inl rfl) (S.assign rfl (L 0 rfl rfl)) ?_
   refine U.done (nr rfl) ?_
   refine WP.seqI (fun l V' => ∃ (x18 : Int), l = [(5, .int .i64 x18)] ∧ V14.le V' ∧ Ow V' (Rs) ∧ word_Signed_k1 x18 = some r) ?_ ?_
   ·rintro _ V19 ⟨x18, rfl, le20, ow21, h22⟩
    unfold word_Signed_k1 at h22
    refine WP.usreg rfl ?_
    refine U.p rfl rfl (.inl rfl) (S.move rfl (L 0 rfl rfl)) ?_
    refine U.p rfl rfl (.inl rfl) (S.assign rfl (L 0 rfl rfl)) ?_
    refine U.done (nr rfl) ?_
    refine WP.ret ?_
    refine fin.slot (.inr rfl) rfl (L 0 rfl rfl) ⟨V19, rfl, (le15.trans le20), ?_⟩
    have e23 := Option.some.inj h22
    subst e23
    exact ⟨rfl, ow21⟩
   ·skip
    refine WP.usreg rfl ?_
    refine U.p rfl rfl (.inl rfl) (S.move rfl (L 0 rfl rfl)) ?_
    refine U.p rfl rfl (.inl rfl) (S.move rfl (L 15 rfl rfl)) ?_
    refine U.p rfl rfl (.inl rfl) (S.sub rfl (L 0 rfl rfl) K) ?_
    obtain ⟨x24, hx25, h26⟩ := bindS h12
    refine U.p rfl rfl (.inl rfl) (S.shr hx25 rfl (L 2 rfl rfl) (L 0 rfl rfl)) ?_
    refine U.p rfl rfl (.inl rfl) (S.eqlI rfl (L 0 rfl rfl) K) ?_
    refine U.done (nr rfl) ?_
    refine WP.cond _ (L 0 rfl rfl) rfl (fun c27 => ?_) (fun c27 => ?_)
    ·have h28 := ifT c27 h26
     refine WP.ureg rfl ?_
     refine U.p rfl rfl (.inl rfl) (S.move rfl (L 5 rfl rfl)) ?_
     refine U.p rfl rfl (.inl rfl) (S.move rfl (L 20 rfl rfl)) ?_
     obtain ⟨x29, hx30, h31⟩ := bindS h28
     refine U.p rfl rfl (.inl rfl) (S.shl hx30 rfl K (L 0 rfl rfl)) ?_
     refine U.p rfl rfl (.inl rfl) (S.sub rfl (L 2 rfl rfl) (L 0 rfl rfl)) ?_
     refine U.p rfl rfl (.inl rfl) (S.assign rfl (L 0 rfl rfl)) ?_
     refine U.done (nr rfl) ?_
     refine sqN ?_
     exact ⟨_, V14, rfl, ⟨w64 ((w64 (andB .u32 p0 x10)) - x29), rfl, (.refl _), ow17, h31⟩, (allCons (L 0 rfl rfl) allNil)⟩
    ·have h32 := ifF c27 h26
     refine WP.skip ?_
     refine sqN ?_
     exact ⟨_, V14, rfl, ⟨w64 (andB .u32 p0 x10), rfl, (.refl _), ow17, h32⟩, (allCons (L 5 rfl rfl) allNil)⟩
 ·intro kk
  refine bcase (b := decide (p1 < 1)) (fun g33 => ?_) (fun g33 => ?_)
  ·skip
   refine U.x rfl rfl rfl rfl ((L 0 rfl rfl).trans (congrArg Value.bool g33)) (by decide) ?_
   refine U.x rfl rfl rfl rfl ((L 1 rfl rfl).trans (congrArg Value.bool g33)) (by decide) ?_
   refine U.p rfl rfl (.inl rfl) (S.pickT rfl ((L 2 rfl rfl).trans (congrArg Value.bool g33)) K) ?_
   exact kk [(11, .bool true), (10, .tuple #[]), (9, .tuple #[])] _ ⟨.tuple #[], .tuple #[], rfl, (by rw [g33, Bool.true_or])⟩
  ·skip
   refine U.p rfl rfl (.inr ⟨_, _, _, rfl, rfl, ((L 0 rfl rfl).trans (congrArg Value.bool g33))⟩) (S.move rfl (L 5 rfl rfl)) ?_
   refine U.p rfl rfl (.inr ⟨_, _, _, rfl, rfl, ((L 1 rfl rfl).trans (congrArg Value.bool g33))⟩) (S.gtr rfl (L 0 rfl rfl) K) ?_
   refine U.p rfl rfl (.inl rfl) (S.pickF rfl ((L 2 rfl rfl).trans (congrArg Value.bool g33)) (L 0 rfl rfl)) ?_
   exact kk [(11, .bool (decide (32 < p1))), (10, .bool (decide (32 < p1))), (9, .int .i64 p1)] _ ⟨.bool (decide (32 < p1)), .int .i64 p1, rfl, (by rw [g33, Bool.false_or])⟩
set_option maxHeartbeats 4000000 in
set_option maxRecDepth 10000 in
theorem wk_isa_read (V : Vw) (Rs : List At) (gl : Glb V) (p0 : Int) (p1 : Int) (ow : Ow V (Rs)) (r : TInst) (h : isa_read p0 p1 = some r) : ∃ v V', Cl Tryd.prog NG 24 #[.int .i64 p0, .int .u32 p1] V.H v V'.H ∧ V.le V' ∧ (v = .agg #[.int .i64 r.op, .int .i64 r.d, .int .i64 r.a, .int .i64 r.b, .int .i64 r.imm] ∧ Ow V' (Rs)) := by
 refine Ct.of gl.lo Tryd.func24 rfl (nr rfl) ?_
 unfold isa_read at h
 refine WP.usreg rfl ?_
 refine O.alloc ow rfl rfl (.inl rfl) rfl ti25 rfl rfl nd (fun b1 V2 le3 ow4 => ?_)
 refine U.done (nr rfl) ?_
 refine WP.usreg rfl ?_
 refine U.p rfl rfl (.inl rfl) (S.move rfl (L 1 rfl rfl)) ?_
 refine U.p (v := .agg #[.int .i64 p0, .int .i64 0, .int .i64 0, .int .i64 0, .int .i64 0]) rfl rfl (.inl rfl) (S.build (vs := [.int .i64 p0]) rfl ti25 rfl pl25 (aC (L 0 rfl rfl) aN) (allC (by simp [topV]) allN) rfl) ?_
 refine O.alloc ow4 rfl rfl (.inl rfl) rfl ti25 rfl rfl nd (fun b6 V7 le8 ow9 => ?_)
 refine O.store (k := 0) (cs := [.int .i64 p0, .int .i64 0, .int .i64 0, .int .i64 0, .int .i64 0]) (c' := [.int .i64 p0, .int .i64 0, .int .i64 0, .int .i64 0, .int .i64 0]) ow9 rfl rfl rfl (.inl rfl) rfl (L 0 rfl rfl) (L 1 rfl rfl) ti25 (by simp [topV]) rfl rfl (nr rfl) rfl rfl nd (fun V11 le12 ow13 => ?_)
 refine U.done (nr rfl) ?_
 refine WP.seq ?_
 refine WP.usreg rfl ?_
 refine U.p rfl rfl (.inl rfl) (S.move rfl (L 4 rfl rfl)) ?_
 obtain ⟨x14, hx15, h16⟩ := bindS h
 obtain ⟨_, _, _, cs17, hv18, hf19, hr20, hc21⟩ := (gl.up ((le3.trans le8).trans le12)).g0.at hx15
 cases hv18
 obtain rfl : cs17 = [.string x14.name, .string x14.fields, .int .u32 x14.word] := hr20
 refine U.p rfl rfl (.inl rfl) (S.indexA rfl Gl (L 0 rfl rfl) Tryd.underlying53 ti52 (ix_ge hx15) (by have q1 := ix_lt hx15; have q2 := gl0_len; omega)) ?_
 refine U.p (v := .pointer (some ⟨0, 0 + Int.toNat p0 * 3 + 1, none⟩)) rfl rfl (.inl rfl) (S.fieldAddr rfl (L 0 rfl rfl) Tryd.underlying52 rfl ti9 rfl rfl) ?_
 refine U.k rfl rfl (.inl rfl) (S.load rfl (L 0 rfl rfl) Tryd.underlying9 rfl (hc21 1 _ rfl)) nd ?_
 obtain ⟨xs22, hx23, h24⟩ := bindS h16
 refine O.bytes ow13 rfl rfl (.inl rfl) rfl (L 0 rfl rfl) Tryd.underlying9 Tryd.underlying54 Tryd.underlying5 hx23 (fun _ => nd) (fun v25 V26 le27 ow28 => ?_)
 refine U.p rfl rfl (.inl rfl) (ow28.oslen (k := 0) rfl rfl (L 0 rfl rfl) Tryd.underlying54) ?_
 refine U.p rfl rfl (.inl rfl) (S.move rfl K) ?_
 refine U.done (nr rfl) ?_
 refine WP.blk ?_
 have ow35 := ow28.pick 0 rfl
 have ow36 := ow35.pick 1 rfl
 have ow37 := ow36.pick 2 rfl
 unfold isa_read_l1 at h24
 obtain ⟨n39, hn38⟩ := loopO_some.1 h24
 refine WP.loopI2 (fun n l V' => ∃ (x30 : Int) (x31 : Int) (x32 : Int) (x33 : Int) (x34 : Int), l = [(1, .int .u32 p1), (4, .pointer (some ⟨b1, 0, none⟩)), (5, .pointer (some ⟨b6, 0, none⟩)), (14, v25), (15, .int .i64 (xs22.length : Int)), (16, .int .i64 x34)] ∧ V26.le V' ∧ Ow V' (.pt b1 (.cells 5 [.int .i64 0, .int .i64 0, .int .i64 0, .int .i64 0, .int .i64 0]) :: .pt b6 (.cells 5 [.int .i64 p0, .int .i64 x30, .int .i64 x31, .int .i64 x32, .int .i64 x33]) :: .os (RT.int .u8) v25 xs22 :: Rs) ∧ itO (fun s => isa_read_l1b p0 p1 xs22 s.1 s.2.1 s.2.2.1 s.2.2.2.1 s.2.2.2.2) n (x30, x31, x32, x33, x34) = some r) n39 _ ⟨0, 0, 0, 0, 0, rfl, .refl _, ow37, hn38⟩ (allCons (L 12 rfl rfl) (allCons (L 10 rfl rfl) (allCons (L 7 rfl rfl) (allCons (L 2 rfl rfl) (allCons (L 1 rfl rfl) (allCons (L 0 rfl rfl) allNil)))))) ?_
 rintro _ _ V40 ⟨x30, x31, x32, x33, x34, rfl, le41, ow42, h46⟩
 obtain ⟨m43, q44, rfl, h47, e45⟩ := itS h46
 replace h47 : isa_read_l1b p0 p1 xs22 x30 x31 x32 x33 x34 = some q44 := h47
 unfold isa_read_l1b at h47
 refine WP.usreg rfl ?_
 refine U.p rfl rfl (.inl rfl) (S.lss rfl (L 5 rfl rfl) (L 4 rfl rfl)) ?_
 refine U.done (nr rfl) ?_
 refine WP.seq ?_
 refine WP.cond _ (L 0 rfl rfl) rfl (fun c48 => ?_) (fun c48 => ?_)
 ·have h49 := ifT c48 h47
  refine WP.skip ?_
  refine sqN ?_
  refine WP.seqI (fun l V' => ∃ (x50 : Int) (x51 : Int) (x52 : Int) (x53 : Int), l = [(1, .int .u32 p1), (4, .pointer (some ⟨b1, 0, none⟩)), (5, .pointer (some ⟨b6, 0, none⟩)), (14, v25), (15, .int .i64 (xs22.length : Int)), (16, .int .i64 x34)] ∧ V40.le V' ∧ Ow V' (.pt b1 (.cells 5 [.int .i64 0, .int .i64 0, .int .i64 0, .int .i64 0, .int .i64 0]) :: .pt b6 (.cells 5 [.int .i64 p0, .int .i64 x50, .int .i64 x51, .int .i64 x52, .int .i64 x53]) :: .os (RT.int .u8) v25 xs22 :: Rs) ∧ isa_read_k1 x34 x50 x51 x52 x53 = some q44) ?_ ?_
  ·rintro _ V54 ⟨x50, x51, x52, x53, rfl, le55, ow56, h57⟩
   unfold isa_read_k1 at h57
   refine WP.ureg rfl ?_
   refine U.p rfl rfl (.inl rfl) (S.add rfl (L 5 rfl rfl) K) ?_
   refine U.p rfl rfl (.inl rfl) (S.move rfl (L 0 rfl rfl)) ?_
   refine U.done (nr rfl) ?_
   refine sqN ?_
   exact ⟨_, V54, rfl, ⟨m43, Nat.lt_succ_self _, x50, x51, x52, x53, w64 (x34 + 1), rfl, (le41.trans le55), ow56, backS h57 e45⟩, (allCons (L 2 rfl rfl) (allCons (L 3 rfl rfl) (allCons (L 4 rfl rfl) (allCons (L 5 rfl rfl) (allCons (L 6 rfl rfl) (allCons (L 0 rfl rfl) allNil))))))⟩
  ·skip
   refine WP.blk ?_
   refine WP.usreg rfl ?_
   obtain ⟨x58, hx59, h60⟩ := bindS h49
   obtain ⟨b61, o62, n63, c64, hv65⟩ := ow42.ospt (k := 2) rfl hx59
   obtain ⟨_, hv66, _⟩ := ow42.osel (k := 2) rfl hv65 hx59
   refine U.p rfl rfl (.inl rfl) (S.index rfl ((L 4 rfl rfl).trans hv66) (L 6 rfl rfl) Tryd.underlying54 ti5 (ix_ge hx59) (ix_lt hx59)) ?_
   obtain ⟨cs67, hv68, hlt69, hr70, hc71⟩ := ow42.osel (k := 2) rfl hv65 hx59
   obtain rfl : cs67 = [.int .u8 x58] := hr70
   refine U.k rfl rfl (.inl rfl) (S.load rfl (L 0 rfl rfl) Tryd.underlying5 rfl (hc71 0 _ rfl)) nd ?_
   refine U.p rfl rfl (.inl rfl) (S.assign rfl (L 0 rfl rfl)) ?_
   refine U.done (nr rfl) ?_
   refine WP.usreg rfl ?_
   refine U.p rfl rfl (.inl rfl) (S.move rfl (L 0 rfl rfl)) ?_
   refine U.done (nr rfl) ?_
   refine WP.blk ?_
   refine WP.usreg rfl ?_
   refine U.p rfl rfl (.inl rfl) (S.eqlI rfl (L 0 rfl rfl) K) ?_
   refine U.p rfl rfl (.inl rfl) (S.assign rfl (L 0 rfl rfl)) ?_
   refine U.done (nr rfl) ?_
   refine WP.cond _ (L 0 rfl rfl) rfl (fun c72 => ?_) (fun c72 => ?_)
   ·have h73 := ifT c72 h60
    refine WP.ureg rfl ?_
    refine U.p rfl rfl (.inl rfl) (S.move rfl (L 7 rfl rfl)) ?_
    obtain ⟨x74, hx75, h76⟩ := bindS h73
    refine O.call (V := V40) rfl rfl (.inl rfl) rfl en38 (aC (L 0 rfl rfl) (aC K (aC K aN))) (wk_word_Get V40 _ (gl.up ((((le3.trans le8).trans le12).trans le27).trans le41)) p1 6 5 ow42 _ hx75) (fun _ _ _ _ => nd) (fun v77 V78 le79 hp80 => ?_)
    obtain ⟨rfl, ow81⟩ := hp80
    refine U.p rfl rfl (.inl rfl) (S.conv rfl (L 0 rfl rfl) Tryd.underlying22 Tryd.underlying3) ?_
    refine U.p (v := .pointer (some ⟨b6, 1, none⟩)) rfl rfl (.inl rfl) (S.fieldAddr rfl (L 12 rfl rfl) Tryd.underlying25 rfl ti3 rfl rfl) ?_
    refine O.store (k := 1) (cs := [.int .i64 (w64 x74)]) (c' := [.int .i64 p0, .int .i64 (w64 x74), .int .i64 x31, .int .i64 x32, .int .i64 x33]) ow81 rfl rfl rfl (.inl rfl) rfl (L 0 rfl rfl) (L 1 rfl rfl) ti3 (by simp [topV]) rfl rfl (nr rfl) rfl rfl nd (fun V82 le83 ow84 => ?_)
    refine U.done (nr rfl) ?_
    refine blkN (blkN (sqN ?_))
    exact ⟨_, V82, rfl, ⟨w64 x74, x31, x32, x33, rfl, (le79.trans le83), ow84, h76⟩, (allCons (L 11 rfl rfl) (allCons (L 12 rfl rfl) (allCons (L 13 rfl rfl) (allCons (L 14 rfl rfl) (allCons (L 15 rfl rfl) (allCons (L 16 rfl rfl) allNil))))))⟩
   ·have h85 := ifF c72 h60
    refine WP.usreg rfl ?_
    refine U.p rfl rfl (.inl rfl) (S.eqlI rfl (L 2 rfl rfl) K) ?_
    refine U.p rfl rfl (.inl rfl) (S.assign rfl (L 0 rfl rfl)) ?_
    refine U.done (nr rfl) ?_
    refine WP.cond _ (L 0 rfl rfl) rfl (fun c86 => ?_) (fun c86 => ?_)
    ·have h87 := ifT c86 h85
     refine WP.ureg rfl ?_
     refine U.p rfl rfl (.inl rfl) (S.move rfl (L 9 rfl rfl)) ?_
     obtain ⟨x88, hx89, h90⟩ := bindS h87
     refine O.call (V := V40) rfl rfl (.inl rfl) rfl en38 (aC (L 0 rfl rfl) (aC K (aC K aN))) (wk_word_Get V40 _ (gl.up ((((le3.trans le8).trans le12).trans le27).trans le41)) p1 11 5 ow42 _ hx89) (fun _ _ _ _ => nd) (fun v91 V92 le93 hp94 => ?_)
     obtain ⟨rfl, ow95⟩ := hp94
     refine U.p rfl rfl (.inl rfl) (S.conv rfl (L 0 rfl rfl) Tryd.underlying22 Tryd.underlying3) ?_
     refine U.p (v := .pointer (some ⟨b6, 2, none⟩)) rfl rfl (.inl rfl) (S.fieldAddr rfl (L 14 rfl rfl) Tryd.underlying25 rfl ti3 rfl rfl) ?_
     refine O.store (k := 1) (cs := [.int .i64 (w64 x88)]) (c' := [.int .i64 p0, .int .i64 x30, .int .i64 (w64 x88), .int .i64 x32, .int .i64 x33]) ow95 rfl rfl rfl (.inl rfl) rfl (L 0 rfl rfl) (L 1 rfl rfl) ti3 (by simp [topV]) rfl rfl (nr rfl) rfl rfl nd (fun V96 le97 ow98 => ?_)
     refine U.done (nr rfl) ?_
     refine blkN (blkN (sqN ?_))
     exact ⟨_, V96, rfl, ⟨x30, w64 x88, x32, x33, rfl, (le93.trans le97), ow98, h90⟩, (allCons (L 13 rfl rfl) (allCons (L 14 rfl rfl) (allCons (L 15 rfl rfl) (allCons (L 16 rfl rfl) (allCons (L 17 rfl rfl) (allCons (L 18 rfl rfl) allNil))))))⟩
    ·have h99 := ifF c86 h85
     refine WP.usreg rfl ?_
     refine U.p rfl rfl (.inl rfl) (S.eqlI rfl (L 4 rfl rfl) K) ?_
     refine U.p rfl rfl (.inl rfl) (S.assign rfl (L 0 rfl rfl)) ?_
     refine U.done (nr rfl) ?_
     refine WP.cond _ (L 0 rfl rfl) rfl (fun c100 => ?_) (fun c100 => ?_)
     ·have h101 := ifT c100 h99
      refine WP.ureg rfl ?_
      refine U.p rfl rfl (.inl rfl) (S.move rfl (L 11 rfl rfl)) ?_
      obtain ⟨x102, hx103, h104⟩ := bindS h101
      refine O.call (V := V40) rfl rfl (.inl rfl) rfl en38 (aC (L 0 rfl rfl) (aC K (aC K aN))) (wk_word_Get V40 _ (gl.up ((((le3.trans le8).trans le12).trans le27).trans le41)) p1 16 5 ow42 _ hx103) (fun _ _ _ _ => nd) (fun v105 V106 le107 hp108 => ?_)
      obtain ⟨rfl, ow109⟩ := hp108
      refine U.p rfl rfl (.inl rfl) (S.conv rfl (L 0 rfl rfl) Tryd.underlying22 Tryd.underlying3) ?_
      refine U.p (v := .pointer (some ⟨b6, 3, none⟩)) rfl rfl (.inl rfl) (S.fieldAddr rfl (L 16 rfl rfl) Tryd.underlying25 rfl ti3 rfl rfl) ?_
      refine O.store (k := 1) (cs := [.int .i64 (w64 x102)]) (c' := [.int .i64 p0, .int .i64 x30, .int .i64 x31, .int .i64 (w64 x102), .int .i64 x33]) ow109 rfl rfl rfl (.inl rfl) rfl (L 0 rfl rfl) (L 1 rfl rfl) ti3 (by simp [topV]) rfl rfl (nr rfl) rfl rfl nd (fun V110 le111 ow112 => ?_)
      refine U.done (nr rfl) ?_
      refine blkN (blkN (sqN ?_))
      exact ⟨_, V110, rfl, ⟨x30, x31, w64 x102, x33, rfl, (le107.trans le111), ow112, h104⟩, (allCons (L 15 rfl rfl) (allCons (L 16 rfl rfl) (allCons (L 17 rfl rfl) (allCons (L 18 rfl rfl) (allCons (L 19 rfl rfl) (allCons (L 20 rfl rfl) allNil))))))⟩
     ·have h113 := ifF c100 h99
      refine WP.usreg rfl ?_
      refine U.p rfl rfl (.inl rfl) (S.eqlI rfl (L 6 rfl rfl) K) ?_
      refine U.p rfl rfl (.inl rfl) (S.assign rfl (L 0 rfl rfl)) ?_
      refine U.done (nr rfl) ?_
      refine WP.cond _ (L 0 rfl rfl) rfl (fun c114 => ?_) (fun c114 => ?_)
      ·have h115 := ifT c114 h113
       refine WP.ureg rfl ?_
       refine U.p rfl rfl (.inl rfl) (S.move rfl (L 13 rfl rfl)) ?_
       obtain ⟨x116, hx117, h118⟩ := bindS h115
       refine O.call (V := V40) rfl rfl (.inl rfl) rfl en39 (aC (L 0 rfl rfl) (aC K aN)) (wk_word_Signed V40 _ (gl.up ((((le3.trans le8).trans le12).trans le27).trans le41)) p1 16 ow42 _ hx117) (fun _ _ _ _ => nd) (fun v119 V120 le121 hp122 => ?_)
       obtain ⟨rfl, ow123⟩ := hp122
       refine U.p (v := .pointer (some ⟨b6, 4, none⟩)) rfl rfl (.inl rfl) (S.fieldAddr rfl (L 17 rfl rfl) Tryd.underlying25 rfl ti3 rfl rfl) ?_
       refine O.store (k := 1) (cs := [.int .i64 x116]) (c' := [.int .i64 p0, .int .i64 x30, .int .i64 x31, .int .i64 x32, .int .i64 x116]) ow123 rfl rfl rfl (.inl rfl) rfl (L 0 rfl rfl) (L 1 rfl rfl) ti3 (by simp [topV]) rfl rfl (nr rfl) rfl rfl nd (fun V124 le125 ow126 => ?_)
       refine U.done (nr rfl) ?_
       refine blkN (blkN (sqN ?_))
       exact ⟨_, V124, rfl, ⟨x30, x31, x32, x116, rfl, (le121.trans le125), ow126, h118⟩, (allCons (L 16 rfl rfl) (allCons (L 17 rfl rfl) (allCons (L 18 rfl rfl) (allCons (L 19 rfl rfl) (allCons (L 20 rfl rfl) (allCons (L 21 rfl rfl) allNil))))))⟩
      ·have h127 := ifF c114 h113
       refine WP.usreg rfl ?_
       refine U.p rfl rfl (.inl rfl) (S.eqlI rfl (L 8 rfl rfl) K) ?_
       refine U.p rfl rfl (.inl rfl) (S.assign rfl (L 0 rfl rfl)) ?_
       refine U.done (nr rfl) ?_
       refine WP.cond _ (L 0 rfl rfl) rfl (fun c128 => ?_) (fun c128 => ?_)
       ·have h129 := ifT c128 h127
        refine WP.ureg rfl ?_
        refine U.p rfl rfl (.inl rfl) (S.move rfl (L 15 rfl rfl)) ?_
        obtain ⟨x130, hx131, h132⟩ := bindS h129
        refine O.call (V := V40) rfl rfl (.inl rfl) rfl en38 (aC (L 0 rfl rfl) (aC K (aC K aN))) (wk_word_Get V40 _ (gl.up ((((le3.trans le8).trans le12).trans le27).trans le41)) p1 16 14 ow42 _ hx131) (fun _ _ _ _ => nd) (fun v133 V134 le135 hp136 => ?_)
        obtain ⟨rfl, ow137⟩ := hp136
        obtain ⟨x138, hx139, h140⟩ := bindS h132
        refine O.call (V := V134) rfl rfl (.inl rfl) rfl en39 (aC (L 0 rfl rfl) (aC K aN)) (wk_word_Signed V134 _ (gl.up (((((le3.trans le8).trans le12).trans le27).trans le41).trans le135)) x130 14 ow137 _ hx139) (fun _ _ _ _ => nd) (fun v141 V142 le143 hp144 => ?_)
        obtain ⟨rfl, ow145⟩ := hp144
        refine U.p rfl rfl (.inl rfl) (S.mul rfl K (L 0 rfl rfl)) ?_
        refine U.p (v := .pointer (some ⟨b6, 4, none⟩)) rfl rfl (.inl rfl) (S.fieldAddr rfl (L 21 rfl rfl) Tryd.underlying25 rfl ti3 rfl rfl) ?_
        refine O.store (k := 1) (cs := [.int .i64 (w64 (4 * x138))]) (c' := [.int .i64 p0, .int .i64 x30, .int .i64 x31, .int .i64 x32, .int .i64 (w64 (4 * x138))]) ow145 rfl rfl rfl (.inl rfl) rfl (L 0 rfl rfl) (L 1 rfl rfl) ti3 (by simp [topV]) rfl rfl (nr rfl) rfl rfl nd (fun V146 le147 ow148 => ?_)
        refine U.done (nr rfl) ?_
        refine blkN (blkN (sqN ?_))
        exact ⟨_, V146, rfl, ⟨x30, x31, x32, w64 (4 * x138), rfl, ((le135.trans le143).trans le147), ow148, h140⟩, (allCons (L 20 rfl rfl) (allCons (L 21 rfl rfl) (allCons (L 22 rfl rfl) (allCons (L 23 rfl rfl) (allCons (L 24 rfl rfl) (allCons (L 25 rfl rfl) allNil))))))⟩
       ·have h149 := ifF c128 h127
        refine WP.usreg rfl ?_
        refine U.p rfl rfl (.inl rfl) (S.eqlI rfl (L 10 rfl rfl) K) ?_
        refine U.p rfl rfl (.inl rfl) (S.assign rfl (L 0 rfl rfl)) ?_
        refine U.done (nr rfl) ?_
        refine WP.cond _ (L 0 rfl rfl) rfl (fun c150 => ?_) (fun c150 => ?_)
        ·have h151 := ifT c150 h149
         refine WP.ureg rfl ?_
         refine U.p rfl rfl (.inl rfl) (S.move rfl (L 17 rfl rfl)) ?_
         obtain ⟨x152, hx153, h154⟩ := bindS h151
         refine O.call (V := V40) rfl rfl (.inl rfl) rfl en38 (aC (L 0 rfl rfl) (aC K (aC K aN))) (wk_word_Get V40 _ (gl.up ((((le3.trans le8).trans le12).trans le27).trans le41)) p1 16 14 ow42 _ hx153) (fun _ _ _ _ => nd) (fun v155 V156 le157 hp158 => ?_)
         obtain ⟨rfl, ow159⟩ := hp158
         obtain ⟨x160, hx161, h162⟩ := bindS h154
         refine O.call (V := V156) rfl rfl (.inl rfl) rfl en39 (aC (L 0 rfl rfl) (aC K aN)) (wk_word_Signed V156 _ (gl.up (((((le3.trans le8).trans le12).trans le27).trans le41).trans le157)) x152 14 ow159 _ hx161) (fun _ _ _ _ => nd) (fun v163 V164 le165 hp166 => ?_)
         obtain ⟨rfl, ow167⟩ := hp166
         refine U.p (v := .pointer (some ⟨b6, 4, none⟩)) rfl rfl (.inl rfl) (S.fieldAddr rfl (L 22 rfl rfl) Tryd.underlying25 rfl ti3 rfl rfl) ?_
         refine O.store (k := 1) (cs := [.int .i64 x160]) (c' := [.int .i64 p0, .int .i64 x30, .int .i64 x31, .int .i64 x32, .int .i64 x160]) ow167 rfl rfl rfl (.inl rfl) rfl (L 0 rfl rfl) (L 1 rfl rfl) ti3 (by simp [topV]) rfl rfl (nr rfl) rfl rfl nd (fun V168 le169 ow170 => ?_)
         refine U.done (nr rfl) ?_
         refine blkN (blkN (sqN ?_))
         exact ⟨_, V168, rfl, ⟨x30, x31, x32, x160, rfl, ((le157.trans le165).trans le169), ow170, h162⟩, (allCons (L 21 rfl rfl) (allCons (L 22 rfl rfl) (allCons (L 23 rfl rfl) (allCons (L 24 rfl rfl) (allCons (L 25 rfl rfl) (allCons (L 26 rfl rfl) allNil))))))⟩
        ·have h171 := ifF c150 h149
         refine WP.usreg rfl ?_
         refine U.p rfl rfl (.inl rfl) (S.eqlI rfl (L 12 rfl rfl) K) ?_
         refine U.p rfl rfl (.inl rfl) (S.assign rfl (L 0 rfl rfl)) ?_
         refine U.done (nr rfl) ?_
         refine WP.cond _ (L 0 rfl rfl) rfl (fun c172 => ?_) (fun c172 => ?_)
         ·have h173 := ifT c172 h171
          refine WP.ureg rfl ?_
          refine U.p rfl rfl (.inl rfl) (S.move rfl (L 19 rfl rfl)) ?_
          obtain ⟨x174, hx175, h176⟩ := bindS h173
          refine O.call (V := V40) rfl rfl (.inl rfl) rfl en38 (aC (L 0 rfl rfl) (aC K (aC K aN))) (wk_word_Get V40 _ (gl.up ((((le3.trans le8).trans le12).trans le27).trans le41)) p1 6 24 ow42 _ hx175) (fun _ _ _ _ => nd) (fun v177 V178 le179 hp180 => ?_)
          obtain ⟨rfl, ow181⟩ := hp180
          obtain ⟨x182, hx183, h184⟩ := bindS h176
          refine O.call (V := V178) rfl rfl (.inl rfl) rfl en39 (aC (L 0 rfl rfl) (aC K aN)) (wk_word_Signed V178 _ (gl.up (((((le3.trans le8).trans le12).trans le27).trans le41).trans le179)) x174 24 ow181 _ hx183) (fun _ _ _ _ => nd) (fun v185 V186 le187 hp188 => ?_)
          obtain ⟨rfl, ow189⟩ := hp188
          refine U.p (v := .pointer (some ⟨b6, 4, none⟩)) rfl rfl (.inl rfl) (S.fieldAddr rfl (L 24 rfl rfl) Tryd.underlying25 rfl ti3 rfl rfl) ?_
          refine O.store (k := 1) (cs := [.int .i64 x182]) (c' := [.int .i64 p0, .int .i64 x30, .int .i64 x31, .int .i64 x32, .int .i64 x182]) ow189 rfl rfl rfl (.inl rfl) rfl (L 0 rfl rfl) (L 1 rfl rfl) ti3 (by simp [topV]) rfl rfl (nr rfl) rfl rfl nd (fun V190 le191 ow192 => ?_)
          refine U.done (nr rfl) ?_
          refine blkN (blkN (sqN ?_))
          exact ⟨_, V190, rfl, ⟨x30, x31, x32, x182, rfl, ((le179.trans le187).trans le191), ow192, h184⟩, (allCons (L 23 rfl rfl) (allCons (L 24 rfl rfl) (allCons (L 25 rfl rfl) (allCons (L 26 rfl rfl) (allCons (L 27 rfl rfl) (allCons (L 28 rfl rfl) allNil))))))⟩
         ·have h193 := ifF c172 h171
          refine WP.usreg rfl ?_
          refine U.p rfl rfl (.inl rfl) (S.eqlI rfl (L 14 rfl rfl) K) ?_
          refine U.p rfl rfl (.inl rfl) (S.assign rfl (L 0 rfl rfl)) ?_
          refine U.done (nr rfl) ?_
          refine WP.cond _ (L 0 rfl rfl) rfl (fun c194 => ?_) (fun c194 => ?_)
          ·have h195 := ifT c194 h193
           refine WP.ureg rfl ?_
           refine U.p rfl rfl (.inl rfl) (S.move rfl (L 21 rfl rfl)) ?_
           obtain ⟨x196, hx197, h198⟩ := bindS h195
           refine O.call (V := V40) rfl rfl (.inl rfl) rfl en38 (aC (L 0 rfl rfl) (aC K (aC K aN))) (wk_word_Get V40 _ (gl.up ((((le3.trans le8).trans le12).trans le27).trans le41)) p1 6 5 ow42 _ hx197) (fun _ _ _ _ => nd) (fun v199 V200 le201 hp202 => ?_)
           obtain ⟨rfl, ow203⟩ := hp202
           refine U.p rfl rfl (.inl rfl) (S.conv rfl (L 0 rfl rfl) Tryd.underlying22 Tryd.underlying3) ?_
           refine U.p rfl rfl (.inl rfl) (S.move rfl (L 24 rfl rfl)) ?_
           obtain ⟨x204, hx205, h206⟩ := bindS h198
           refine O.call (V := V200) rfl rfl (.inl rfl) rfl en38 (aC (L 0 rfl rfl) (aC K (aC K aN))) (wk_word_Get V200 _ (gl.up (((((le3.trans le8).trans le12).trans le27).trans le41).trans le201)) p1 11 5 ow203 _ hx205) (fun _ _ _ _ => nd) (fun v207 V208 le209 hp210 => ?_)
           obtain ⟨rfl, ow211⟩ := hp210
           refine U.p rfl rfl (.inl rfl) (S.conv rfl (L 0 rfl rfl) Tryd.underlying22 Tryd.underlying3) ?_
           refine U.p (v := .pointer (some ⟨b6, 1, none⟩)) rfl rfl (.inl rfl) (S.fieldAddr rfl (L 29 rfl rfl) Tryd.underlying25 rfl ti3 rfl rfl) ?_
           refine O.store (k := 1) (cs := [.int .i64 (w64 x196)]) (c' := [.int .i64 p0, .int .i64 (w64 x196), .int .i64 x31, .int .i64 x32, .int .i64 x33]) ow211 rfl rfl rfl (.inl rfl) rfl (L 0 rfl rfl) (L 4 rfl rfl) ti3 (by simp [topV]) rfl rfl (nr rfl) rfl rfl nd (fun V212 le213 ow214 => ?_)
           refine U.p (v := .pointer (some ⟨b6, 2, none⟩)) rfl rfl (.inl rfl) (S.fieldAddr rfl (L 30 rfl rfl) Tryd.underlying25 rfl ti3 rfl rfl) ?_
           refine O.store (k := 1) (cs := [.int .i64 (w64 x204)]) (c' := [.int .i64 p0, .int .i64 (w64 x196), .int .i64 (w64 x204), .int .i64 x32, .int .i64 x33]) ow214 rfl rfl rfl (.inl rfl) rfl (L 0 rfl rfl) (L 2 rfl rfl) ti3 (by simp [topV]) rfl rfl (nr rfl) rfl rfl nd (fun V215 le216 ow217 => ?_)
           refine U.done (nr rfl) ?_
           refine blkN (blkN (sqN ?_))
           exact ⟨_, V215, rfl, ⟨w64 x196, w64 x204, x32, x33, rfl, (((le201.trans le209).trans le213).trans le216), ow217, h206⟩, (allCons (L 29 rfl rfl) (allCons (L 30 rfl rfl) (allCons (L 31 rfl rfl) (allCons (L 32 rfl rfl) (allCons (L 33 rfl rfl) (allCons (L 34 rfl rfl) allNil))))))⟩
          ·have h218 := ifF c194 h193
           refine WP.skip ?_
           refine blkN (blkN (sqN ?_))
           exact ⟨_, V40, rfl, ⟨x30, x31, x32, x33, rfl, (.refl _), ow42, h218⟩, (allCons (L 21 rfl rfl) (allCons (L 22 rfl rfl) (allCons (L 23 rfl rfl) (allCons (L 24 rfl rfl) (allCons (L 25 rfl rfl) (allCons (L 26 rfl rfl) allNil))))))⟩
 ·have h219 := ifF c48 h47
  refine WP.exit ?_
  refine sqE (sqE (blkE (sqN ?_)))
  have h220 := exitS h219 e45
  refine WP.usreg rfl ?_
  refine U.k rfl rfl (.inl rfl) (S.loadB rfl (L 3 rfl rfl) Tryd.underlying25 rfl ti25 (ow42.own (k := 1) rfl).get rfl) nd ?_
  refine O.store (k := 0) (cs := [.int .i64 p0, .int .i64 x30, .int .i64 x31, .int .i64 x32, .int .i64 x33]) (c' := [.int .i64 p0, .int .i64 x30, .int .i64 x31, .int .i64 x32, .int .i64 x33]) ow42 rfl rfl rfl (.inl rfl) rfl (L 3 rfl rfl) (L 0 rfl rfl) ti25 (by simp [topV]) rfl rfl (nr rfl) rfl rfl nd (fun V221 le222 ow223 => ?_)
  refine U.done (nr rfl) ?_
  refine WP.ret ?_
  refine fin.cellN (.inr rfl) rfl (L 3 rfl rfl) Tryd.underlying25 rfl ti25 (ow223.own (k := 0) rfl).get rfl ⟨V221, rfl, (((((le3.trans le8).trans le12).trans le27).trans le41).trans le222), ?_⟩
  have ow224 := ow223.drop 0 rfl
  have ow225 := ow224.drop 0 rfl
  have ow226 := ow225.drop 0 rfl
  have e227 := Option.some.inj h220
  subst e227
  exact ⟨rfl, ow226⟩
set_option maxHeartbeats 4000000 in
set_option maxRecDepth 10000 in
theorem wk_isa_Decode (V : Vw) (Rs : List At) (gl : Glb V) (p0 : Int) (ow : Ow V (Rs)) (r : TInst × Int) (h : isa_Decode p0 = some r) : ∃ v V', Cl Tryd.prog NG 11 #[.int .u32 p0] V.H v V'.H ∧ V.le V' ∧ (v = .tuple #[.agg #[.int .i64 r.1.op, .int .i64 r.1.d, .int .i64 r.1.a, .int .i64 r.1.b, .int .i64 r.1.imm], .int .i64 r.2] ∧ Ow V' (Rs)) := by
 refine Ct.of gl.lo Tryd.func11 rfl (nr rfl) ?_
 unfold isa_Decode at h
 refine WP.usreg rfl ?_
 refine O.alloc ow rfl rfl (.inl rfl) rfl ti25 rfl rfl nd (fun b1 V2 le3 ow4 => ?_)
 refine U.p rfl rfl (.inl rfl) (S.assign rfl K) ?_
 refine U.done (nr rfl) ?_
 refine WP.seq ?_
 refine WP.usreg rfl ?_
 refine U.p rfl rfl (.inl rfl) (S.assign rfl K) ?_
 refine U.done (nr rfl) ?_
 refine WP.blk ?_
 unfold isa_Decode_l1 at h
 obtain ⟨n8, hn7⟩ := loopO_some.1 h
 refine WP.loopI2 (fun n l V' => ∃ (x6 : Int), l = [(0, .int .u32 p0), (2, .pointer (some ⟨b1, 0, none⟩)), (4, .int .i64 x6)] ∧ V2.le V' ∧ Ow V' (.pt b1 (.cells 5 [.int .i64 0, .int .i64 0, .int .i64 0, .int .i64 0, .int .i64 0]) :: Rs) ∧ itO (fun s => isa_Decode_l1b p0 s) n x6 = some r) n8 _ ⟨1, rfl, .refl _, ow4, hn7⟩ (allCons (L 3 rfl rfl) (allCons (L 2 rfl rfl) (allCons (L 0 rfl rfl) allNil))) ?_
 rintro _ _ V9 ⟨x6, rfl, le10, ow11, h15⟩
 obtain ⟨m12, q13, rfl, h16, e14⟩ := itS h15
 replace h16 : isa_Decode_l1b p0 x6 = some q13 := h16
 unfold isa_Decode_l1b at h16
 refine WP.seq ?_
 refine WP.usreg rfl ?_
 refine U.p rfl rfl (.inl rfl) (S.move rfl (L 2 rfl rfl)) ?_
 refine U.p rfl rfl (.inl rfl) (S.leq rfl (L 0 rfl rfl) K) ?_
 refine U.done (nr rfl) ?_
 refine WP.cond _ (L 0 rfl rfl) rfl (fun c17 => ?_) (fun c17 => ?_)
 ·have h18 := ifT c17 h16
  refine WP.skip ?_
  refine sqN ?_
  refine WP.seq ?_
  refine WP.blk ?_
  refine WP.usreg rfl ?_
  refine U.p rfl rfl (.inl rfl) (S.move rfl (L 4 rfl rfl)) ?_
  refine U.p rfl rfl (.inl rfl) (S.move rfl (L 3 rfl rfl)) ?_
  obtain ⟨x19, hx20, h21⟩ := bindS h18
  refine O.call (V := V9) rfl rfl (.inl rfl) rfl en24 (aC (L 1 rfl rfl) (aC (L 0 rfl rfl) aN)) (wk_isa_read V9 _ (gl.up (le3.trans le10)) x6 p0 ow11 _ hx20) (fun _ _ _ _ => nd) (fun v22 V23 le24 hp25 => ?_)
  obtain ⟨rfl, ow26⟩ := hp25
  refine O.alloc ow26 rfl rfl (.inl rfl) rfl ti25 rfl rfl nd (fun b27 V28 le29 ow30 => ?_)
  refine O.store (k := 0) (cs := [.int .i64 x19.op, .int .i64 x19.d, .int .i64 x19.a, .int .i64 x19.b, .int .i64 x19.imm]) (c' := [.int .i64 x19.op, .int .i64 x19.d, .int .i64 x19.a, .int .i64 x19.b, .int .i64 x19.imm]) ow30 rfl rfl rfl (.inl rfl) rfl (L 0 rfl rfl) (L 1 rfl rfl) ti25 (by simp [topV]) rfl rfl (nr rfl) rfl rfl nd (fun V32 le33 ow34 => ?_)
  refine U.done (nr rfl) ?_
  refine WP.usreg rfl ?_
  refine U.k rfl rfl (.inl rfl) (S.loadB rfl (L 0 rfl rfl) Tryd.underlying25 rfl ti25 (ow34.own (k := 0) rfl).get rfl) nd ?_
  obtain ⟨x35, hx36, h37⟩ := bindS h21
  refine O.call (V := V32) rfl rfl (.inl rfl) rfl en13 (aC (L 0 rfl rfl) aN) (wk_isa_Encode V32 _ (gl.up ((((le3.trans le10).trans le24).trans le29).trans le33)) x19 ow34 _ hx36) (fun _ _ _ _ => nd) (fun v38 V39 le40 hp41 => ?_)
  obtain ⟨rfl, ow42⟩ := hp41
  refine U.p rfl rfl (.inl rfl) (S.move rfl (L 0 rfl rfl)) ?_
  refine U.p rfl rfl (.inl rfl) (S.extract rfl (L 0 rfl rfl) rfl (nr rfl)) ?_
  refine U.p rfl rfl (.inl rfl) (S.extract rfl (L 1 rfl rfl) rfl (nr rfl)) ?_
  refine U.p rfl rfl (.inl rfl) (S.assign rfl (L 1 rfl rfl)) ?_
  refine U.p rfl rfl (.inl rfl) (S.assign rfl (L 1 rfl rfl)) ?_
  refine U.done (nr rfl) ?_
  refine WP.usreg rfl ?_
  refine U.p rfl rfl (.inl rfl) (S.move rfl (L 0 rfl rfl)) ?_
  refine U.p rfl rfl (.inl rfl) (S.eqlI rfl (L 0 rfl rfl) K) ?_
  refine U.p rfl rfl (.inl rfl) (S.move rfl (L 0 rfl rfl)) ?_
  refine U.joinX 7 (fun e H => ∃ (u43 u44 u45 : Value), H = V39.H ∧ e = [(26, .bool ((decide (x35.2 = 0)) && (decide (x35.1 = p0)))), (25, u43), (24, u44), (23, u45)]) ?_ ?_
  ·rintro _ _ ⟨u43, u44, u45, rfl, rfl⟩
   refine U.done (nr rfl) ?_
   refine WP.cond _ (L 0 rfl rfl) rfl (fun c49 => ?_) (fun c49 => ?_)
   ·have h50 := ifT c49 h37
    refine WP.usreg rfl ?_
    refine U.k rfl rfl (.inl rfl) (S.loadB rfl (L 14 rfl rfl) Tryd.underlying25 rfl ti25 (ow42.own (k := 0) rfl).get rfl) nd ?_
    refine O.store (k := 1) (cs := [.int .i64 x19.op, .int .i64 x19.d, .int .i64 x19.a, .int .i64 x19.b, .int .i64 x19.imm]) (c' := [.int .i64 x19.op, .int .i64 x19.d, .int .i64 x19.a, .int .i64 x19.b, .int .i64 x19.imm]) ow42 rfl rfl rfl (.inl rfl) rfl (L 22 rfl rfl) (L 0 rfl rfl) ti25 (by simp [topV]) rfl rfl (nr rfl) rfl rfl nd (fun V51 le52 ow53 => ?_)
    refine U.p rfl rfl (.inl rfl) (S.assign rfl K) ?_
    refine U.done (nr rfl) ?_
    refine WP.ret ?_
    refine blkR (sqR (sqR (blkR (sqR ?_))))
    have h54 := exitS h50 e14
    refine fin.mix (.inr rfl) (resA (L 23 rfl rfl) Tryd.underlying25 rfl ti25 (ow53.own (k := 1) rfl).get rfl (resT (L 0 rfl rfl) res0)) rfl ⟨V51, rfl, ((((((le3.trans le10).trans le24).trans le29).trans le33).trans le40).trans le52), ?_⟩
    have ow55 := ow53.drop 0 rfl
    have ow56 := ow55.drop 0 rfl
    have e57 := Option.some.inj h54
    subst e57
    exact ⟨rfl, ow56⟩
   ·have h58 := ifF c49 h37
    refine WP.skip ?_
    refine blkN (sqN ?_)
    refine WP.ureg rfl ?_
    refine U.p rfl rfl (.inl rfl) (S.move rfl (L 22 rfl rfl)) ?_
    refine U.p rfl rfl (.inl rfl) (S.add rfl (L 0 rfl rfl) K) ?_
    refine U.p rfl rfl (.inl rfl) (S.assign rfl (L 0 rfl rfl)) ?_
    refine U.done (nr rfl) ?_
    refine sqN ?_
    have ow59 := ow42.drop 0 rfl
    exact ⟨_, V39, rfl, ⟨m12, Nat.lt_succ_self _, w64 (x6 + 1), rfl, ((((le10.trans le24).trans le29).trans le33).trans le40), ow59, backS h58 e14⟩, (allCons (L 23 rfl rfl) (allCons (L 24 rfl rfl) (allCons (L 0 rfl rfl) allNil)))⟩
  ·intro kk
   refine bcase (b := decide (x35.2 = 0)) (fun g60 => ?_) (fun g60 => ?_)
   ·skip
    refine U.p rfl rfl (.inr ⟨_, _, _, rfl, rfl, ((L 0 rfl rfl).trans (congrArg Value.bool g60))⟩) (S.move rfl (L 4 rfl rfl)) ?_
    refine U.p rfl rfl (.inr ⟨_, _, _, rfl, rfl, ((L 1 rfl rfl).trans (congrArg Value.bool g60))⟩) (S.move rfl (L 17 rfl rfl)) ?_
    refine U.p rfl rfl (.inr ⟨_, _, _, rfl, rfl, ((L 2 rfl rfl).trans (congrArg Value.bool g60))⟩) (S.eqlI rfl (L 1 rfl rfl) (L 0 rfl rfl)) ?_
    refine U.p rfl rfl (.inl rfl) (S.pickT rfl ((L 3 rfl rfl).trans (congrArg Value.bool g60)) (L 0 rfl rfl)) ?_
    exact kk [(26, .bool (decide (x35.1 = p0))), (25, .bool (decide (x35.1 = p0))), (24, .int .u32 p0), (23, .int .u32 x35.1)] _ ⟨.bool (decide (x35.1 = p0)), .int .u32 p0, .int .u32 x35.1, rfl, (by rw [g60, Bool.true_and])⟩
   ·skip
    refine U.x rfl rfl rfl rfl ((L 0 rfl rfl).trans (congrArg Value.bool g60)) (by decide) ?_
    refine U.x rfl rfl rfl rfl ((L 1 rfl rfl).trans (congrArg Value.bool g60)) (by decide) ?_
    refine U.x rfl rfl rfl rfl ((L 2 rfl rfl).trans (congrArg Value.bool g60)) (by decide) ?_
    refine U.p rfl rfl (.inl rfl) (S.pickF rfl ((L 3 rfl rfl).trans (congrArg Value.bool g60)) K) ?_
    exact kk [(26, .bool false), (25, .tuple #[]), (24, .tuple #[]), (23, .tuple #[])] _ ⟨.tuple #[], .tuple #[], .tuple #[], rfl, (by rw [g60, Bool.false_and])⟩
 ·have h61 := ifF c17 h16
  refine WP.exit ?_
  refine sqE (sqE (blkE (sqN ?_)))
  have h62 := exitS h61 e14
  refine WP.usreg rfl ?_
  refine U.p (v := .agg #[.int .i64 0, .int .i64 0, .int .i64 0, .int .i64 0, .int .i64 0]) rfl rfl (.inl rfl) (S.build (vs := []) rfl ti25 rfl pl25 aN allN rfl) ?_
  refine O.store (k := 0) (cs := [.int .i64 0, .int .i64 0, .int .i64 0, .int .i64 0, .int .i64 0]) (c' := [.int .i64 0, .int .i64 0, .int .i64 0, .int .i64 0, .int .i64 0]) ow11 rfl rfl rfl (.inl rfl) rfl (L 4 rfl rfl) (L 0 rfl rfl) ti25 (by simp [topV]) rfl rfl (nr rfl) rfl rfl nd (fun V63 le64 ow65 => ?_)
  refine U.p rfl rfl (.inl rfl) (S.assign rfl K) ?_
  refine U.done (nr rfl) ?_
  refine WP.ret ?_
  refine fin.mix (.inr rfl) (resA (L 5 rfl rfl) Tryd.underlying25 rfl ti25 (ow65.own (k := 0) rfl).get rfl (resT (L 0 rfl rfl) res0)) rfl ⟨V63, rfl, ((le3.trans le10).trans le64), ?_⟩
  have ow66 := ow65.drop 0 rfl
  have e67 := Option.some.inj h62
  subst e67
  exact ⟨rfl, ow66⟩
set_option maxHeartbeats 4000000 in
set_option maxRecDepth 10000 in
theorem wk_law02_alive (V : Vw) (Rs : List At) (gl : Glb V) (ow : Ow V (Rs)) (r : Bool) (h : law02_alive = some r) : ∃ v V', Cl Tryd.prog NG 10 #[] V.H v V'.H ∧ V.le V' ∧ (v = .bool r ∧ Ow V' (Rs)) := by
 refine Ct.of gl.lo Tryd.func10 rfl (nr rfl) ?_
 unfold law02_alive at h
 refine WP.usreg rfl ?_
 refine U.p rfl rfl (.inl rfl) (S.assign rfl K) ?_
 refine U.done (nr rfl) ?_
 refine WP.usreg rfl ?_
 refine U.p (v := .agg #[.int .i64 1, .int .i64 3, .int .i64 4, .int .i64 0, .int .i64 8]) rfl rfl (.inl rfl) (S.build (vs := [.int .i64 1, .int .i64 3, .int .i64 4, .int .i64 8]) rfl ti25 rfl pl25 (aC K (aC K (aC K (aC K aN)))) (allC (by simp [topV]) (allC (by simp [topV]) (allC (by simp [topV]) (allC (by simp [topV]) allN)))) rfl) ?_
 obtain ⟨x1, hx2, h3⟩ := bindS h
 refine O.call (V := V) rfl rfl (.inl rfl) rfl en13 (aC (L 0 rfl rfl) aN) (wk_isa_Encode V _ gl (⟨1, 3, 4, 0, 8⟩ : TInst) ow _ hx2) (fun _ _ _ _ => nd) (fun v4 V5 le6 hp7 => ?_)
 obtain ⟨rfl, ow8⟩ := hp7
 refine U.p rfl rfl (.inl rfl) (S.move rfl (L 0 rfl rfl)) ?_
 refine U.p rfl rfl (.inl rfl) (S.extract rfl (L 0 rfl rfl) rfl (nr rfl)) ?_
 refine U.p rfl rfl (.inl rfl) (S.extract rfl (L 1 rfl rfl) rfl (nr rfl)) ?_
 refine U.p rfl rfl (.inl rfl) (S.assign rfl (L 1 rfl rfl)) ?_
 refine U.p rfl rfl (.inl rfl) (S.assign rfl (L 1 rfl rfl)) ?_
 refine U.done (nr rfl) ?_
 refine WP.usreg rfl ?_
 obtain ⟨x9, hx10, h11⟩ := bindS h3
 refine O.call (V := V5) rfl rfl (.inl rfl) rfl en11 (aC K aN) (wk_isa_Decode V5 _ (gl.up le6) 0 ow8 _ hx10) (fun _ _ _ _ => nd) (fun v12 V13 le14 hp15 => ?_)
 obtain ⟨rfl, ow16⟩ := hp15
 refine U.p rfl rfl (.inl rfl) (S.move rfl (L 0 rfl rfl)) ?_
 refine U.p rfl rfl (.inl rfl) (S.extract rfl (L 0 rfl rfl) rfl (nr rfl)) ?_
 refine U.p rfl rfl (.inl rfl) (S.extract rfl (L 1 rfl rfl) rfl (nr rfl)) ?_
 refine O.alloc ow16 rfl rfl (.inl rfl) rfl ti25 rfl rfl nd (fun b17 V18 le19 ow20 => ?_)
 refine O.store (k := 0) (cs := [.int .i64 x9.1.op, .int .i64 x9.1.d, .int .i64 x9.1.a, .int .i64 x9.1.b, .int .i64 x9.1.imm]) (c' := [.int .i64 x9.1.op, .int .i64 x9.1.d, .int .i64 x9.1.a, .int .i64 x9.1.b, .int .i64 x9.1.imm]) ow20 rfl rfl rfl (.inl rfl) rfl (L 0 rfl rfl) (L 2 rfl rfl) ti25 (by simp [topV]) rfl rfl (nr rfl) rfl rfl nd (fun V22 le23 ow24 => ?_)
 refine U.p rfl rfl (.inl rfl) (S.assign rfl (L 1 rfl rfl)) ?_
 refine U.done (nr rfl) ?_
 refine WP.usreg rfl ?_
 refine U.p rfl rfl (.inl rfl) (S.move rfl (L 7 rfl rfl)) ?_
 refine U.p rfl rfl (.inl rfl) (S.eqlI rfl (L 0 rfl rfl) K) ?_
 refine U.p rfl rfl (.inl rfl) (S.move rfl (L 0 rfl rfl)) ?_
 refine U.joinX 6 (fun e H => ∃ (u25 u26 : Value), H = V22.H ∧ e = [(19, .bool ((decide (x1.1 = 3898867720)) && (decide (x1.2 = 0)))), (18, u25), (17, u26)]) ?_ ?_
 ·rintro _ _ ⟨u25, u26, rfl, rfl⟩
  refine U.p rfl rfl (.inl rfl) (S.move rfl (L 0 rfl rfl)) ?_
  refine U.joinX 10 (fun e H => ∃ (u30 u31 : Value), H = V22.H ∧ e = [(23, .bool (((decide (x1.1 = 3898867720)) && (decide (x1.2 = 0))) && (decide (x9.2 = 4)))), (22, u30), (21, u31)]) ?_ ?_
  ·rintro _ _ ⟨u30, u31, rfl, rfl⟩
   refine U.p rfl rfl (.inl rfl) (S.assign rfl (L 0 rfl rfl)) ?_
   refine U.done (nr rfl) ?_
   refine WP.ret ?_
   refine fin.slot (.inr rfl) rfl (L 0 rfl rfl) ⟨V22, rfl, (((le6.trans le14).trans le19).trans le23), ?_⟩
   have ow35 := ow24.drop 0 rfl
   have e36 := Option.some.inj h11
   subst e36
   exact ⟨rfl, ow35⟩
  ·intro kk
   refine bcase (b := (decide (x1.1 = 3898867720)) && (decide (x1.2 = 0))) (fun g37 => ?_) (fun g37 => ?_)
   ·skip
    refine U.p rfl rfl (.inr ⟨_, _, _, rfl, rfl, ((L 0 rfl rfl).trans (congrArg Value.bool g37))⟩) (S.move rfl (L 7 rfl rfl)) ?_
    refine U.p rfl rfl (.inr ⟨_, _, _, rfl, rfl, ((L 1 rfl rfl).trans (congrArg Value.bool g37))⟩) (S.eqlI rfl (L 0 rfl rfl) K) ?_
    refine U.p rfl rfl (.inl rfl) (S.pickT rfl ((L 2 rfl rfl).trans (congrArg Value.bool g37)) (L 0 rfl rfl)) ?_
    exact kk [(23, .bool (decide (x9.2 = 4))), (22, .bool (decide (x9.2 = 4))), (21, .int .i64 x9.2)] _ ⟨.bool (decide (x9.2 = 4)), .int .i64 x9.2, rfl, (by rw [g37, Bool.true_and])⟩
   ·skip
    refine U.x rfl rfl rfl rfl ((L 0 rfl rfl).trans (congrArg Value.bool g37)) (by decide) ?_
    refine U.x rfl rfl rfl rfl ((L 1 rfl rfl).trans (congrArg Value.bool g37)) (by decide) ?_
    refine U.p rfl rfl (.inl rfl) (S.pickF rfl ((L 2 rfl rfl).trans (congrArg Value.bool g37)) K) ?_
    exact kk [(23, .bool false), (22, .tuple #[]), (21, .tuple #[])] _ ⟨.tuple #[], .tuple #[], rfl, (by rw [g37, Bool.false_and])⟩
 ·intro kk
  refine bcase (b := decide (x1.1 = 3898867720)) (fun g38 => ?_) (fun g38 => ?_)
  ·skip
   refine U.p rfl rfl (.inr ⟨_, _, _, rfl, rfl, ((L 0 rfl rfl).trans (congrArg Value.bool g38))⟩) (S.move rfl (L 9 rfl rfl)) ?_
   refine U.p rfl rfl (.inr ⟨_, _, _, rfl, rfl, ((L 1 rfl rfl).trans (congrArg Value.bool g38))⟩) (S.eqlI rfl (L 0 rfl rfl) K) ?_
   refine U.p rfl rfl (.inl rfl) (S.pickT rfl ((L 2 rfl rfl).trans (congrArg Value.bool g38)) (L 0 rfl rfl)) ?_
   exact kk [(19, .bool (decide (x1.2 = 0))), (18, .bool (decide (x1.2 = 0))), (17, .int .i64 x1.2)] _ ⟨.bool (decide (x1.2 = 0)), .int .i64 x1.2, rfl, (by rw [g38, Bool.true_and])⟩
  ·skip
   refine U.x rfl rfl rfl rfl ((L 0 rfl rfl).trans (congrArg Value.bool g38)) (by decide) ?_
   refine U.x rfl rfl rfl rfl ((L 1 rfl rfl).trans (congrArg Value.bool g38)) (by decide) ?_
   refine U.p rfl rfl (.inl rfl) (S.pickF rfl ((L 2 rfl rfl).trans (congrArg Value.bool g38)) K) ?_
   exact kk [(19, .bool false), (18, .tuple #[]), (17, .tuple #[])] _ ⟨.tuple #[], .tuple #[], rfl, (by rw [g38, Bool.false_and])⟩
set_option maxHeartbeats 4000000 in
set_option maxRecDepth 10000 in
theorem wk_ref02_ext (V : Vw) (Rs : List At) (gl : Glb V) (p0 : Int) (ow : Ow V (Rs)) (r : Int) (h : ref02_ext p0 = some r) : ∃ v V', Cl Tryd.prog NG 31 #[.int .u32 p0] V.H v V'.H ∧ V.le V' ∧ (v = .int .u32 r ∧ Ow V' (Rs)) := by
 refine Ct.of gl.lo Tryd.func31 rfl (nr rfl) ?_
 unfold ref02_ext at h
 refine WP.usreg rfl ?_
 refine U.p rfl rfl (.inl rfl) (S.assign rfl K) ?_
 refine U.done (nr rfl) ?_
 refine WP.usreg rfl ?_
 refine U.p rfl rfl (.inl rfl) (S.move rfl (L 1 rfl rfl)) ?_
 refine U.p rfl rfl (.inl rfl) (S.mul rfl K (L 0 rfl rfl)) ?_
 refine U.p rfl rfl (.inl rfl) (S.add rfl K (L 0 rfl rfl)) ?_
 refine U.p rfl rfl (.inl rfl) (S.assign rfl (L 0 rfl rfl)) ?_
 refine U.done (nr rfl) ?_
 refine WP.ret ?_
 refine fin.slot (.inr rfl) rfl (L 0 rfl rfl) ⟨V, rfl, (.refl _), ?_⟩
 have e1 := Option.some.inj h
 subst e1
 exact ⟨rfl, ow⟩
set_option maxHeartbeats 4000000 in
set_option maxRecDepth 10000 in
theorem wk_ref02_Of (V : Vw) (Rs : List At) (gl : Glb V) (p0 : Int) (ow : Ow V (Rs)) (r : Tref02_Has × Bool) (h : ref02_Of p0 = some r) : ∃ v V', Cl Tryd.prog NG 15 #[.int .i64 p0] V.H v V'.H ∧ V.le V' ∧ (v = .tuple #[.agg #[.string r.1.name, .bool r.1.d, .bool r.1.a, .bool r.1.b, .int .i64 r.1.imm, .int .u32 r.1.word], .bool r.2] ∧ Ow V' (Rs)) := by
 refine Ct.of gl.lo Tryd.func15 rfl (nr rfl) ?_
 unfold ref02_Of at h
 refine WP.usreg rfl ?_
 refine O.alloc ow rfl rfl (.inl rfl) rfl ti37 rfl rfl nd (fun b1 V2 le3 ow4 => ?_)
 refine U.p rfl rfl (.inl rfl) (S.assign rfl K) ?_
 refine U.done (nr rfl) ?_
 refine WP.seq ?_
 refine WP.usreg rfl ?_
 refine U.p rfl rfl (.inl rfl) (S.move rfl (L 2 rfl rfl)) ?_
 refine U.done (nr rfl) ?_
 refine WP.blk ?_
 refine WP.usreg rfl ?_
 refine U.p rfl rfl (.inl rfl) (S.eqlI rfl (L 0 rfl rfl) K) ?_
 refine U.p rfl rfl (.inl rfl) (S.assign rfl (L 0 rfl rfl)) ?_
 refine U.done (nr rfl) ?_
 refine WP.cond _ (L 0 rfl rfl) rfl (fun c6 => ?_) (fun c6 => ?_)
 ·have h7 := ifT c6 h
  refine WP.usreg rfl ?_
  refine U.p (v := .agg #[.string str1, .bool true, .bool true, .bool false, .int .i64 4, .int .u32 3892314112]) rfl rfl (.inl rfl) (S.build (vs := [.string str1, .bool true, .bool true, .bool false, .int .i64 4, .int .u32 3892314112]) rfl ti37 rfl pl37 (aC K (aC K (aC K (aC K (aC K (aC K aN)))))) (allC (by simp [topV]) (allC (by simp [topV]) (allC (by simp [topV]) (allC (by simp [topV]) (allC (by simp [topV]) (allC (by simp [topV]) allN)))))) rfl) ?_
  refine O.store (k := 0) (cs := [.string str1, .bool true, .bool true, .bool false, .int .i64 4, .int .u32 3892314112]) (c' := [.string str1, .bool true, .bool true, .bool false, .int .i64 4, .int .u32 3892314112]) ow4 rfl rfl rfl (.inl rfl) rfl (L 5 rfl rfl) (L 0 rfl rfl) ti37 (by simp [topV]) rfl rfl (nr rfl) rfl rfl nd (fun V8 le9 ow10 => ?_)
  refine U.p rfl rfl (.inl rfl) (S.assign rfl K) ?_
  refine U.done (nr rfl) ?_
  refine WP.ret ?_
  refine blkR (sqR ?_)
  refine fin.mix (.inr rfl) (resA (L 6 rfl rfl) Tryd.underlying37 rfl ti37 (ow10.own (k := 0) rfl).get rfl (resT (L 0 rfl rfl) res0)) rfl ⟨V8, rfl, (le3.trans le9), ?_⟩
  have ow11 := ow10.drop 0 rfl
  have e12 := Option.some.inj h7
  subst e12
  exact ⟨rfl, ow11⟩
 ·have h13 := ifF c6 h
  refine WP.usreg rfl ?_
  refine U.p rfl rfl (.inl rfl) (S.eqlI rfl (L 2 rfl rfl) K) ?_
  refine U.p rfl rfl (.inl rfl) (S.assign rfl (L 0 rfl rfl)) ?_
  refine U.done (nr rfl) ?_
  refine WP.cond _ (L 0 rfl rfl) rfl (fun c14 => ?_) (fun c14 => ?_)
  ·have h15 := ifT c14 h13
   refine WP.usreg rfl ?_
   refine U.p (v := .agg #[.string str3, .bool true, .bool true, .bool false, .int .i64 4, .int .u32 4160749568]) rfl rfl (.inl rfl) (S.build (vs := [.string str3, .bool true, .bool true, .bool false, .int .i64 4, .int .u32 4160749568]) rfl ti37 rfl pl37 (aC K (aC K (aC K (aC K (aC K (aC K aN)))))) (allC (by simp [topV]) (allC (by simp [topV]) (allC (by simp [topV]) (allC (by simp [topV]) (allC (by simp [topV]) (allC (by simp [topV]) allN)))))) rfl) ?_
   refine O.store (k := 0) (cs := [.string str3, .bool true, .bool true, .bool false, .int .i64 4, .int .u32 4160749568]) (c' := [.string str3, .bool true, .bool true, .bool false, .int .i64 4, .int .u32 4160749568]) ow4 rfl rfl rfl (.inl rfl) rfl (L 7 rfl rfl) (L 0 rfl rfl) ti37 (by simp [topV]) rfl rfl (nr rfl) rfl rfl nd (fun V16 le17 ow18 => ?_)
   refine U.p rfl rfl (.inl rfl) (S.assign rfl K) ?_
   refine U.done (nr rfl) ?_
   refine WP.ret ?_
   refine blkR (sqR ?_)
   refine fin.mix (.inr rfl) (resA (L 8 rfl rfl) Tryd.underlying37 rfl ti37 (ow18.own (k := 0) rfl).get rfl (resT (L 0 rfl rfl) res0)) rfl ⟨V16, rfl, (le3.trans le17), ?_⟩
   have ow19 := ow18.drop 0 rfl
   have e20 := Option.some.inj h15
   subst e20
   exact ⟨rfl, ow19⟩
  ·have h21 := ifF c14 h13
   refine WP.usreg rfl ?_
   refine U.p rfl rfl (.inl rfl) (S.eqlI rfl (L 4 rfl rfl) K) ?_
   refine U.p rfl rfl (.inl rfl) (S.assign rfl (L 0 rfl rfl)) ?_
   refine U.done (nr rfl) ?_
   refine WP.cond _ (L 0 rfl rfl) rfl (fun c22 => ?_) (fun c22 => ?_)
   ·have h23 := ifT c22 h21
    refine WP.usreg rfl ?_
    refine U.p (v := .agg #[.string str4, .bool true, .bool true, .bool false, .int .i64 16, .int .u32 939524096]) rfl rfl (.inl rfl) (S.build (vs := [.string str4, .bool true, .bool true, .bool false, .int .i64 16, .int .u32 939524096]) rfl ti37 rfl pl37 (aC K (aC K (aC K (aC K (aC K (aC K aN)))))) (allC (by simp [topV]) (allC (by simp [topV]) (allC (by simp [topV]) (allC (by simp [topV]) (allC (by simp [topV]) (allC (by simp [topV]) allN)))))) rfl) ?_
    refine O.store (k := 0) (cs := [.string str4, .bool true, .bool true, .bool false, .int .i64 16, .int .u32 939524096]) (c' := [.string str4, .bool true, .bool true, .bool false, .int .i64 16, .int .u32 939524096]) ow4 rfl rfl rfl (.inl rfl) rfl (L 9 rfl rfl) (L 0 rfl rfl) ti37 (by simp [topV]) rfl rfl (nr rfl) rfl rfl nd (fun V24 le25 ow26 => ?_)
    refine U.p rfl rfl (.inl rfl) (S.assign rfl K) ?_
    refine U.done (nr rfl) ?_
    refine WP.ret ?_
    refine blkR (sqR ?_)
    refine fin.mix (.inr rfl) (resA (L 10 rfl rfl) Tryd.underlying37 rfl ti37 (ow26.own (k := 0) rfl).get rfl (resT (L 0 rfl rfl) res0)) rfl ⟨V24, rfl, (le3.trans le25), ?_⟩
    have ow27 := ow26.drop 0 rfl
    have e28 := Option.some.inj h23
    subst e28
    exact ⟨rfl, ow27⟩
   ·have h29 := ifF c22 h21
    refine WP.usreg rfl ?_
    refine U.p rfl rfl (.inl rfl) (S.eqlI rfl (L 6 rfl rfl) K) ?_
    refine U.p rfl rfl (.inl rfl) (S.assign rfl (L 0 rfl rfl)) ?_
    refine U.done (nr rfl) ?_
    refine WP.cond _ (L 0 rfl rfl) rfl (fun c30 => ?_) (fun c30 => ?_)
    ·have h31 := ifT c30 h29
     refine WP.usreg rfl ?_
     obtain ⟨x32, hx33, h34⟩ := bindS h31
     refine O.call (V := V2) rfl rfl (.inl rfl) rfl en31 (aC K aN) (wk_ref02_ext V2 _ (gl.up le3) 266 ow4 _ hx33) (fun _ _ _ _ => nd) (fun v35 V36 le37 hp38 => ?_)
     obtain ⟨rfl, ow39⟩ := hp38
     refine U.p (v := .agg #[.string str6, .bool true, .bool true, .bool true, .int .i64 0, .int .u32 x32]) rfl rfl (.inl rfl) (S.build (vs := [.string str6, .bool true, .bool true, .bool true, .int .i64 0, .int .u32 x32]) rfl ti37 rfl pl37 (aC K (aC K (aC K (aC K (aC K (aC (L 0 rfl rfl) aN)))))) (allC (by simp [topV]) (allC (by simp [topV]) (allC (by simp [topV]) (allC (by simp [topV]) (allC (by simp [topV]) (allC (by simp [topV]) allN)))))) rfl) ?_
     refine O.store (k := 0) (cs := [.string str6, .bool true, .bool true, .bool true, .int .i64 0, .int .u32 x32]) (c' := [.string str6, .bool true, .bool true, .bool true, .int .i64 0, .int .u32 x32]) ow39 rfl rfl rfl (.inl rfl) rfl (L 12 rfl rfl) (L 0 rfl rfl) ti37 (by simp [topV]) rfl rfl (nr rfl) rfl rfl nd (fun V40 le41 ow42 => ?_)
     refine U.p rfl rfl (.inl rfl) (S.assign rfl K) ?_
     refine U.done (nr rfl) ?_
     refine WP.ret ?_
     refine blkR (sqR ?_)
     refine fin.mix (.inr rfl) (resA (L 13 rfl rfl) Tryd.underlying37 rfl ti37 (ow42.own (k := 0) rfl).get rfl (resT (L 0 rfl rfl) res0)) rfl ⟨V40, rfl, ((le3.trans le37).trans le41), ?_⟩
     have ow43 := ow42.drop 0 rfl
     have e44 := Option.some.inj h34
     subst e44
     exact ⟨rfl, ow43⟩
    ·have h45 := ifF c30 h29
     refine WP.usreg rfl ?_
     refine U.p rfl rfl (.inl rfl) (S.eqlI rfl (L 8 rfl rfl) K) ?_
     refine U.p rfl rfl (.inl rfl) (S.assign rfl (L 0 rfl rfl)) ?_
     refine U.done (nr rfl) ?_
     refine WP.cond _ (L 0 rfl rfl) rfl (fun c46 => ?_) (fun c46 => ?_)
     ·have h47 := ifT c46 h45
      refine WP.usreg rfl ?_
      obtain ⟨x48, hx49, h50⟩ := bindS h47
      refine O.call (V := V2) rfl rfl (.inl rfl) rfl en31 (aC K aN) (wk_ref02_ext V2 _ (gl.up le3) 40 ow4 _ hx49) (fun _ _ _ _ => nd) (fun v51 V52 le53 hp54 => ?_)
      obtain ⟨rfl, ow55⟩ := hp54
      refine U.p (v := .agg #[.string str8, .bool true, .bool true, .bool true, .int .i64 0, .int .u32 x48]) rfl rfl (.inl rfl) (S.build (vs := [.string str8, .bool true, .bool true, .bool true, .int .i64 0, .int .u32 x48]) rfl ti37 rfl pl37 (aC K (aC K (aC K (aC K (aC K (aC (L 0 rfl rfl) aN)))))) (allC (by simp [topV]) (allC (by simp [topV]) (allC (by simp [topV]) (allC (by simp [topV]) (allC (by simp [topV]) (allC (by simp [topV]) allN)))))) rfl) ?_
      refine O.store (k := 0) (cs := [.string str8, .bool true, .bool true, .bool true, .int .i64 0, .int .u32 x48]) (c' := [.string str8, .bool true, .bool true, .bool true, .int .i64 0, .int .u32 x48]) ow55 rfl rfl rfl (.inl rfl) rfl (L 14 rfl rfl) (L 0 rfl rfl) ti37 (by simp [topV]) rfl rfl (nr rfl) rfl rfl nd (fun V56 le57 ow58 => ?_)
      refine U.p rfl rfl (.inl rfl) (S.assign rfl K) ?_
      refine U.done (nr rfl) ?_
      refine WP.ret ?_
      refine blkR (sqR ?_)
      refine fin.mix (.inr rfl) (resA (L 15 rfl rfl) Tryd.underlying37 rfl ti37 (ow58.own (k := 0) rfl).get rfl (resT (L 0 rfl rfl) res0)) rfl ⟨V56, rfl, ((le3.trans le53).trans le57), ?_⟩
      have ow59 := ow58.drop 0 rfl
      have e60 := Option.some.inj h50
      subst e60
      exact ⟨rfl, ow59⟩
     ·have h61 := ifF c46 h45
      refine WP.usreg rfl ?_
      refine U.p rfl rfl (.inl rfl) (S.eqlI rfl (L 10 rfl rfl) K) ?_
      refine U.p rfl rfl (.inl rfl) (S.assign rfl (L 0 rfl rfl)) ?_
      refine U.done (nr rfl) ?_
      refine WP.cond _ (L 0 rfl rfl) rfl (fun c62 => ?_) (fun c62 => ?_)
      ·have h63 := ifT c62 h61
       refine WP.usreg rfl ?_
       obtain ⟨x64, hx65, h66⟩ := bindS h63
       refine O.call (V := V2) rfl rfl (.inl rfl) rfl en31 (aC K aN) (wk_ref02_ext V2 _ (gl.up le3) 233 ow4 _ hx65) (fun _ _ _ _ => nd) (fun v67 V68 le69 hp70 => ?_)
       obtain ⟨rfl, ow71⟩ := hp70
       refine U.p (v := .agg #[.string str9, .bool true, .bool true, .bool true, .int .i64 0, .int .u32 x64]) rfl rfl (.inl rfl) (S.build (vs := [.string str9, .bool true, .bool true, .bool true, .int .i64 0, .int .u32 x64]) rfl ti37 rfl pl37 (aC K (aC K (aC K (aC K (aC K (aC (L 0 rfl rfl) aN)))))) (allC (by simp [topV]) (allC (by simp [topV]) (allC (by simp [topV]) (allC (by simp [topV]) (allC (by simp [topV]) (allC (by simp [topV]) allN)))))) rfl) ?_
       refine O.store (k := 0) (cs := [.string str9, .bool true, .bool true, .bool true, .int .i64 0, .int .u32 x64]) (c' := [.string str9, .bool true, .bool true, .bool true, .int .i64 0, .int .u32 x64]) ow71 rfl rfl rfl (.inl rfl) rfl (L 16 rfl rfl) (L 0 rfl rfl) ti37 (by simp [topV]) rfl rfl (nr rfl) rfl rfl nd (fun V72 le73 ow74 => ?_)
       refine U.p rfl rfl (.inl rfl) (S.assign rfl K) ?_
       refine U.done (nr rfl) ?_
       refine WP.ret ?_
       refine blkR (sqR ?_)
       refine fin.mix (.inr rfl) (resA (L 17 rfl rfl) Tryd.underlying37 rfl ti37 (ow74.own (k := 0) rfl).get rfl (resT (L 0 rfl rfl) res0)) rfl ⟨V72, rfl, ((le3.trans le69).trans le73), ?_⟩
       have ow75 := ow74.drop 0 rfl
       have e76 := Option.some.inj h66
       subst e76
       exact ⟨rfl, ow75⟩
      ·have h77 := ifF c62 h61
       refine WP.usreg rfl ?_
       refine U.p rfl rfl (.inl rfl) (S.eqlI rfl (L 12 rfl rfl) K) ?_
       refine U.p rfl rfl (.inl rfl) (S.assign rfl (L 0 rfl rfl)) ?_
       refine U.done (nr rfl) ?_
       refine WP.cond _ (L 0 rfl rfl) rfl (fun c78 => ?_) (fun c78 => ?_)
       ·have h79 := ifT c78 h77
        refine WP.usreg rfl ?_
        obtain ⟨x80, hx81, h82⟩ := bindS h79
        refine O.call (V := V2) rfl rfl (.inl rfl) rfl en31 (aC K aN) (wk_ref02_ext V2 _ (gl.up le3) 489 ow4 _ hx81) (fun _ _ _ _ => nd) (fun v83 V84 le85 hp86 => ?_)
        obtain ⟨rfl, ow87⟩ := hp86
        refine U.p (v := .agg #[.string str10, .bool true, .bool true, .bool true, .int .i64 0, .int .u32 x80]) rfl rfl (.inl rfl) (S.build (vs := [.string str10, .bool true, .bool true, .bool true, .int .i64 0, .int .u32 x80]) rfl ti37 rfl pl37 (aC K (aC K (aC K (aC K (aC K (aC (L 0 rfl rfl) aN)))))) (allC (by simp [topV]) (allC (by simp [topV]) (allC (by simp [topV]) (allC (by simp [topV]) (allC (by simp [topV]) (allC (by simp [topV]) allN)))))) rfl) ?_
        refine O.store (k := 0) (cs := [.string str10, .bool true, .bool true, .bool true, .int .i64 0, .int .u32 x80]) (c' := [.string str10, .bool true, .bool true, .bool true, .int .i64 0, .int .u32 x80]) ow87 rfl rfl rfl (.inl rfl) rfl (L 18 rfl rfl) (L 0 rfl rfl) ti37 (by simp [topV]) rfl rfl (nr rfl) rfl rfl nd (fun V88 le89 ow90 => ?_)
        refine U.p rfl rfl (.inl rfl) (S.assign rfl K) ?_
        refine U.done (nr rfl) ?_
        refine WP.ret ?_
        refine blkR (sqR ?_)
        refine fin.mix (.inr rfl) (resA (L 19 rfl rfl) Tryd.underlying37 rfl ti37 (ow90.own (k := 0) rfl).get rfl (resT (L 0 rfl rfl) res0)) rfl ⟨V88, rfl, ((le3.trans le85).trans le89), ?_⟩
        have ow91 := ow90.drop 0 rfl
        have e92 := Option.some.inj h82
        subst e92
        exact ⟨rfl, ow91⟩
       ·have h93 := ifF c78 h77
        refine WP.usreg rfl ?_
        refine U.p rfl rfl (.inl rfl) (S.eqlI rfl (L 14 rfl rfl) K) ?_
        refine U.p rfl rfl (.inl rfl) (S.assign rfl (L 0 rfl rfl)) ?_
        refine U.done (nr rfl) ?_
        refine WP.cond _ (L 0 rfl rfl) rfl (fun c94 => ?_) (fun c94 => ?_)
        ·have h95 := ifT c94 h93
         refine WP.usreg rfl ?_
         obtain ⟨x96, hx97, h98⟩ := bindS h95
         refine O.call (V := V2) rfl rfl (.inl rfl) rfl en31 (aC K aN) (wk_ref02_ext V2 _ (gl.up le3) 0 ow4 _ hx97) (fun _ _ _ _ => nd) (fun v99 V100 le101 hp102 => ?_)
         obtain ⟨rfl, ow103⟩ := hp102
         refine U.p rfl rfl (.inl rfl) (S.add rfl (L 0 rfl rfl) K) ?_
         refine U.p (v := .agg #[.string str11, .bool false, .bool true, .bool true, .int .i64 0, .int .u32 (IntKind.wrap .u32 (x96 + 2097152))]) rfl rfl (.inl rfl) (S.build (vs := [.string str11, .bool false, .bool true, .bool true, .int .i64 0, .int .u32 (IntKind.wrap .u32 (x96 + 2097152))]) rfl ti37 rfl pl37 (aC K (aC K (aC K (aC K (aC K (aC (L 0 rfl rfl) aN)))))) (allC (by simp [topV]) (allC (by simp [topV]) (allC (by simp [topV]) (allC (by simp [topV]) (allC (by simp [topV]) (allC (by simp [topV]) allN)))))) rfl) ?_
         refine O.store (k := 0) (cs := [.string str11, .bool false, .bool true, .bool true, .int .i64 0, .int .u32 (IntKind.wrap .u32 (x96 + 2097152))]) (c' := [.string str11, .bool false, .bool true, .bool true, .int .i64 0, .int .u32 (IntKind.wrap .u32 (x96 + 2097152))]) ow103 rfl rfl rfl (.inl rfl) rfl (L 21 rfl rfl) (L 0 rfl rfl) ti37 (by simp [topV]) rfl rfl (nr rfl) rfl rfl nd (fun V104 le105 ow106 => ?_)
         refine U.p rfl rfl (.inl rfl) (S.assign rfl K) ?_
         refine U.done (nr rfl) ?_
         refine WP.ret ?_
         refine blkR (sqR ?_)
         refine fin.mix (.inr rfl) (resA (L 22 rfl rfl) Tryd.underlying37 rfl ti37 (ow106.own (k := 0) rfl).get rfl (resT (L 0 rfl rfl) res0)) rfl ⟨V104, rfl, ((le3.trans le101).trans le105), ?_⟩
         have ow107 := ow106.drop 0 rfl
         have e108 := Option.some.inj h98
         subst e108
         exact ⟨rfl, ow107⟩
        ·have h109 := ifF c94 h93
         refine WP.usreg rfl ?_
         refine U.p rfl rfl (.inl rfl) (S.eqlI rfl (L 16 rfl rfl) K) ?_
         refine U.p rfl rfl (.inl rfl) (S.assign rfl (L 0 rfl rfl)) ?_
         refine U.done (nr rfl) ?_
         refine WP.cond _ (L 0 rfl rfl) rfl (fun c110 => ?_) (fun c110 => ?_)
         ·have h111 := ifT c110 h109
          refine WP.usreg rfl ?_
          refine U.p (v := .agg #[.string str13, .bool false, .bool true, .bool false, .int .i64 16, .int .u32 740294656]) rfl rfl (.inl rfl) (S.build (vs := [.string str13, .bool false, .bool true, .bool false, .int .i64 16, .int .u32 740294656]) rfl ti37 rfl pl37 (aC K (aC K (aC K (aC K (aC K (aC K aN)))))) (allC (by simp [topV]) (allC (by simp [topV]) (allC (by simp [topV]) (allC (by simp [topV]) (allC (by simp [topV]) (allC (by simp [topV]) allN)))))) rfl) ?_
          refine O.store (k := 0) (cs := [.string str13, .bool false, .bool true, .bool false, .int .i64 16, .int .u32 740294656]) (c' := [.string str13, .bool false, .bool true, .bool false, .int .i64 16, .int .u32 740294656]) ow4 rfl rfl rfl (.inl rfl) rfl (L 21 rfl rfl) (L 0 rfl rfl) ti37 (by simp [topV]) rfl rfl (nr rfl) rfl rfl nd (fun V112 le113 ow114 => ?_)
          refine U.p rfl rfl (.inl rfl) (S.assign rfl K) ?_
          refine U.done (nr rfl) ?_
          refine WP.ret ?_
          refine blkR (sqR ?_)
          refine fin.mix (.inr rfl) (resA (L 22 rfl rfl) Tryd.underlying37 rfl ti37 (ow114.own (k := 0) rfl).get rfl (resT (L 0 rfl rfl) res0)) rfl ⟨V112, rfl, (le3.trans le113), ?_⟩
          have ow115 := ow114.drop 0 rfl
          have e116 := Option.some.inj h111
          subst e116
          exact ⟨rfl, ow115⟩
         ·have h117 := ifF c110 h109
          refine WP.usreg rfl ?_
          refine U.p rfl rfl (.inl rfl) (S.eqlI rfl (L 18 rfl rfl) K) ?_
          refine U.p rfl rfl (.inl rfl) (S.assign rfl (L 0 rfl rfl)) ?_
          refine U.done (nr rfl) ?_
          refine WP.cond _ (L 0 rfl rfl) rfl (fun c118 => ?_) (fun c118 => ?_)
          ·have h119 := ifT c118 h117
           refine WP.usreg rfl ?_
           refine U.p (v := .agg #[.string ByteArray.empty, .bool true, .bool true, .bool false, .int .i64 14, .int .u32 1073741824]) rfl rfl (.inl rfl) (S.build (vs := [.string ByteArray.empty, .bool true, .bool true, .bool false, .int .i64 14, .int .u32 1073741824]) rfl ti37 rfl pl37 (aC K (aC K (aC K (aC K (aC K (aC K aN)))))) (allC (by simp [topV]) (allC (by simp [topV]) (allC (by simp [topV]) (allC (by simp [topV]) (allC (by simp [topV]) (allC (by simp [topV]) allN)))))) rfl) ?_
           refine O.store (k := 0) (cs := [.string ByteArray.empty, .bool true, .bool true, .bool false, .int .i64 14, .int .u32 1073741824]) (c' := [.string ByteArray.empty, .bool true, .bool true, .bool false, .int .i64 14, .int .u32 1073741824]) ow4 rfl rfl rfl (.inl rfl) rfl (L 23 rfl rfl) (L 0 rfl rfl) ti37 (by simp [topV]) rfl rfl (nr rfl) rfl rfl nd (fun V120 le121 ow122 => ?_)
           refine U.p rfl rfl (.inl rfl) (S.assign rfl K) ?_
           refine U.done (nr rfl) ?_
           refine WP.ret ?_
           refine blkR (sqR ?_)
           refine fin.mix (.inr rfl) (resA (L 24 rfl rfl) Tryd.underlying37 rfl ti37 (ow122.own (k := 0) rfl).get rfl (resT (L 0 rfl rfl) res0)) rfl ⟨V120, rfl, (le3.trans le121), ?_⟩
           have ow123 := ow122.drop 0 rfl
           have e124 := Option.some.inj h119
           subst e124
           exact ⟨rfl, ow123⟩
          ·have h125 := ifF c118 h117
           refine WP.usreg rfl ?_
           refine U.p rfl rfl (.inl rfl) (S.eqlI rfl (L 20 rfl rfl) K) ?_
           refine U.p rfl rfl (.inl rfl) (S.assign rfl (L 0 rfl rfl)) ?_
           refine U.done (nr rfl) ?_
           refine WP.cond _ (L 0 rfl rfl) rfl (fun c126 => ?_) (fun c126 => ?_)
           ·have h127 := ifT c126 h125
            refine WP.usreg rfl ?_
            refine U.p (v := .agg #[.string str17, .bool false, .bool false, .bool false, .int .i64 24, .int .u32 1207959552]) rfl rfl (.inl rfl) (S.build (vs := [.string str17, .bool false, .bool false, .bool false, .int .i64 24, .int .u32 1207959552]) rfl ti37 rfl pl37 (aC K (aC K (aC K (aC K (aC K (aC K aN)))))) (allC (by simp [topV]) (allC (by simp [topV]) (allC (by simp [topV]) (allC (by simp [topV]) (allC (by simp [topV]) (allC (by simp [topV]) allN)))))) rfl) ?_
            refine O.store (k := 0) (cs := [.string str17, .bool false, .bool false, .bool false, .int .i64 24, .int .u32 1207959552]) (c' := [.string str17, .bool false, .bool false, .bool false, .int .i64 24, .int .u32 1207959552]) ow4 rfl rfl rfl (.inl rfl) rfl (L 25 rfl rfl) (L 0 rfl rfl) ti37 (by simp [topV]) rfl rfl (nr rfl) rfl rfl nd (fun V128 le129 ow130 => ?_)
            refine U.p rfl rfl (.inl rfl) (S.assign rfl K) ?_
            refine U.done (nr rfl) ?_
            refine WP.ret ?_
            refine blkR (sqR ?_)
            refine fin.mix (.inr rfl) (resA (L 26 rfl rfl) Tryd.underlying37 rfl ti37 (ow130.own (k := 0) rfl).get rfl (resT (L 0 rfl rfl) res0)) rfl ⟨V128, rfl, (le3.trans le129), ?_⟩
            have ow131 := ow130.drop 0 rfl
            have e132 := Option.some.inj h127
            subst e132
            exact ⟨rfl, ow131⟩
           ·have h133 := ifF c126 h125
            refine WP.usreg rfl ?_
            refine U.p rfl rfl (.inl rfl) (S.eqlI rfl (L 22 rfl rfl) K) ?_
            refine U.p rfl rfl (.inl rfl) (S.assign rfl (L 0 rfl rfl)) ?_
            refine U.done (nr rfl) ?_
            refine WP.cond _ (L 0 rfl rfl) rfl (fun c134 => ?_) (fun c134 => ?_)
            ·have h135 := ifT c134 h133
             refine WP.usreg rfl ?_
             refine U.p (v := .agg #[.string str19, .bool false, .bool false, .bool false, .int .i64 24, .int .u32 1207959553]) rfl rfl (.inl rfl) (S.build (vs := [.string str19, .bool false, .bool false, .bool false, .int .i64 24, .int .u32 1207959553]) rfl ti37 rfl pl37 (aC K (aC K (aC K (aC K (aC K (aC K aN)))))) (allC (by simp [topV]) (allC (by simp [topV]) (allC (by simp [topV]) (allC (by simp [topV]) (allC (by simp [topV]) (allC (by simp [topV]) allN)))))) rfl) ?_
             refine O.store (k := 0) (cs := [.string str19, .bool false, .bool false, .bool false, .int .i64 24, .int .u32 1207959553]) (c' := [.string str19, .bool false, .bool false, .bool false, .int .i64 24, .int .u32 1207959553]) ow4 rfl rfl rfl (.inl rfl) rfl (L 27 rfl rfl) (L 0 rfl rfl) ti37 (by simp [topV]) rfl rfl (nr rfl) rfl rfl nd (fun V136 le137 ow138 => ?_)
             refine U.p rfl rfl (.inl rfl) (S.assign rfl K) ?_
             refine U.done (nr rfl) ?_
             refine WP.ret ?_
             refine blkR (sqR ?_)
             refine fin.mix (.inr rfl) (resA (L 28 rfl rfl) Tryd.underlying37 rfl ti37 (ow138.own (k := 0) rfl).get rfl (resT (L 0 rfl rfl) res0)) rfl ⟨V136, rfl, (le3.trans le137), ?_⟩
             have ow139 := ow138.drop 0 rfl
             have e140 := Option.some.inj h135
             subst e140
             exact ⟨rfl, ow139⟩
            ·have h141 := ifF c134 h133
             refine WP.usreg rfl ?_
             refine U.p rfl rfl (.inl rfl) (S.eqlI rfl (L 24 rfl rfl) K) ?_
             refine U.p rfl rfl (.inl rfl) (S.assign rfl (L 0 rfl rfl)) ?_
             refine U.done (nr rfl) ?_
             refine WP.cond _ (L 0 rfl rfl) rfl (fun c142 => ?_) (fun c142 => ?_)
             ·have h143 := ifT c142 h141
              refine WP.usreg rfl ?_
              refine U.p (v := .agg #[.string str20, .bool false, .bool false, .bool false, .int .i64 0, .int .u32 1317011488]) rfl rfl (.inl rfl) (S.build (vs := [.string str20, .bool false, .bool false, .bool false, .int .i64 0, .int .u32 1317011488]) rfl ti37 rfl pl37 (aC K (aC K (aC K (aC K (aC K (aC K aN)))))) (allC (by simp [topV]) (allC (by simp [topV]) (allC (by simp [topV]) (allC (by simp [topV]) (allC (by simp [topV]) (allC (by simp [topV]) allN)))))) rfl) ?_
              refine O.store (k := 0) (cs := [.string str20, .bool false, .bool false, .bool false, .int .i64 0, .int .u32 1317011488]) (c' := [.string str20, .bool false, .bool false, .bool false, .int .i64 0, .int .u32 1317011488]) ow4 rfl rfl rfl (.inl rfl) rfl (L 29 rfl rfl) (L 0 rfl rfl) ti37 (by simp [topV]) rfl rfl (nr rfl) rfl rfl nd (fun V144 le145 ow146 => ?_)
              refine U.p rfl rfl (.inl rfl) (S.assign rfl K) ?_
              refine U.done (nr rfl) ?_
              refine WP.ret ?_
              refine blkR (sqR ?_)
              refine fin.mix (.inr rfl) (resA (L 30 rfl rfl) Tryd.underlying37 rfl ti37 (ow146.own (k := 0) rfl).get rfl (resT (L 0 rfl rfl) res0)) rfl ⟨V144, rfl, (le3.trans le145), ?_⟩
              have ow147 := ow146.drop 0 rfl
              have e148 := Option.some.inj h143
              subst e148
              exact ⟨rfl, ow147⟩
             ·have h149 := ifF c142 h141
              refine WP.usreg rfl ?_
              refine U.p rfl rfl (.inl rfl) (S.eqlI rfl (L 26 rfl rfl) K) ?_
              refine U.p rfl rfl (.inl rfl) (S.assign rfl (L 0 rfl rfl)) ?_
              refine U.done (nr rfl) ?_
              refine WP.cond _ (L 0 rfl rfl) rfl (fun c150 => ?_) (fun c150 => ?_)
              ·have h151 := ifT c150 h149
               refine WP.usreg rfl ?_
               obtain ⟨x152, hx153, h154⟩ := bindS h151
               refine O.call (V := V2) rfl rfl (.inl rfl) rfl en31 (aC K aN) (wk_ref02_ext V2 _ (gl.up le3) 339 ow4 _ hx153) (fun _ _ _ _ => nd) (fun v155 V156 le157 hp158 => ?_)
               obtain ⟨rfl, ow159⟩ := hp158
               refine U.p rfl rfl (.inl rfl) (S.add rfl (L 0 rfl rfl) K) ?_
               refine U.p (v := .agg #[.string str21, .bool true, .bool false, .bool false, .int .i64 0, .int .u32 (IntKind.wrap .u32 (x152 + 524288))]) rfl rfl (.inl rfl) (S.build (vs := [.string str21, .bool true, .bool false, .bool false, .int .i64 0, .int .u32 (IntKind.wrap .u32 (x152 + 524288))]) rfl ti37 rfl pl37 (aC K (aC K (aC K (aC K (aC K (aC (L 0 rfl rfl) aN)))))) (allC (by simp [topV]) (allC (by simp [topV]) (allC (by simp [topV]) (allC (by simp [topV]) (allC (by simp [topV]) (allC (by simp [topV]) allN)))))) rfl) ?_
               refine O.store (k := 0) (cs := [.string str21, .bool true, .bool false, .bool false, .int .i64 0, .int .u32 (IntKind.wrap .u32 (x152 + 524288))]) (c' := [.string str21, .bool true, .bool false, .bool false, .int .i64 0, .int .u32 (IntKind.wrap .u32 (x152 + 524288))]) ow159 rfl rfl rfl (.inl rfl) rfl (L 33 rfl rfl) (L 0 rfl rfl) ti37 (by simp [topV]) rfl rfl (nr rfl) rfl rfl nd (fun V160 le161 ow162 => ?_)
               refine U.p rfl rfl (.inl rfl) (S.assign rfl K) ?_
               refine U.done (nr rfl) ?_
               refine WP.ret ?_
               refine blkR (sqR ?_)
               refine fin.mix (.inr rfl) (resA (L 34 rfl rfl) Tryd.underlying37 rfl ti37 (ow162.own (k := 0) rfl).get rfl (resT (L 0 rfl rfl) res0)) rfl ⟨V160, rfl, ((le3.trans le157).trans le161), ?_⟩
               have ow163 := ow162.drop 0 rfl
               have e164 := Option.some.inj h154
               subst e164
               exact ⟨rfl, ow163⟩
              ·have h165 := ifF c150 h149
               refine WP.usreg rfl ?_
               refine U.p rfl rfl (.inl rfl) (S.eqlI rfl (L 28 rfl rfl) K) ?_
               refine U.p rfl rfl (.inl rfl) (S.assign rfl (L 0 rfl rfl)) ?_
               refine U.done (nr rfl) ?_
               refine WP.cond _ (L 0 rfl rfl) rfl (fun c166 => ?_) (fun c166 => ?_)
               ·have h167 := ifT c166 h165
                refine WP.usreg rfl ?_
                obtain ⟨x168, hx169, h170⟩ := bindS h167
                refine O.call (V := V2) rfl rfl (.inl rfl) rfl en31 (aC K aN) (wk_ref02_ext V2 _ (gl.up le3) 467 ow4 _ hx169) (fun _ _ _ _ => nd) (fun v171 V172 le173 hp174 => ?_)
                obtain ⟨rfl, ow175⟩ := hp174
                refine U.p rfl rfl (.inl rfl) (S.add rfl (L 0 rfl rfl) K) ?_
                refine U.p (v := .agg #[.string str23, .bool true, .bool false, .bool false, .int .i64 0, .int .u32 (IntKind.wrap .u32 (x168 + 524288))]) rfl rfl (.inl rfl) (S.build (vs := [.string str23, .bool true, .bool false, .bool false, .int .i64 0, .int .u32 (IntKind.wrap .u32 (x168 + 524288))]) rfl ti37 rfl pl37 (aC K (aC K (aC K (aC K (aC K (aC (L 0 rfl rfl) aN)))))) (allC (by simp [topV]) (allC (by simp [topV]) (allC (by simp [topV]) (allC (by simp [topV]) (allC (by simp [topV]) (allC (by simp [topV]) allN)))))) rfl) ?_
                refine O.store (k := 0) (cs := [.string str23, .bool true, .bool false, .bool false, .int .i64 0, .int .u32 (IntKind.wrap .u32 (x168 + 524288))]) (c' := [.string str23, .bool true, .bool false, .bool false, .int .i64 0, .int .u32 (IntKind.wrap .u32 (x168 + 524288))]) ow175 rfl rfl rfl (.inl rfl) rfl (L 35 rfl rfl) (L 0 rfl rfl) ti37 (by simp [topV]) rfl rfl (nr rfl) rfl rfl nd (fun V176 le177 ow178 => ?_)
                refine U.p rfl rfl (.inl rfl) (S.assign rfl K) ?_
                refine U.done (nr rfl) ?_
                refine WP.ret ?_
                refine blkR (sqR ?_)
                refine fin.mix (.inr rfl) (resA (L 36 rfl rfl) Tryd.underlying37 rfl ti37 (ow178.own (k := 0) rfl).get rfl (resT (L 0 rfl rfl) res0)) rfl ⟨V176, rfl, ((le3.trans le173).trans le177), ?_⟩
                have ow179 := ow178.drop 0 rfl
                have e180 := Option.some.inj h170
                subst e180
                exact ⟨rfl, ow179⟩
               ·have h181 := ifF c166 h165
                refine WP.usreg rfl ?_
                refine U.p rfl rfl (.inl rfl) (S.eqlI rfl (L 30 rfl rfl) K) ?_
                refine U.p rfl rfl (.inl rfl) (S.assign rfl (L 0 rfl rfl)) ?_
                refine U.done (nr rfl) ?_
                refine WP.cond _ (L 0 rfl rfl) rfl (fun c182 => ?_) (fun c182 => ?_)
                ·have h183 := ifT c182 h181
                 refine WP.usreg rfl ?_
                 obtain ⟨x184, hx185, h186⟩ := bindS h183
                 refine O.call (V := V2) rfl rfl (.inl rfl) rfl en31 (aC K aN) (wk_ref02_ext V2 _ (gl.up le3) 84 ow4 _ hx185) (fun _ _ _ _ => nd) (fun v187 V188 le189 hp190 => ?_)
                 obtain ⟨rfl, ow191⟩ := hp190
                 refine U.p (v := .agg #[.string str24, .bool true, .bool true, .bool true, .int .i64 0, .int .u32 x184]) rfl rfl (.inl rfl) (S.build (vs := [.string str24, .bool true, .bool true, .bool true, .int .i64 0, .int .u32 x184]) rfl ti37 rfl pl37 (aC K (aC K (aC K (aC K (aC K (aC (L 0 rfl rfl) aN)))))) (allC (by simp [topV]) (allC (by simp [topV]) (allC (by simp [topV]) (allC (by simp [topV]) (allC (by simp [topV]) (allC (by simp [topV]) allN)))))) rfl) ?_
                 refine O.store (k := 0) (cs := [.string str24, .bool true, .bool true, .bool true, .int .i64 0, .int .u32 x184]) (c' := [.string str24, .bool true, .bool true, .bool true, .int .i64 0, .int .u32 x184]) ow191 rfl rfl rfl (.inl rfl) rfl (L 36 rfl rfl) (L 0 rfl rfl) ti37 (by simp [topV]) rfl rfl (nr rfl) rfl rfl nd (fun V192 le193 ow194 => ?_)
                 refine U.p rfl rfl (.inl rfl) (S.assign rfl K) ?_
                 refine U.done (nr rfl) ?_
                 refine WP.ret ?_
                 refine blkR (sqR ?_)
                 refine fin.mix (.inr rfl) (resA (L 37 rfl rfl) Tryd.underlying37 rfl ti37 (ow194.own (k := 0) rfl).get rfl (resT (L 0 rfl rfl) res0)) rfl ⟨V192, rfl, ((le3.trans le189).trans le193), ?_⟩
                 have ow195 := ow194.drop 0 rfl
                 have e196 := Option.some.inj h186
                 subst e196
                 exact ⟨rfl, ow195⟩
                ·have h197 := ifF c182 h181
                 refine WP.usreg rfl ?_
                 refine U.p rfl rfl (.inl rfl) (S.eqlI rfl (L 32 rfl rfl) K) ?_
                 refine U.p rfl rfl (.inl rfl) (S.assign rfl (L 0 rfl rfl)) ?_
                 refine U.done (nr rfl) ?_
                 refine WP.cond _ (L 0 rfl rfl) rfl (fun c198 => ?_) (fun c198 => ?_)
                 ·have h199 := ifT c198 h197
                  refine WP.usreg rfl ?_
                  obtain ⟨x200, hx201, h202⟩ := bindS h199
                  refine O.call (V := V2) rfl rfl (.inl rfl) rfl en31 (aC K aN) (wk_ref02_ext V2 _ (gl.up le3) 214 ow4 _ hx201) (fun _ _ _ _ => nd) (fun v203 V204 le205 hp206 => ?_)
                  obtain ⟨rfl, ow207⟩ := hp206
                  refine U.p rfl rfl (.inl rfl) (S.add rfl (L 0 rfl rfl) K) ?_
                  refine U.p (v := .agg #[.string str25, .bool true, .bool true, .bool true, .int .i64 0, .int .u32 (IntKind.wrap .u32 (x200 + 1))]) rfl rfl (.inl rfl) (S.build (vs := [.string str25, .bool true, .bool true, .bool true, .int .i64 0, .int .u32 (IntKind.wrap .u32 (x200 + 1))]) rfl ti37 rfl pl37 (aC K (aC K (aC K (aC K (aC K (aC (L 0 rfl rfl) aN)))))) (allC (by simp [topV]) (allC (by simp [topV]) (allC (by simp [topV]) (allC (by simp [topV]) (allC (by simp [topV]) (allC (by simp [topV]) allN)))))) rfl) ?_
                  refine O.store (k := 0) (cs := [.string str25, .bool true, .bool true, .bool true, .int .i64 0, .int .u32 (IntKind.wrap .u32 (x200 + 1))]) (c' := [.string str25, .bool true, .bool true, .bool true, .int .i64 0, .int .u32 (IntKind.wrap .u32 (x200 + 1))]) ow207 rfl rfl rfl (.inl rfl) rfl (L 39 rfl rfl) (L 0 rfl rfl) ti37 (by simp [topV]) rfl rfl (nr rfl) rfl rfl nd (fun V208 le209 ow210 => ?_)
                  refine U.p rfl rfl (.inl rfl) (S.assign rfl K) ?_
                  refine U.done (nr rfl) ?_
                  refine WP.ret ?_
                  refine blkR (sqR ?_)
                  refine fin.mix (.inr rfl) (resA (L 40 rfl rfl) Tryd.underlying37 rfl ti37 (ow210.own (k := 0) rfl).get rfl (resT (L 0 rfl rfl) res0)) rfl ⟨V208, rfl, ((le3.trans le205).trans le209), ?_⟩
                  have ow211 := ow210.drop 0 rfl
                  have e212 := Option.some.inj h202
                  subst e212
                  exact ⟨rfl, ow211⟩
                 ·have h213 := ifF c198 h197
                  refine WP.usreg rfl ?_
                  refine U.p rfl rfl (.inl rfl) (S.eqlI rfl (L 34 rfl rfl) K) ?_
                  refine U.p rfl rfl (.inl rfl) (S.assign rfl (L 0 rfl rfl)) ?_
                  refine U.done (nr rfl) ?_
                  refine WP.cond _ (L 0 rfl rfl) rfl (fun c214 => ?_) (fun c214 => ?_)
                  ·have h215 := ifT c214 h213
                   refine WP.usreg rfl ?_
                   refine U.p (v := .agg #[.string str26, .bool false, .bool false, .bool false, .int .i64 0, .int .u32 2080375980]) rfl rfl (.inl rfl) (S.build (vs := [.string str26, .bool false, .bool false, .bool false, .int .i64 0, .int .u32 2080375980]) rfl ti37 rfl pl37 (aC K (aC K (aC K (aC K (aC K (aC K aN)))))) (allC (by simp [topV]) (allC (by simp [topV]) (allC (by simp [topV]) (allC (by simp [topV]) (allC (by simp [topV]) (allC (by simp [topV]) allN)))))) rfl) ?_
                   refine O.store (k := 0) (cs := [.string str26, .bool false, .bool false, .bool false, .int .i64 0, .int .u32 2080375980]) (c' := [.string str26, .bool false, .bool false, .bool false, .int .i64 0, .int .u32 2080375980]) ow4 rfl rfl rfl (.inl rfl) rfl (L 39 rfl rfl) (L 0 rfl rfl) ti37 (by simp [topV]) rfl rfl (nr rfl) rfl rfl nd (fun V216 le217 ow218 => ?_)
                   refine U.p rfl rfl (.inl rfl) (S.assign rfl K) ?_
                   refine U.done (nr rfl) ?_
                   refine WP.ret ?_
                   refine blkR (sqR ?_)
                   refine fin.mix (.inr rfl) (resA (L 40 rfl rfl) Tryd.underlying37 rfl ti37 (ow218.own (k := 0) rfl).get rfl (resT (L 0 rfl rfl) res0)) rfl ⟨V216, rfl, (le3.trans le217), ?_⟩
                   have ow219 := ow218.drop 0 rfl
                   have e220 := Option.some.inj h215
                   subst e220
                   exact ⟨rfl, ow219⟩
                  ·have h221 := ifF c214 h213
                   refine WP.usreg rfl ?_
                   refine U.p rfl rfl (.inl rfl) (S.eqlI rfl (L 36 rfl rfl) K) ?_
                   refine U.p rfl rfl (.inl rfl) (S.assign rfl (L 0 rfl rfl)) ?_
                   refine U.done (nr rfl) ?_
                   refine WP.cond _ (L 0 rfl rfl) rfl (fun c222 => ?_) (fun c222 => ?_)
                   ·have h223 := ifT c222 h221
                    refine WP.usreg rfl ?_
                    refine U.p (v := .agg #[.string str27, .bool false, .bool false, .bool false, .int .i64 0, .int .u32 2082473132]) rfl rfl (.inl rfl) (S.build (vs := [.string str27, .bool false, .bool false, .bool false, .int .i64 0, .int .u32 2082473132]) rfl ti37 rfl pl37 (aC K (aC K (aC K (aC K (aC K (aC K aN)))))) (allC (by simp [topV]) (allC (by simp [topV]) (allC (by simp [topV]) (allC (by simp [topV]) (allC (by simp [topV]) (allC (by simp [topV]) allN)))))) rfl) ?_
                    refine O.store (k := 0) (cs := [.string str27, .bool false, .bool false, .bool false, .int .i64 0, .int .u32 2082473132]) (c' := [.string str27, .bool false, .bool false, .bool false, .int .i64 0, .int .u32 2082473132]) ow4 rfl rfl rfl (.inl rfl) rfl (L 41 rfl rfl) (L 0 rfl rfl) ti37 (by simp [topV]) rfl rfl (nr rfl) rfl rfl nd (fun V224 le225 ow226 => ?_)
                    refine U.p rfl rfl (.inl rfl) (S.assign rfl K) ?_
                    refine U.done (nr rfl) ?_
                    refine WP.ret ?_
                    refine blkR (sqR ?_)
                    refine fin.mix (.inr rfl) (resA (L 42 rfl rfl) Tryd.underlying37 rfl ti37 (ow226.own (k := 0) rfl).get rfl (resT (L 0 rfl rfl) res0)) rfl ⟨V224, rfl, (le3.trans le225), ?_⟩
                    have ow227 := ow226.drop 0 rfl
                    have e228 := Option.some.inj h223
                    subst e228
                    exact ⟨rfl, ow227⟩
                   ·have h229 := ifF c222 h221
                    refine WP.usreg rfl ?_
                    refine U.p rfl rfl (.inl rfl) (S.eqlI rfl (L 38 rfl rfl) K) ?_
                    refine U.p rfl rfl (.inl rfl) (S.assign rfl (L 0 rfl rfl)) ?_
                    refine U.done (nr rfl) ?_
                    refine WP.cond _ (L 0 rfl rfl) rfl (fun c230 => ?_) (fun c230 => ?_)
                    ·have h231 := ifT c230 h229
                     refine WP.usreg rfl ?_
                     refine U.p (v := .agg #[.string str28, .bool false, .bool false, .bool false, .int .i64 0, .int .u32 1275068716]) rfl rfl (.inl rfl) (S.build (vs := [.string str28, .bool false, .bool false, .bool false, .int .i64 0, .int .u32 1275068716]) rfl ti37 rfl pl37 (aC K (aC K (aC K (aC K (aC K (aC K aN)))))) (allC (by simp [topV]) (allC (by simp [topV]) (allC (by simp [topV]) (allC (by simp [topV]) (allC (by simp [topV]) (allC (by simp [topV]) allN)))))) rfl) ?_
                     refine O.store (k := 0) (cs := [.string str28, .bool false, .bool false, .bool false, .int .i64 0, .int .u32 1275068716]) (c' := [.string str28, .bool false, .bool false, .bool false, .int .i64 0, .int .u32 1275068716]) ow4 rfl rfl rfl (.inl rfl) rfl (L 43 rfl rfl) (L 0 rfl rfl) ti37 (by simp [topV]) rfl rfl (nr rfl) rfl rfl nd (fun V232 le233 ow234 => ?_)
                     refine U.p rfl rfl (.inl rfl) (S.assign rfl K) ?_
                     refine U.done (nr rfl) ?_
                     refine WP.ret ?_
                     refine blkR (sqR ?_)
                     refine fin.mix (.inr rfl) (resA (L 44 rfl rfl) Tryd.underlying37 rfl ti37 (ow234.own (k := 0) rfl).get rfl (resT (L 0 rfl rfl) res0)) rfl ⟨V232, rfl, (le3.trans le233), ?_⟩
                     have ow235 := ow234.drop 0 rfl
                     have e236 := Option.some.inj h231
                     subst e236
                     exact ⟨rfl, ow235⟩
                    ·have h237 := ifF c230 h229
                     refine WP.usreg rfl ?_
                     refine U.p rfl rfl (.inl rfl) (S.eqlI rfl (L 40 rfl rfl) K) ?_
                     refine U.p rfl rfl (.inl rfl) (S.assign rfl (L 0 rfl rfl)) ?_
                     refine U.done (nr rfl) ?_
                     refine WP.cond _ (L 0 rfl rfl) rfl (fun c238 => ?_) (fun c238 => ?_)
                     ·have h239 := ifT c238 h237
                      refine WP.usreg rfl ?_
                      refine U.p (v := .agg #[.string str29, .bool false, .bool false, .bool false, .int .i64 16, .int .u32 266338304]) rfl rfl (.inl rfl) (S.build (vs := [.string str29, .bool false, .bool false, .bool false, .int .i64 16, .int .u32 266338304]) rfl ti37 rfl pl37 (aC K (aC K (aC K (aC K (aC K (aC K aN)))))) (allC (by simp [topV]) (allC (by simp [topV]) (allC (by simp [topV]) (allC (by simp [topV]) (allC (by simp [topV]) (allC (by simp [topV]) allN)))))) rfl) ?_
                      refine O.store (k := 0) (cs := [.string str29, .bool false, .bool false, .bool false, .int .i64 16, .int .u32 266338304]) (c' := [.string str29, .bool false, .bool false, .bool false, .int .i64 16, .int .u32 266338304]) ow4 rfl rfl rfl (.inl rfl) rfl (L 45 rfl rfl) (L 0 rfl rfl) ti37 (by simp [topV]) rfl rfl (nr rfl) rfl rfl nd (fun V240 le241 ow242 => ?_)
                      refine U.p rfl rfl (.inl rfl) (S.assign rfl K) ?_
                      refine U.done (nr rfl) ?_
                      refine WP.ret ?_
                      refine blkR (sqR ?_)
                      refine fin.mix (.inr rfl) (resA (L 46 rfl rfl) Tryd.underlying37 rfl ti37 (ow242.own (k := 0) rfl).get rfl (resT (L 0 rfl rfl) res0)) rfl ⟨V240, rfl, (le3.trans le241), ?_⟩
                      have ow243 := ow242.drop 0 rfl
                      have e244 := Option.some.inj h239
                      subst e244
                      exact ⟨rfl, ow243⟩
                     ·have h245 := ifF c238 h237
                      refine WP.usreg rfl ?_
                      refine U.p rfl rfl (.inl rfl) (S.eqlI rfl (L 42 rfl rfl) K) ?_
                      refine U.p rfl rfl (.inl rfl) (S.assign rfl (L 0 rfl rfl)) ?_
                      refine U.done (nr rfl) ?_
                      refine WP.cond _ (L 0 rfl rfl) rfl (fun c246 => ?_) (fun c246 => ?_)
                      ·have h247 := ifT c246 h245
                       refine WP.usreg rfl ?_
                       refine U.p (v := .agg #[.string str31, .bool true, .bool false, .bool false, .int .i64 0, .int .u32 1140850690]) rfl rfl (.inl rfl) (S.build (vs := [.string str31, .bool true, .bool false, .bool false, .int .i64 0, .int .u32 1140850690]) rfl ti37 rfl pl37 (aC K (aC K (aC K (aC K (aC K (aC K aN)))))) (allC (by simp [topV]) (allC (by simp [topV]) (allC (by simp [topV]) (allC (by simp [topV]) (allC (by simp [topV]) (allC (by simp [topV]) allN)))))) rfl) ?_
                       refine O.store (k := 0) (cs := [.string str31, .bool true, .bool false, .bool false, .int .i64 0, .int .u32 1140850690]) (c' := [.string str31, .bool true, .bool false, .bool false, .int .i64 0, .int .u32 1140850690]) ow4 rfl rfl rfl (.inl rfl) rfl (L 47 rfl rfl) (L 0 rfl rfl) ti37 (by simp [topV]) rfl rfl (nr rfl) rfl rfl nd (fun V248 le249 ow250 => ?_)
                       refine U.p rfl rfl (.inl rfl) (S.assign rfl K) ?_
                       refine U.done (nr rfl) ?_
                       refine WP.ret ?_
                       refine blkR (sqR ?_)
                       refine fin.mix (.inr rfl) (resA (L 48 rfl rfl) Tryd.underlying37 rfl ti37 (ow250.own (k := 0) rfl).get rfl (resT (L 0 rfl rfl) res0)) rfl ⟨V248, rfl, (le3.trans le249), ?_⟩
                       have ow251 := ow250.drop 0 rfl
                       have e252 := Option.some.inj h247
                       subst e252
                       exact ⟨rfl, ow251⟩
                      ·have h253 := ifF c246 h245
                       refine WP.skip ?_
                       refine blkN (sqN ?_)
                       refine WP.usreg rfl ?_
                       refine U.p (v := .agg #[.string ByteArray.empty, .bool false, .bool false, .bool false, .int .i64 0, .int .u32 0]) rfl rfl (.inl rfl) (S.build (vs := []) rfl ti37 rfl pl37 aN allN rfl) ?_
                       refine O.store (k := 0) (cs := [.string ByteArray.empty, .bool false, .bool false, .bool false, .int .i64 0, .int .u32 0]) (c' := [.string ByteArray.empty, .bool false, .bool false, .bool false, .int .i64 0, .int .u32 0]) ow4 rfl rfl rfl (.inl rfl) rfl (L 47 rfl rfl) (L 0 rfl rfl) ti37 (by simp [topV]) rfl rfl (nr rfl) rfl rfl nd (fun V254 le255 ow256 => ?_)
                       refine U.p rfl rfl (.inl rfl) (S.assign rfl K) ?_
                       refine U.done (nr rfl) ?_
                       refine WP.ret ?_
                       refine fin.mix (.inr rfl) (resA (L 48 rfl rfl) Tryd.underlying37 rfl ti37 (ow256.own (k := 0) rfl).get rfl (resT (L 0 rfl rfl) res0)) rfl ⟨V254, rfl, (le3.trans le255), ?_⟩
                       have ow257 := ow256.drop 0 rfl
                       have e258 := Option.some.inj h253
                       subst e258
                       exact ⟨rfl, ow257⟩
set_option maxHeartbeats 4000000 in
set_option maxRecDepth 10000 in
theorem wk_ref01_Good (V : Vw) (Rs : List At) (gl : Glb V) (p0 : Int) (p1 : Int) (ow : Ow V (Rs)) (r : Bool) (h : ref01_Good p0 p1 = some r) : ∃ v V', Cl Tryd.prog NG 40 #[.int .i64 p0, .int .i64 p1] V.H v V'.H ∧ V.le V' ∧ (v = .bool r ∧ Ow V' (Rs)) := by
 refine Ct.of gl.lo Tryd.func40 rfl (nr rfl) ?_
 unfold ref01_Good at h
 refine WP.usreg rfl ?_
 refine U.p rfl rfl (.inl rfl) (S.assign rfl K) ?_
 refine U.done (nr rfl) ?_
 refine WP.usreg rfl ?_
 refine U.p rfl rfl (.inl rfl) (S.move rfl (L 1 rfl rfl)) ?_
 refine U.p rfl rfl (.inl rfl) (S.geq rfl (L 0 rfl rfl) K) ?_
 refine U.p rfl rfl (.inl rfl) (S.move rfl (L 0 rfl rfl)) ?_
 refine U.joinX 6 (fun e H => ∃ (u1 u2 : Value), H = V.H ∧ e = [(10, .bool ((decide (0 ≤ p0)) && (decide (0 ≤ p1)))), (9, u1), (8, u2)]) ?_ ?_
 ·rintro _ _ ⟨u1, u2, rfl, rfl⟩
  refine U.p rfl rfl (.inl rfl) (S.move rfl (L 0 rfl rfl)) ?_
  refine U.joinX 10 (fun e H => ∃ (u6 u7 : Value), H = V.H ∧ e = [(14, .bool (((decide (0 ≤ p0)) && (decide (0 ≤ p1))) && (decide (p0 ≤ 32)))), (13, u6), (12, u7)]) ?_ ?_
  ·rintro _ _ ⟨u6, u7, rfl, rfl⟩
   refine U.p rfl rfl (.inl rfl) (S.move rfl (L 0 rfl rfl)) ?_
   refine U.joinX 14 (fun e H => ∃ (u11 u12 : Value), H = V.H ∧ e = [(18, .bool ((((decide (0 ≤ p0)) && (decide (0 ≤ p1))) && (decide (p0 ≤ 32))) && (decide (p1 ≤ 32)))), (17, u11), (16, u12)]) ?_ ?_
   ·rintro _ _ ⟨u11, u12, rfl, rfl⟩
    refine U.p rfl rfl (.inl rfl) (S.move rfl (L 0 rfl rfl)) ?_
    refine U.joinX 20 (fun e H => ∃ (u16 u17 u18 u19 : Value), H = V.H ∧ e = [(24, .bool (((((decide (0 ≤ p0)) && (decide (0 ≤ p1))) && (decide (p0 ≤ 32))) && (decide (p1 ≤ 32))) && (decide ((w64 (p0 + p1)) ≤ 32)))), (23, u16), (22, u17), (21, u18), (20, u19)]) ?_ ?_
    ·rintro _ _ ⟨u16, u17, u18, u19, rfl, rfl⟩
     refine U.p rfl rfl (.inl rfl) (S.assign rfl (L 0 rfl rfl)) ?_
     refine U.done (nr rfl) ?_
     refine WP.ret ?_
     refine fin.slot (.inr rfl) rfl (L 0 rfl rfl) ⟨V, rfl, (.refl _), ?_⟩
     have e23 := Option.some.inj h
     subst e23
     exact ⟨rfl, ow⟩
    ·intro kk
     refine bcase (b := (((decide (0 ≤ p0)) && (decide (0 ≤ p1))) && (decide (p0 ≤ 32))) && (decide (p1 ≤ 32))) (fun g24 => ?_) (fun g24 => ?_)
     ·skip
      refine U.p rfl rfl (.inr ⟨_, _, _, rfl, rfl, ((L 0 rfl rfl).trans (congrArg Value.bool g24))⟩) (S.move rfl (L 16 rfl rfl)) ?_
      refine U.p rfl rfl (.inr ⟨_, _, _, rfl, rfl, ((L 1 rfl rfl).trans (congrArg Value.bool g24))⟩) (S.move rfl (L 18 rfl rfl)) ?_
      refine U.p rfl rfl (.inr ⟨_, _, _, rfl, rfl, ((L 2 rfl rfl).trans (congrArg Value.bool g24))⟩) (S.add rfl (L 1 rfl rfl) (L 0 rfl rfl)) ?_
      refine U.p rfl rfl (.inr ⟨_, _, _, rfl, rfl, ((L 3 rfl rfl).trans (congrArg Value.bool g24))⟩) (S.leq rfl (L 0 rfl rfl) K) ?_
      refine U.p rfl rfl (.inl rfl) (S.pickT rfl ((L 4 rfl rfl).trans (congrArg Value.bool g24)) (L 0 rfl rfl)) ?_
      exact kk [(24, .bool (decide ((w64 (p0 + p1)) ≤ 32))), (23, .bool (decide ((w64 (p0 + p1)) ≤ 32))), (22, .int .i64 (w64 (p0 + p1))), (21, .int .i64 p1), (20, .int .i64 p0)] _ ⟨.bool (decide ((w64 (p0 + p1)) ≤ 32)), .int .i64 (w64 (p0 + p1)), .int .i64 p1, .int .i64 p0, rfl, (by rw [g24, Bool.true_and])⟩
     ·skip
      refine U.x rfl rfl rfl rfl ((L 0 rfl rfl).trans (congrArg Value.bool g24)) (by decide) ?_
      refine U.x rfl rfl rfl rfl ((L 1 rfl rfl).trans (congrArg Value.bool g24)) (by decide) ?_
      refine U.x rfl rfl rfl rfl ((L 2 rfl rfl).trans (congrArg Value.bool g24)) (by decide) ?_
      refine U.x rfl rfl rfl rfl ((L 3 rfl rfl).trans (congrArg Value.bool g24)) (by decide) ?_
      refine U.p rfl rfl (.inl rfl) (S.pickF rfl ((L 4 rfl rfl).trans (congrArg Value.bool g24)) K) ?_
      exact kk [(24, .bool false), (23, .tuple #[]), (22, .tuple #[]), (21, .tuple #[]), (20, .tuple #[])] _ ⟨.tuple #[], .tuple #[], .tuple #[], .tuple #[], rfl, (by rw [g24, Bool.false_and])⟩
   ·intro kk
    refine bcase (b := ((decide (0 ≤ p0)) && (decide (0 ≤ p1))) && (decide (p0 ≤ 32))) (fun g25 => ?_) (fun g25 => ?_)
    ·skip
     refine U.p rfl rfl (.inr ⟨_, _, _, rfl, rfl, ((L 0 rfl rfl).trans (congrArg Value.bool g25))⟩) (S.move rfl (L 13 rfl rfl)) ?_
     refine U.p rfl rfl (.inr ⟨_, _, _, rfl, rfl, ((L 1 rfl rfl).trans (congrArg Value.bool g25))⟩) (S.leq rfl (L 0 rfl rfl) K) ?_
     refine U.p rfl rfl (.inl rfl) (S.pickT rfl ((L 2 rfl rfl).trans (congrArg Value.bool g25)) (L 0 rfl rfl)) ?_
     exact kk [(18, .bool (decide (p1 ≤ 32))), (17, .bool (decide (p1 ≤ 32))), (16, .int .i64 p1)] _ ⟨.bool (decide (p1 ≤ 32)), .int .i64 p1, rfl, (by rw [g25, Bool.true_and])⟩
    ·skip
     refine U.x rfl rfl rfl rfl ((L 0 rfl rfl).trans (congrArg Value.bool g25)) (by decide) ?_
     refine U.x rfl rfl rfl rfl ((L 1 rfl rfl).trans (congrArg Value.bool g25)) (by decide) ?_
     refine U.p rfl rfl (.inl rfl) (S.pickF rfl ((L 2 rfl rfl).trans (congrArg Value.bool g25)) K) ?_
     exact kk [(18, .bool false), (17, .tuple #[]), (16, .tuple #[])] _ ⟨.tuple #[], .tuple #[], rfl, (by rw [g25, Bool.false_and])⟩
  ·intro kk
   refine bcase (b := (decide (0 ≤ p0)) && (decide (0 ≤ p1))) (fun g26 => ?_) (fun g26 => ?_)
   ·skip
    refine U.p rfl rfl (.inr ⟨_, _, _, rfl, rfl, ((L 0 rfl rfl).trans (congrArg Value.bool g26))⟩) (S.move rfl (L 8 rfl rfl)) ?_
    refine U.p rfl rfl (.inr ⟨_, _, _, rfl, rfl, ((L 1 rfl rfl).trans (congrArg Value.bool g26))⟩) (S.leq rfl (L 0 rfl rfl) K) ?_
    refine U.p rfl rfl (.inl rfl) (S.pickT rfl ((L 2 rfl rfl).trans (congrArg Value.bool g26)) (L 0 rfl rfl)) ?_
    exact kk [(14, .bool (decide (p0 ≤ 32))), (13, .bool (decide (p0 ≤ 32))), (12, .int .i64 p0)] _ ⟨.bool (decide (p0 ≤ 32)), .int .i64 p0, rfl, (by rw [g26, Bool.true_and])⟩
   ·skip
    refine U.x rfl rfl rfl rfl ((L 0 rfl rfl).trans (congrArg Value.bool g26)) (by decide) ?_
    refine U.x rfl rfl rfl rfl ((L 1 rfl rfl).trans (congrArg Value.bool g26)) (by decide) ?_
    refine U.p rfl rfl (.inl rfl) (S.pickF rfl ((L 2 rfl rfl).trans (congrArg Value.bool g26)) K) ?_
    exact kk [(14, .bool false), (13, .tuple #[]), (12, .tuple #[])] _ ⟨.tuple #[], .tuple #[], rfl, (by rw [g26, Bool.false_and])⟩
 ·intro kk
  refine bcase (b := decide (0 ≤ p0)) (fun g27 => ?_) (fun g27 => ?_)
  ·skip
   refine U.p rfl rfl (.inr ⟨_, _, _, rfl, rfl, ((L 0 rfl rfl).trans (congrArg Value.bool g27))⟩) (S.move rfl (L 5 rfl rfl)) ?_
   refine U.p rfl rfl (.inr ⟨_, _, _, rfl, rfl, ((L 1 rfl rfl).trans (congrArg Value.bool g27))⟩) (S.geq rfl (L 0 rfl rfl) K) ?_
   refine U.p rfl rfl (.inl rfl) (S.pickT rfl ((L 2 rfl rfl).trans (congrArg Value.bool g27)) (L 0 rfl rfl)) ?_
   exact kk [(10, .bool (decide (0 ≤ p1))), (9, .bool (decide (0 ≤ p1))), (8, .int .i64 p1)] _ ⟨.bool (decide (0 ≤ p1)), .int .i64 p1, rfl, (by rw [g27, Bool.true_and])⟩
  ·skip
   refine U.x rfl rfl rfl rfl ((L 0 rfl rfl).trans (congrArg Value.bool g27)) (by decide) ?_
   refine U.x rfl rfl rfl rfl ((L 1 rfl rfl).trans (congrArg Value.bool g27)) (by decide) ?_
   refine U.p rfl rfl (.inl rfl) (S.pickF rfl ((L 2 rfl rfl).trans (congrArg Value.bool g27)) K) ?_
   exact kk [(10, .bool false), (9, .tuple #[]), (8, .tuple #[])] _ ⟨.tuple #[], .tuple #[], rfl, (by rw [g27, Bool.false_and])⟩
set_option maxHeartbeats 4000000 in
set_option maxRecDepth 10000 in
theorem wk_ref01_Bit (V : Vw) (Rs : List At) (gl : Glb V) (p0 : Int) (p1 : Int) (ow : Ow V (Rs)) (r : Bool) (h : ref01_Bit p0 p1 = some r) : ∃ v V', Cl Tryd.prog NG 41 #[.int .u32 p0, .int .i64 p1] V.H v V'.H ∧ V.le V' ∧ (v = .bool r ∧ Ow V' (Rs)) := by
 refine Ct.of gl.lo Tryd.func41 rfl (nr rfl) ?_
 unfold ref01_Bit at h
 refine WP.usreg rfl ?_
 refine U.p rfl rfl (.inl rfl) (S.assign rfl K) ?_
 refine U.done (nr rfl) ?_
 refine WP.seq ?_
 refine WP.usreg rfl ?_
 refine U.p rfl rfl (.inl rfl) (S.assign rfl K) ?_
 refine U.done (nr rfl) ?_
 refine WP.blk ?_
 unfold ref01_Bit_l1 at h
 obtain ⟨n4, hn3⟩ := loopO_some.1 h
 refine WP.loopI2 (fun n l V' => ∃ (x1 : Int) (x2 : Int), l = [(0, .int .u32 x1), (1, .int .i64 p1), (5, .int .i64 x2)] ∧ V.le V' ∧ Ow V' (Rs) ∧ itO (fun s => ref01_Bit_l1b p1 s.1 s.2) n (x1, x2) = some r) n4 _ ⟨p0, 31, rfl, .refl _, ow, hn3⟩ (allCons (L 2 rfl rfl) (allCons (L 3 rfl rfl) (allCons (L 0 rfl rfl) allNil))) ?_
 rintro _ _ V5 ⟨x1, x2, rfl, le6, ow7, h11⟩
 obtain ⟨m8, q9, rfl, h12, e10⟩ := itS h11
 replace h12 : ref01_Bit_l1b p1 x1 x2 = some q9 := h12
 unfold ref01_Bit_l1b at h12
 refine WP.seq ?_
 refine WP.usreg rfl ?_
 refine U.p rfl rfl (.inl rfl) (S.move rfl (L 2 rfl rfl)) ?_
 refine U.p rfl rfl (.inl rfl) (S.move rfl (L 2 rfl rfl)) ?_
 refine U.p rfl rfl (.inl rfl) (S.gtr rfl (L 1 rfl rfl) (L 0 rfl rfl)) ?_
 refine U.done (nr rfl) ?_
 refine WP.cond _ (L 0 rfl rfl) rfl (fun c13 => ?_) (fun c13 => ?_)
 ·have h14 := ifT c13 h12
  refine WP.skip ?_
  refine sqN ?_
  refine WP.seq ?_
  refine WP.blk ?_
  refine WP.ureg rfl ?_
  refine U.p rfl rfl (.inl rfl) (S.move rfl (L 3 rfl rfl)) ?_
  obtain ⟨x15, hx16, h17⟩ := bindS h14
  refine U.p rfl rfl (.inl rfl) (S.quo hx16 rfl (L 0 rfl rfl) K) ?_
  refine U.p rfl rfl (.inl rfl) (S.assign rfl (L 0 rfl rfl)) ?_
  refine U.done (nr rfl) ?_
  refine blkN (sqN ?_)
  refine WP.ureg rfl ?_
  refine U.p rfl rfl (.inl rfl) (S.move rfl (L 8 rfl rfl)) ?_
  refine U.p rfl rfl (.inl rfl) (S.sub rfl (L 0 rfl rfl) K) ?_
  refine U.p rfl rfl (.inl rfl) (S.assign rfl (L 0 rfl rfl)) ?_
  refine U.done (nr rfl) ?_
  refine sqN ?_
  exact ⟨_, V5, rfl, ⟨m8, Nat.lt_succ_self _, x15, w64 (x2 - 1), rfl, le6, ow7, backS h17 e10⟩, (allCons (L 3 rfl rfl) (allCons (L 10 rfl rfl) (allCons (L 0 rfl rfl) allNil)))⟩
 ·have h18 := ifF c13 h12
  refine WP.exit ?_
  refine sqE (sqE (blkE (sqN ?_)))
  have h19 := exitS h18 e10
  refine WP.usreg rfl ?_
  refine U.p rfl rfl (.inl rfl) (S.move rfl (L 3 rfl rfl)) ?_
  obtain ⟨x20, hx21, h22⟩ := bindS h19
  refine U.p rfl rfl (.inl rfl) (S.rem hx21 rfl (L 0 rfl rfl) K) ?_
  refine U.p rfl rfl (.inl rfl) (S.eqlI rfl (L 0 rfl rfl) K) ?_
  refine U.p rfl rfl (.inl rfl) (S.assign rfl (L 0 rfl rfl)) ?_
  refine U.done (nr rfl) ?_
  refine WP.ret ?_
  refine fin.slot (.inr rfl) rfl (L 0 rfl rfl) ⟨V5, rfl, le6, ?_⟩
  have e23 := Option.some.inj h22
  subst e23
  exact ⟨rfl, ow7⟩
set_option maxHeartbeats 4000000 in
set_option maxRecDepth 10000 in
theorem wk_ref01_Get (V : Vw) (Rs : List At) (gl : Glb V) (p0 : Int) (p1 : Int) (p2 : Int) (ow : Ow V (Rs)) (r : Int) (h : ref01_Get p0 p1 p2 = some r) : ∃ v V', Cl Tryd.prog NG 25 #[.int .u32 p0, .int .i64 p1, .int .i64 p2] V.H v V'.H ∧ V.le V' ∧ (v = .int .u32 r ∧ Ow V' (Rs)) := by
 refine Ct.of gl.lo Tryd.func25 rfl (nr rfl) ?_
 unfold ref01_Get at h
 refine WP.usreg rfl ?_
 refine U.p rfl rfl (.inl rfl) (S.assign rfl K) ?_
 refine U.done (nr rfl) ?_
 refine WP.seq ?_
 refine WP.usreg rfl ?_
 refine U.p rfl rfl (.inl rfl) (S.move rfl (L 2 rfl rfl)) ?_
 refine U.p rfl rfl (.inl rfl) (S.move rfl (L 4 rfl rfl)) ?_
 obtain ⟨x1, hx2, h3⟩ := bindS h
 refine O.call (V := V) rfl rfl (.inl rfl) rfl en40 (aC (L 1 rfl rfl) (aC (L 0 rfl rfl) aN)) (wk_ref01_Good V _ gl p1 p2 ow _ hx2) (fun _ _ _ _ => nd) (fun v4 V5 le6 hp7 => ?_)
 obtain ⟨rfl, ow8⟩ := hp7
 refine U.p rfl rfl (.inl rfl) (S.not rfl (L 0 rfl rfl)) ?_
 refine U.done (nr rfl) ?_
 refine WP.cond _ (L 0 rfl rfl) rfl (fun c9 => ?_) (fun c9 => ?_)
 ·have h10 := ifT c9 h3
  have k11 : x1 = false := nT c9
  refine WP.usreg rfl ?_
  refine U.p rfl rfl (.inl rfl) (S.assign rfl K) ?_
  refine U.done (nr rfl) ?_
  refine WP.ret ?_
  refine sqR ?_
  refine fin.slot (.inr rfl) rfl (L 0 rfl rfl) ⟨V5, rfl, le6, ?_⟩
  have e12 := Option.some.inj h10
  subst e12
  exact ⟨rfl, ow8⟩
 ·have h13 := ifF c9 h3
  have k14 : x1 = true := nF c9
  refine WP.skip ?_
  refine sqN ?_
  refine WP.usreg rfl ?_
  refine U.p rfl rfl (.inl rfl) (S.assign rfl K) ?_
  refine U.done (nr rfl) ?_
  refine WP.seq ?_
  refine WP.usreg rfl ?_
  refine U.p rfl rfl (.inl rfl) (S.move rfl (L 7 rfl rfl)) ?_
  refine U.p rfl rfl (.inl rfl) (S.assign rfl (L 0 rfl rfl)) ?_
  refine U.done (nr rfl) ?_
  refine WP.blk ?_
  unfold ref01_Get_l1 at h13
  obtain ⟨n18, hn17⟩ := loopO_some.1 h13
  refine WP.loopI2 (fun n l V' => ∃ (x15 : Int) (x16 : Int), l = [(0, .int .u32 p0), (1, .int .i64 p1), (2, .int .i64 p2), (7, .int .u32 x15), (8, .int .i64 x16)] ∧ V5.le V' ∧ Ow V' (Rs) ∧ itO (fun s => ref01_Get_l1b p0 p1 p2 s.1 s.2) n (x15, x16) = some r) n18 _ ⟨0, p1, rfl, .refl _, ow8, hn17⟩ (allCons (L 8 rfl rfl) (allCons (L 9 rfl rfl) (allCons (L 10 rfl rfl) (allCons (L 2 rfl rfl) (allCons (L 0 rfl rfl) allNil))))) ?_
  rintro _ _ V19 ⟨x15, x16, rfl, le20, ow21, h25⟩
  obtain ⟨m22, q23, rfl, h26, e24⟩ := itS h25
  replace h26 : ref01_Get_l1b p0 p1 p2 x15 x16 = some q23 := h26
  unfold ref01_Get_l1b at h26
  refine WP.seq ?_
  refine WP.usreg rfl ?_
  refine U.p rfl rfl (.inl rfl) (S.move rfl (L 4 rfl rfl)) ?_
  refine U.p rfl rfl (.inl rfl) (S.move rfl (L 2 rfl rfl)) ?_
  refine U.p rfl rfl (.inl rfl) (S.move rfl (L 4 rfl rfl)) ?_
  refine U.p rfl rfl (.inl rfl) (S.add rfl (L 1 rfl rfl) (L 0 rfl rfl)) ?_
  refine U.p rfl rfl (.inl rfl) (S.lss rfl (L 3 rfl rfl) (L 0 rfl rfl)) ?_
  refine U.done (nr rfl) ?_
  refine WP.cond _ (L 0 rfl rfl) rfl (fun c27 => ?_) (fun c27 => ?_)
  ·have h28 := ifT c27 h26
   refine WP.skip ?_
   refine sqN ?_
   refine WP.seqI (fun l V' => ∃ (x29 : Int), l = [(0, .int .u32 p0), (1, .int .i64 p1), (2, .int .i64 p2), (7, .int .u32 x29), (8, .int .i64 x16)] ∧ V19.le V' ∧ Ow V' (Rs) ∧ ref01_Get_k1 x16 x29 = some q23) ?_ ?_
   ·rintro _ V30 ⟨x29, rfl, le31, ow32, h33⟩
    unfold ref01_Get_k1 at h33
    refine WP.ureg rfl ?_
    refine U.p rfl rfl (.inl rfl) (S.move rfl (L 4 rfl rfl)) ?_
    refine U.p rfl rfl (.inl rfl) (S.add rfl (L 0 rfl rfl) K) ?_
    refine U.p rfl rfl (.inl rfl) (S.assign rfl (L 0 rfl rfl)) ?_
    refine U.done (nr rfl) ?_
    refine sqN ?_
    exact ⟨_, V30, rfl, ⟨m22, Nat.lt_succ_self _, x29, w64 (x16 + 1), rfl, (le20.trans le31), ow32, backS h33 e24⟩, (allCons (L 3 rfl rfl) (allCons (L 4 rfl rfl) (allCons (L 5 rfl rfl) (allCons (L 6 rfl rfl) (allCons (L 0 rfl rfl) allNil)))))⟩
   ·skip
    refine WP.blk ?_
    refine WP.usreg rfl ?_
    refine U.p rfl rfl (.inl rfl) (S.move rfl (L 8 rfl rfl)) ?_
    refine U.p rfl rfl (.inl rfl) (S.mul rfl K (L 0 rfl rfl)) ?_
    refine U.p rfl rfl (.inl rfl) (S.assign rfl (L 0 rfl rfl)) ?_
    refine U.done (nr rfl) ?_
    refine WP.usreg rfl ?_
    refine U.p rfl rfl (.inl rfl) (S.move rfl (L 8 rfl rfl)) ?_
    refine U.p rfl rfl (.inl rfl) (S.move rfl (L 13 rfl rfl)) ?_
    obtain ⟨x34, hx35, h36⟩ := bindS h28
    refine O.call (V := V19) rfl rfl (.inl rfl) rfl en41 (aC (L 1 rfl rfl) (aC (L 0 rfl rfl) aN)) (wk_ref01_Bit V19 _ (gl.up (le6.trans le20)) p0 x16 ow21 _ hx35) (fun _ _ _ _ => nd) (fun v37 V38 le39 hp40 => ?_)
    obtain ⟨rfl, ow41⟩ := hp40
    refine U.done (nr rfl) ?_
    refine WP.cond _ (L 0 rfl rfl) rfl (fun c42 => ?_) (fun c42 => ?_)
    ·have h43 := ifT c42 h36
     refine WP.ureg rfl ?_
     refine U.p rfl rfl (.inl rfl) (S.move rfl (L 3 rfl rfl)) ?_
     refine U.p rfl rfl (.inl rfl) (S.add rfl (L 0 rfl rfl) K) ?_
     refine U.p rfl rfl (.inl rfl) (S.assign rfl (L 0 rfl rfl)) ?_
     refine U.done (nr rfl) ?_
     refine blkN (sqN ?_)
     exact ⟨_, V38, rfl, ⟨IntKind.wrap .u32 ((IntKind.wrap .u32 (2 * x15)) + 1), rfl, le39, ow41, h43⟩, (allCons (L 14 rfl rfl) (allCons (L 15 rfl rfl) (allCons (L 16 rfl rfl) (allCons (L 0 rfl rfl) (allCons (L 18 rfl rfl) allNil)))))⟩
    ·have h44 := ifF c42 h36
     refine WP.skip ?_
     refine blkN (sqN ?_)
     exact ⟨_, V38, rfl, ⟨IntKind.wrap .u32 (2 * x15), rfl, le39, ow41, h44⟩, (allCons (L 11 rfl rfl) (allCons (L 12 rfl rfl) (allCons (L 13 rfl rfl) (allCons (L 3 rfl rfl) (allCons (L 15 rfl rfl) allNil)))))⟩
  ·have h45 := ifF c27 h26
   refine WP.exit ?_
   refine sqE (sqE (blkE (sqN ?_)))
   have h46 := exitS h45 e24
   refine WP.usreg rfl ?_
   refine U.p rfl rfl (.inl rfl) (S.move rfl (L 8 rfl rfl)) ?_
   refine U.p rfl rfl (.inl rfl) (S.assign rfl (L 0 rfl rfl)) ?_
   refine U.done (nr rfl) ?_
   refine WP.ret ?_
   refine fin.slot (.inr rfl) rfl (L 0 rfl rfl) ⟨V19, rfl, (le6.trans le20), ?_⟩
   have e47 := Option.some.inj h46
   subst e47
   exact ⟨rfl, ow21⟩
set_option maxHeartbeats 4000000 in
set_option maxRecDepth 10000 in
theorem wk_ref01_Signed (V : Vw) (Rs : List At) (gl : Glb V) (p0 : Int) (p1 : Int) (ow : Ow V (Rs)) (r : Int) (h : ref01_Signed p0 p1 = some r) : ∃ v V', Cl Tryd.prog NG 26 #[.int .u32 p0, .int .i64 p1] V.H v V'.H ∧ V.le V' ∧ (v = .int .i64 r ∧ Ow V' (Rs)) := by
 refine Ct.of gl.lo Tryd.func26 rfl (nr rfl) ?_
 unfold ref01_Signed at h
 refine WP.usreg rfl ?_
 refine U.p rfl rfl (.inl rfl) (S.assign rfl K) ?_
 refine U.done (nr rfl) ?_
 refine WP.seq ?_
 refine WP.usreg rfl ?_
 refine U.p rfl rfl (.inl rfl) (S.move rfl (L 2 rfl rfl)) ?_
 refine U.p rfl rfl (.inl rfl) (S.lss rfl (L 0 rfl rfl) K) ?_
 refine U.p rfl rfl (.inl rfl) (S.move rfl (L 0 rfl rfl)) ?_
 refine U.joinX 6 (fun e H => ∃ (u1 u2 : Value), H = V.H ∧ e = [(12, .bool ((decide (p1 < 1)) || (decide (32 < p1)))), (11, u1), (10, u2)]) ?_ ?_
 ·rintro _ _ ⟨u1, u2, rfl, rfl⟩
  refine U.done (nr rfl) ?_
  refine WP.cond _ (L 0 rfl rfl) rfl (fun c6 => ?_) (fun c6 => ?_)
  ·have h7 := ifT c6 h
   refine WP.usreg rfl ?_
   refine U.p rfl rfl (.inl rfl) (S.assign rfl K) ?_
   refine U.done (nr rfl) ?_
   refine WP.ret ?_
   refine sqR ?_
   refine fin.slot (.inr rfl) rfl (L 0 rfl rfl) ⟨V, rfl, (.refl _), ?_⟩
   have e8 := Option.some.inj h7
   subst e8
   exact ⟨rfl, ow⟩
  ·have h9 := ifF c6 h
   refine WP.skip ?_
   refine sqN ?_
   refine WP.usreg rfl ?_
   refine U.p rfl rfl (.inl rfl) (S.assign rfl K) ?_
   refine U.done (nr rfl) ?_
   refine WP.seq ?_
   refine WP.usreg rfl ?_
   refine U.p rfl rfl (.inl rfl) (S.move rfl (L 9 rfl rfl)) ?_
   refine U.p rfl rfl (.inl rfl) (S.sub rfl K (L 0 rfl rfl)) ?_
   refine U.p rfl rfl (.inl rfl) (S.assign rfl (L 0 rfl rfl)) ?_
   refine U.done (nr rfl) ?_
   refine WP.blk ?_
   unfold ref01_Signed_l1 at h9
   obtain ⟨n13, hn12⟩ := loopO_some.1 h9
   refine WP.loopI2 (fun n l V' => ∃ (x10 : Int) (x11 : Int), l = [(0, .int .u32 p0), (1, .int .i64 p1), (5, .int .i64 x10), (6, .int .i64 x11)] ∧ V.le V' ∧ Ow V' (Rs) ∧ itO (fun s => ref01_Signed_l1b p0 p1 s.1 s.2) n (x10, x11) = some r) n13 _ ⟨0, w64 (32 - p1), rfl, .refl _, ow, hn12⟩ (allCons (L 11 rfl rfl) (allCons (L 12 rfl rfl) (allCons (L 3 rfl rfl) (allCons (L 0 rfl rfl) allNil)))) ?_
   rintro _ _ V14 ⟨x10, x11, rfl, le15, ow16, h20⟩
   obtain ⟨m17, q18, rfl, h21, e19⟩ := itS h20
   replace h21 : ref01_Signed_l1b p0 p1 x10 x11 = some q18 := h21
   unfold ref01_Signed_l1b at h21
   refine WP.seq ?_
   refine WP.usreg rfl ?_
   refine U.p rfl rfl (.inl rfl) (S.move rfl (L 3 rfl rfl)) ?_
   refine U.p rfl rfl (.inl rfl) (S.lss rfl (L 0 rfl rfl) K) ?_
   refine U.done (nr rfl) ?_
   refine WP.cond _ (L 0 rfl rfl) rfl (fun c22 => ?_) (fun c22 => ?_)
   ·have h23 := ifT c22 h21
    refine WP.skip ?_
    refine sqN ?_
    refine WP.seqI (fun l V' => ∃ (x24 : Int), l = [(0, .int .u32 p0), (1, .int .i64 p1), (5, .int .i64 x24), (6, .int .i64 x11)] ∧ V14.le V' ∧ Ow V' (Rs) ∧ ref01_Signed_k1 x11 x24 = some q18) ?_ ?_
    ·rintro _ V25 ⟨x24, rfl, le26, ow27, h28⟩
     unfold ref01_Signed_k1 at h28
     refine WP.ureg rfl ?_
     refine U.p rfl rfl (.inl rfl) (S.move rfl (L 3 rfl rfl)) ?_
     refine U.p rfl rfl (.inl rfl) (S.add rfl (L 0 rfl rfl) K) ?_
     refine U.p rfl rfl (.inl rfl) (S.assign rfl (L 0 rfl rfl)) ?_
     refine U.done (nr rfl) ?_
     refine sqN ?_
     exact ⟨_, V25, rfl, ⟨m17, Nat.lt_succ_self _, x24, w64 (x11 + 1), rfl, (le15.trans le26), ow27, backS h28 e19⟩, (allCons (L 3 rfl rfl) (allCons (L 4 rfl rfl) (allCons (L 5 rfl rfl) (allCons (L 0 rfl rfl) allNil))))⟩
    ·skip
     refine WP.blk ?_
     refine WP.usreg rfl ?_
     refine U.p rfl rfl (.inl rfl) (S.move rfl (L 4 rfl rfl)) ?_
     refine U.p rfl rfl (.inl rfl) (S.mul rfl K (L 0 rfl rfl)) ?_
     refine U.p rfl rfl (.inl rfl) (S.assign rfl (L 0 rfl rfl)) ?_
     refine U.done (nr rfl) ?_
     refine WP.usreg rfl ?_
     refine U.p rfl rfl (.inl rfl) (S.move rfl (L 5 rfl rfl)) ?_
     refine U.p rfl rfl (.inl rfl) (S.move rfl (L 9 rfl rfl)) ?_
     obtain ⟨x29, hx30, h31⟩ := bindS h23
     refine O.call (V := V14) rfl rfl (.inl rfl) rfl en41 (aC (L 1 rfl rfl) (aC (L 0 rfl rfl) aN)) (wk_ref01_Bit V14 _ (gl.up le15) p0 x11 ow16 _ hx30) (fun _ _ _ _ => nd) (fun v32 V33 le34 hp35 => ?_)
     obtain ⟨rfl, ow36⟩ := hp35
     refine U.done (nr rfl) ?_
     refine WP.cond _ (L 0 rfl rfl) rfl (fun c37 => ?_) (fun c37 => ?_)
     ·have h38 := ifT c37 h31
      refine WP.usreg rfl ?_
      refine U.p rfl rfl (.inl rfl) (S.move rfl (L 11 rfl rfl)) ?_
      refine U.p rfl rfl (.inl rfl) (S.move rfl (L 10 rfl rfl)) ?_
      refine U.p rfl rfl (.inl rfl) (S.sub rfl K (L 0 rfl rfl)) ?_
      refine U.p rfl rfl (.inl rfl) (S.eqlI rfl (L 2 rfl rfl) (L 0 rfl rfl)) ?_
      refine U.done (nr rfl) ?_
      refine WP.cond _ (L 0 rfl rfl) rfl (fun c39 => ?_) (fun c39 => ?_)
      ·have h40 := ifT c39 h38
       refine WP.ureg rfl ?_
       refine U.p rfl rfl (.inl rfl) (S.move rfl (L 7 rfl rfl)) ?_
       refine U.p rfl rfl (.inl rfl) (S.sub rfl (L 0 rfl rfl) K) ?_
       refine U.p rfl rfl (.inl rfl) (S.assign rfl (L 0 rfl rfl)) ?_
       refine U.done (nr rfl) ?_
       refine blkN (sqN ?_)
       exact ⟨_, V33, rfl, ⟨w64 ((w64 (2 * x10)) - 1), rfl, le34, ow36, h40⟩, (allCons (L 15 rfl rfl) (allCons (L 16 rfl rfl) (allCons (L 0 rfl rfl) (allCons (L 18 rfl rfl) allNil))))⟩
      ·have h41 := ifF c39 h38
       refine WP.ureg rfl ?_
       refine U.p rfl rfl (.inl rfl) (S.move rfl (L 7 rfl rfl)) ?_
       refine U.p rfl rfl (.inl rfl) (S.add rfl (L 0 rfl rfl) K) ?_
       refine U.p rfl rfl (.inl rfl) (S.assign rfl (L 0 rfl rfl)) ?_
       refine U.done (nr rfl) ?_
       refine blkN (sqN ?_)
       exact ⟨_, V33, rfl, ⟨w64 ((w64 (2 * x10)) + 1), rfl, le34, ow36, h41⟩, (allCons (L 15 rfl rfl) (allCons (L 16 rfl rfl) (allCons (L 0 rfl rfl) (allCons (L 18 rfl rfl) allNil))))⟩
     ·have h42 := ifF c37 h31
      refine WP.skip ?_
      refine blkN (sqN ?_)
      exact ⟨_, V33, rfl, ⟨w64 (2 * x10), rfl, le34, ow36, h42⟩, (allCons (L 8 rfl rfl) (allCons (L 9 rfl rfl) (allCons (L 3 rfl rfl) (allCons (L 11 rfl rfl) allNil))))⟩
   ·have h43 := ifF c22 h21
    refine WP.exit ?_
    refine sqE (sqE (blkE (sqN ?_)))
    have h44 := exitS h43 e19
    refine WP.usreg rfl ?_
    refine U.p rfl rfl (.inl rfl) (S.move rfl (L 4 rfl rfl)) ?_
    refine U.p rfl rfl (.inl rfl) (S.assign rfl (L 0 rfl rfl)) ?_
    refine U.done (nr rfl) ?_
    refine WP.ret ?_
    refine fin.slot (.inr rfl) rfl (L 0 rfl rfl) ⟨V14, rfl, le15, ?_⟩
    have e45 := Option.some.inj h44
    subst e45
    exact ⟨rfl, ow16⟩
 ·intro kk
  refine bcase (b := decide (p1 < 1)) (fun g46 => ?_) (fun g46 => ?_)
  ·skip
   refine U.x rfl rfl rfl rfl ((L 0 rfl rfl).trans (congrArg Value.bool g46)) (by decide) ?_
   refine U.x rfl rfl rfl rfl ((L 1 rfl rfl).trans (congrArg Value.bool g46)) (by decide) ?_
   refine U.p rfl rfl (.inl rfl) (S.pickT rfl ((L 2 rfl rfl).trans (congrArg Value.bool g46)) K) ?_
   exact kk [(12, .bool true), (11, .tuple #[]), (10, .tuple #[])] _ ⟨.tuple #[], .tuple #[], rfl, (by rw [g46, Bool.true_or])⟩
  ·skip
   refine U.p rfl rfl (.inr ⟨_, _, _, rfl, rfl, ((L 0 rfl rfl).trans (congrArg Value.bool g46))⟩) (S.move rfl (L 5 rfl rfl)) ?_
   refine U.p rfl rfl (.inr ⟨_, _, _, rfl, rfl, ((L 1 rfl rfl).trans (congrArg Value.bool g46))⟩) (S.gtr rfl (L 0 rfl rfl) K) ?_
   refine U.p rfl rfl (.inl rfl) (S.pickF rfl ((L 2 rfl rfl).trans (congrArg Value.bool g46)) (L 0 rfl rfl)) ?_
   exact kk [(12, .bool (decide (32 < p1))), (11, .bool (decide (32 < p1))), (10, .int .i64 p1)] _ ⟨.bool (decide (32 < p1)), .int .i64 p1, rfl, (by rw [g46, Bool.false_or])⟩
set_option maxHeartbeats 4000000 in
set_option maxRecDepth 10000 in
theorem wk_ref02_number (V : Vw) (Rs : List At) (gl : Glb V) (p0 : Bool) (p1 : Int) (ow : Ow V (Rs)) (r : Bool) (h : ref02_number p0 p1 = some r) : ∃ v V', Cl Tryd.prog NG 32 #[.bool p0, .int .i64 p1] V.H v V'.H ∧ V.le V' ∧ (v = .bool r ∧ Ow V' (Rs)) := by
 refine Ct.of gl.lo Tryd.func32 rfl (nr rfl) ?_
 unfold ref02_number at h
 refine WP.usreg rfl ?_
 refine U.p rfl rfl (.inl rfl) (S.assign rfl K) ?_
 refine U.done (nr rfl) ?_
 refine WP.usreg rfl ?_
 refine U.p rfl rfl (.inl rfl) (S.move rfl (L 1 rfl rfl)) ?_
 refine U.p rfl rfl (.inl rfl) (S.move rfl (L 0 rfl rfl)) ?_
 refine U.joinX 5 (fun e H => ∃ (u1 u2 : Value), H = V.H ∧ e = [(9, .bool (p0 && (decide (0 ≤ p1)))), (8, u1), (7, u2)]) ?_ ?_
 ·rintro _ _ ⟨u1, u2, rfl, rfl⟩
  refine U.p rfl rfl (.inl rfl) (S.move rfl (L 0 rfl rfl)) ?_
  refine U.joinX 9 (fun e H => ∃ (u6 u7 : Value), H = V.H ∧ e = [(13, .bool ((p0 && (decide (0 ≤ p1))) && (decide (p1 ≤ 31)))), (12, u6), (11, u7)]) ?_ ?_
  ·rintro _ _ ⟨u6, u7, rfl, rfl⟩
   refine U.p rfl rfl (.inl rfl) (S.move rfl (L 0 rfl rfl)) ?_
   refine U.joinX 17 (fun e H => ∃ (u11 u12 u13 u14 u15 u16 : Value), H = V.H ∧ e = [(21, .bool (((p0 && (decide (0 ≤ p1))) && (decide (p1 ≤ 31))) || ((!p0) && (decide (p1 = 0))))), (20, u11), (19, u12), (18, u13), (17, u14), (16, u15), (15, u16)]) ?_ ?_
   ·rintro _ _ ⟨u11, u12, u13, u14, u15, u16, rfl, rfl⟩
    refine U.p rfl rfl (.inl rfl) (S.assign rfl (L 0 rfl rfl)) ?_
    refine U.done (nr rfl) ?_
    refine WP.ret ?_
    refine fin.slot (.inr rfl) rfl (L 0 rfl rfl) ⟨V, rfl, (.refl _), ?_⟩
    have e20 := Option.some.inj h
    subst e20
    exact ⟨rfl, ow⟩
   ·intro kk
    refine bcase (b := (p0 && (decide (0 ≤ p1))) && (decide (p1 ≤ 31))) (fun g21 => ?_) (fun g21 => ?_)
    ·skip
     refine U.x rfl rfl rfl rfl ((L 0 rfl rfl).trans (congrArg Value.bool g21)) (by decide) ?_
     refine U.x rfl rfl rfl rfl ((L 1 rfl rfl).trans (congrArg Value.bool g21)) (by decide) ?_
     refine U.x rfl rfl rfl rfl ((L 2 rfl rfl).trans (congrArg Value.bool g21)) (by decide) ?_
     refine U.z rfl rfl rfl rfl (L 0 rfl rfl) ?_
     refine U.z rfl rfl rfl rfl (L 1 rfl rfl) ?_
     refine U.x rfl rfl rfl rfl ((L 5 rfl rfl).trans (congrArg Value.bool g21)) (by decide) ?_
     refine U.p rfl rfl (.inl rfl) (S.pickT rfl ((L 6 rfl rfl).trans (congrArg Value.bool g21)) K) ?_
     exact kk [(21, .bool true), (20, .tuple #[]), (19, .tuple #[]), (18, .tuple #[]), (17, .tuple #[]), (16, .tuple #[]), (15, .tuple #[])] _ ⟨.tuple #[], .tuple #[], .tuple #[], .tuple #[], .tuple #[], .tuple #[], rfl, (by rw [g21, Bool.true_or])⟩
    ·skip
     refine U.p rfl rfl (.inr ⟨_, _, _, rfl, rfl, ((L 0 rfl rfl).trans (congrArg Value.bool g21))⟩) (S.move rfl (L 11 rfl rfl)) ?_
     refine U.p rfl rfl (.inr ⟨_, _, _, rfl, rfl, ((L 1 rfl rfl).trans (congrArg Value.bool g21))⟩) (S.not rfl (L 0 rfl rfl)) ?_
     refine U.p rfl rfl (.inr ⟨_, _, _, rfl, rfl, ((L 2 rfl rfl).trans (congrArg Value.bool g21))⟩) (S.move rfl (L 0 rfl rfl)) ?_
     refine U.joinX 16 (fun e H => ∃ (u22 u23 : Value), H = V.H ∧ e = [(20, .bool ((!p0) && (decide (p1 = 0)))), (19, u22), (18, u23)]) ?_ ?_
     ·rintro _ _ ⟨u22, u23, rfl, rfl⟩
      refine U.p rfl rfl (.inl rfl) (S.pickF rfl ((L 6 rfl rfl).trans (congrArg Value.bool g21)) (L 0 rfl rfl)) ?_
      exact kk [(21, .bool ((!p0) && (decide (p1 = 0)))), (20, .bool ((!p0) && (decide (p1 = 0)))), (19, u22), (18, u23), (17, .bool (!p0)), (16, .bool (!p0)), (15, .bool p0)] _ ⟨.bool ((!p0) && (decide (p1 = 0))), u22, u23, .bool (!p0), .bool (!p0), .bool p0, rfl, (by rw [g21, Bool.false_or])⟩
     ·intro kk
      refine bcase (b := !p0) (fun g27 => ?_) (fun g27 => ?_)
      ·skip
       have k28 : p0 = false := nT g27
       refine U.p rfl rfl (.inr ⟨_, _, _, rfl, rfl, ((L 0 rfl rfl).trans (congrArg Value.bool g27))⟩) (S.move rfl (L 15 rfl rfl)) ?_
       refine U.p rfl rfl (.inr ⟨_, _, _, rfl, rfl, ((L 1 rfl rfl).trans (congrArg Value.bool g27))⟩) (S.eqlI rfl (L 0 rfl rfl) K) ?_
       refine U.p rfl rfl (.inr ⟨_, _, _, rfl, rfl, ((L 5 rfl rfl).trans (congrArg Value.bool g21))⟩) (S.pickT rfl ((L 2 rfl rfl).trans (congrArg Value.bool g27)) (L 0 rfl rfl)) ?_
       exact kk [(20, .bool (decide (p1 = 0))), (19, .bool (decide (p1 = 0))), (18, .int .i64 p1)] _ ⟨.bool (decide (p1 = 0)), .int .i64 p1, rfl, (by rw [g27, Bool.true_and])⟩
      ·skip
       have k29 : p0 = true := nF g27
       refine U.x rfl rfl rfl rfl ((L 0 rfl rfl).trans (congrArg Value.bool g27)) (by decide) ?_
       refine U.x rfl rfl rfl rfl ((L 1 rfl rfl).trans (congrArg Value.bool g27)) (by decide) ?_
       refine U.p rfl rfl (.inr ⟨_, _, _, rfl, rfl, ((L 5 rfl rfl).trans (congrArg Value.bool g21))⟩) (S.pickF rfl ((L 2 rfl rfl).trans (congrArg Value.bool g27)) K) ?_
       exact kk [(20, .bool false), (19, .tuple #[]), (18, .tuple #[])] _ ⟨.tuple #[], .tuple #[], rfl, (by rw [g27, Bool.false_and])⟩
  ·intro kk
   refine bcase (b := p0 && (decide (0 ≤ p1))) (fun g30 => ?_) (fun g30 => ?_)
   ·skip
    refine U.p rfl rfl (.inr ⟨_, _, _, rfl, rfl, ((L 0 rfl rfl).trans (congrArg Value.bool g30))⟩) (S.move rfl (L 8 rfl rfl)) ?_
    refine U.p rfl rfl (.inr ⟨_, _, _, rfl, rfl, ((L 1 rfl rfl).trans (congrArg Value.bool g30))⟩) (S.leq rfl (L 0 rfl rfl) K) ?_
    refine U.p rfl rfl (.inl rfl) (S.pickT rfl ((L 2 rfl rfl).trans (congrArg Value.bool g30)) (L 0 rfl rfl)) ?_
    exact kk [(13, .bool (decide (p1 ≤ 31))), (12, .bool (decide (p1 ≤ 31))), (11, .int .i64 p1)] _ ⟨.bool (decide (p1 ≤ 31)), .int .i64 p1, rfl, (by rw [g30, Bool.true_and])⟩
   ·skip
    refine U.x rfl rfl rfl rfl ((L 0 rfl rfl).trans (congrArg Value.bool g30)) (by decide) ?_
    refine U.x rfl rfl rfl rfl ((L 1 rfl rfl).trans (congrArg Value.bool g30)) (by decide) ?_
    refine U.p rfl rfl (.inl rfl) (S.pickF rfl ((L 2 rfl rfl).trans (congrArg Value.bool g30)) K) ?_
    exact kk [(13, .bool false), (12, .tuple #[]), (11, .tuple #[])] _ ⟨.tuple #[], .tuple #[], rfl, (by rw [g30, Bool.false_and])⟩
 ·intro kk
  refine bcase (b := p0) (fun g31 => ?_) (fun g31 => ?_)
  ·skip
   refine U.p rfl rfl (.inr ⟨_, _, _, rfl, rfl, ((L 0 rfl rfl).trans (congrArg Value.bool g31))⟩) (S.move rfl (L 4 rfl rfl)) ?_
   refine U.p rfl rfl (.inr ⟨_, _, _, rfl, rfl, ((L 1 rfl rfl).trans (congrArg Value.bool g31))⟩) (S.geq rfl (L 0 rfl rfl) K) ?_
   refine U.p rfl rfl (.inl rfl) (S.pickT rfl ((L 2 rfl rfl).trans (congrArg Value.bool g31)) (L 0 rfl rfl)) ?_
   exact kk [(9, .bool (decide (0 ≤ p1))), (8, .bool (decide (0 ≤ p1))), (7, .int .i64 p1)] _ ⟨.bool (decide (0 ≤ p1)), .int .i64 p1, rfl, (by rw [g31, Bool.true_and])⟩
  ·skip
   refine U.x rfl rfl rfl rfl ((L 0 rfl rfl).trans (congrArg Value.bool g31)) (by decide) ?_
   refine U.x rfl rfl rfl rfl ((L 1 rfl rfl).trans (congrArg Value.bool g31)) (by decide) ?_
   refine U.p rfl rfl (.inl rfl) (S.pickF rfl ((L 2 rfl rfl).trans (congrArg Value.bool g31)) K) ?_
   exact kk [(9, .bool false), (8, .tuple #[]), (7, .tuple #[])] _ ⟨.tuple #[], .tuple #[], rfl, (by rw [g31, Bool.false_and])⟩
set_option maxHeartbeats 4000000 in
set_option maxRecDepth 10000 in
theorem wk_ref01_Fits (V : Vw) (Rs : List At) (gl : Glb V) (p0 : Int) (p1 : Int) (ow : Ow V (Rs)) (r : Bool) (h : ref01_Fits p0 p1 = some r) : ∃ v V', Cl Tryd.prog NG 33 #[.int .i64 p0, .int .i64 p1] V.H v V'.H ∧ V.le V' ∧ (v = .bool r ∧ Ow V' (Rs)) := by
 refine Ct.of gl.lo Tryd.func33 rfl (nr rfl) ?_
 unfold ref01_Fits at h
 refine WP.usreg rfl ?_
 refine U.p rfl rfl (.inl rfl) (S.assign rfl K) ?_
 refine U.done (nr rfl) ?_
 refine WP.seq ?_
 refine WP.usreg rfl ?_
 refine U.p rfl rfl (.inl rfl) (S.move rfl (L 2 rfl rfl)) ?_
 refine U.p rfl rfl (.inl rfl) (S.lss rfl (L 0 rfl rfl) K) ?_
 refine U.done (nr rfl) ?_
 refine WP.cond _ (L 0 rfl rfl) rfl (fun c1 => ?_) (fun c1 => ?_)
 ·have h2 := ifT c1 h
  refine WP.usreg rfl ?_
  refine U.p rfl rfl (.inl rfl) (S.assign rfl K) ?_
  refine U.done (nr rfl) ?_
  refine WP.ret ?_
  refine sqR ?_
  refine fin.slot (.inr rfl) rfl (L 0 rfl rfl) ⟨V, rfl, (.refl _), ?_⟩
  have e3 := Option.some.inj h2
  subst e3
  exact ⟨rfl, ow⟩
 ·have h4 := ifF c1 h
  refine WP.skip ?_
  refine sqN ?_
  refine WP.seq ?_
  refine WP.usreg rfl ?_
  refine U.p rfl rfl (.inl rfl) (S.move rfl (L 4 rfl rfl)) ?_
  refine U.p rfl rfl (.inl rfl) (S.gtr rfl (L 0 rfl rfl) K) ?_
  refine U.done (nr rfl) ?_
  refine WP.cond _ (L 0 rfl rfl) rfl (fun c5 => ?_) (fun c5 => ?_)
  ·have h6 := ifT c5 h4
   refine WP.usreg rfl ?_
   refine U.p rfl rfl (.inl rfl) (S.assign rfl K) ?_
   refine U.done (nr rfl) ?_
   refine WP.ret ?_
   refine sqR ?_
   refine fin.slot (.inr rfl) rfl (L 0 rfl rfl) ⟨V, rfl, (.refl _), ?_⟩
   have e7 := Option.some.inj h6
   subst e7
   exact ⟨rfl, ow⟩
  ·have h8 := ifF c5 h4
   refine WP.skip ?_
   refine sqN ?_
   refine WP.usreg rfl ?_
   refine U.p rfl rfl (.inl rfl) (S.assign rfl K) ?_
   refine U.p rfl rfl (.inl rfl) (S.assign rfl K) ?_
   refine U.done (nr rfl) ?_
   refine WP.seq ?_
   refine WP.usreg rfl ?_
   refine U.p rfl rfl (.inl rfl) (S.assign rfl K) ?_
   refine U.done (nr rfl) ?_
   refine WP.blk ?_
   unfold ref01_Fits_l1 at h8
   obtain ⟨n13, hn12⟩ := loopO_some.1 h8
   refine WP.loopI2 (fun n l V' => ∃ (x9 : Int) (x10 : Int) (x11 : Int), l = [(0, .int .i64 p0), (1, .int .i64 p1), (5, .int .i64 x9), (6, .int .i64 x10), (7, .int .i64 x11)] ∧ V.le V' ∧ Ow V' (Rs) ∧ itO (fun s => ref01_Fits_l1b p0 p1 s.1 s.2.1 s.2.2) n (x9, x10, x11) = some r) n13 _ ⟨(-1), 0, 1, rfl, .refl _, ow, hn12⟩ (allCons (L 8 rfl rfl) (allCons (L 9 rfl rfl) (allCons (L 2 rfl rfl) (allCons (L 1 rfl rfl) (allCons (L 0 rfl rfl) allNil))))) ?_
   rintro _ _ V14 ⟨x9, x10, x11, rfl, le15, ow16, h20⟩
   obtain ⟨m17, q18, rfl, h21, e19⟩ := itS h20
   replace h21 : ref01_Fits_l1b p0 p1 x9 x10 x11 = some q18 := h21
   unfold ref01_Fits_l1b at h21
   refine WP.seq ?_
   refine WP.usreg rfl ?_
   refine U.p rfl rfl (.inl rfl) (S.move rfl (L 4 rfl rfl)) ?_
   refine U.p rfl rfl (.inl rfl) (S.move rfl (L 2 rfl rfl)) ?_
   refine U.p rfl rfl (.inl rfl) (S.lss rfl (L 1 rfl rfl) (L 0 rfl rfl)) ?_
   refine U.done (nr rfl) ?_
   refine WP.cond _ (L 0 rfl rfl) rfl (fun c22 => ?_) (fun c22 => ?_)
   ·have h23 := ifT c22 h21
    refine WP.skip ?_
    refine sqN ?_
    refine WP.seq ?_
    refine WP.blk ?_
    refine WP.usreg rfl ?_
    refine U.p rfl rfl (.inl rfl) (S.move rfl (L 5 rfl rfl)) ?_
    refine U.p rfl rfl (.inl rfl) (S.mul rfl K (L 0 rfl rfl)) ?_
    refine U.p rfl rfl (.inl rfl) (S.assign rfl (L 0 rfl rfl)) ?_
    refine U.done (nr rfl) ?_
    refine WP.ureg rfl ?_
    refine U.p rfl rfl (.inl rfl) (S.move rfl (L 9 rfl rfl)) ?_
    refine U.p rfl rfl (.inl rfl) (S.mul rfl K (L 0 rfl rfl)) ?_
    refine U.p rfl rfl (.inl rfl) (S.add rfl (L 0 rfl rfl) K) ?_
    refine U.p rfl rfl (.inl rfl) (S.assign rfl (L 0 rfl rfl)) ?_
    refine U.done (nr rfl) ?_
    refine blkN (sqN ?_)
    refine WP.ureg rfl ?_
    refine U.p rfl rfl (.inl rfl) (S.move rfl (L 14 rfl rfl)) ?_
    refine U.p rfl rfl (.inl rfl) (S.add rfl (L 0 rfl rfl) K) ?_
    refine U.p rfl rfl (.inl rfl) (S.assign rfl (L 0 rfl rfl)) ?_
    refine U.done (nr rfl) ?_
    refine sqN ?_
    exact ⟨_, V14, rfl, ⟨m17, Nat.lt_succ_self _, w64 (2 * x9), w64 ((w64 (2 * x10)) + 1), w64 (x11 + 1), rfl, le15, ow16, backS h23 e19⟩, (allCons (L 13 rfl rfl) (allCons (L 14 rfl rfl) (allCons (L 7 rfl rfl) (allCons (L 3 rfl rfl) (allCons (L 0 rfl rfl) allNil)))))⟩
   ·have h24 := ifF c22 h21
    refine WP.exit ?_
    refine sqE (sqE (blkE (sqN ?_)))
    have h25 := exitS h24 e19
    refine WP.usreg rfl ?_
    refine U.p rfl rfl (.inl rfl) (S.move rfl (L 3 rfl rfl)) ?_
    refine U.p rfl rfl (.inl rfl) (S.move rfl (L 6 rfl rfl)) ?_
    refine U.p rfl rfl (.inl rfl) (S.geq rfl (L 1 rfl rfl) (L 0 rfl rfl)) ?_
    refine U.p rfl rfl (.inl rfl) (S.move rfl (L 0 rfl rfl)) ?_
    refine U.joinX 8 (fun e H => ∃ (u26 u27 u28 : Value), H = V14.H ∧ e = [(29, .bool ((decide (x9 ≤ p0)) && (decide (p0 ≤ x10)))), (28, u26), (27, u27), (26, u28)]) ?_ ?_
    ·rintro _ _ ⟨u26, u27, u28, rfl, rfl⟩
     refine U.p rfl rfl (.inl rfl) (S.assign rfl (L 0 rfl rfl)) ?_
     refine U.done (nr rfl) ?_
     refine WP.ret ?_
     refine fin.slot (.inr rfl) rfl (L 0 rfl rfl) ⟨V14, rfl, le15, ?_⟩
     have e32 := Option.some.inj h25
     subst e32
     exact ⟨rfl, ow16⟩
    ·intro kk
     refine bcase (b := decide (x9 ≤ p0)) (fun g33 => ?_) (fun g33 => ?_)
     ·skip
      refine U.p rfl rfl (.inr ⟨_, _, _, rfl, rfl, ((L 0 rfl rfl).trans (congrArg Value.bool g33))⟩) (S.move rfl (L 7 rfl rfl)) ?_
      refine U.p rfl rfl (.inr ⟨_, _, _, rfl, rfl, ((L 1 rfl rfl).trans (congrArg Value.bool g33))⟩) (S.move rfl (L 11 rfl rfl)) ?_
      refine U.p rfl rfl (.inr ⟨_, _, _, rfl, rfl, ((L 2 rfl rfl).trans (congrArg Value.bool g33))⟩) (S.leq rfl (L 1 rfl rfl) (L 0 rfl rfl)) ?_
      refine U.p rfl rfl (.inl rfl) (S.pickT rfl ((L 3 rfl rfl).trans (congrArg Value.bool g33)) (L 0 rfl rfl)) ?_
      exact kk [(29, .bool (decide (p0 ≤ x10))), (28, .bool (decide (p0 ≤ x10))), (27, .int .i64 x10), (26, .int .i64 p0)] _ ⟨.bool (decide (p0 ≤ x10)), .int .i64 x10, .int .i64 p0, rfl, (by rw [g33, Bool.true_and])⟩
     ·skip
      refine U.x rfl rfl rfl rfl ((L 0 rfl rfl).trans (congrArg Value.bool g33)) (by decide) ?_
      refine U.x rfl rfl rfl rfl ((L 1 rfl rfl).trans (congrArg Value.bool g33)) (by decide) ?_
      refine U.x rfl rfl rfl rfl ((L 2 rfl rfl).trans (congrArg Value.bool g33)) (by decide) ?_
      refine U.p rfl rfl (.inl rfl) (S.pickF rfl ((L 3 rfl rfl).trans (congrArg Value.bool g33)) K) ?_
      exact kk [(29, .bool false), (28, .tuple #[]), (27, .tuple #[]), (26, .tuple #[])] _ ⟨.tuple #[], .tuple #[], .tuple #[], rfl, (by rw [g33, Bool.false_and])⟩
end Go.Vm.G02
