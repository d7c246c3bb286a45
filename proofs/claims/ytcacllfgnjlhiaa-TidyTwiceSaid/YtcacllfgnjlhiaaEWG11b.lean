/-
  What the functions compute is what the plain ones say, for all inputs at which those answer.
-/
import Derived.Test.YtcacllfgnjlhiaaEWG11
set_option linter.unusedSimpArgs false
set_option linter.unusedVariables false
namespace Go.Vm.G11
open Go Go.Proofs
set_option maxHeartbeats 4000000
set_option maxRecDepth 10000
theorem wk_tidy_swept (V : Vw) (Rs : List At) (p0 : TFunc) (v1 : Value) (f2 : Fz RT_TIns V v1 p0.code) (ow : Ow V (Rs)) (r : TFunc × Bool) (h : tidy_swept p0 = some r) : ∃ v V', Cl Try.prog 0 20 #[.agg #[.string p0.name, .int .i64 p0.params, .int .i64 p0.regs, v1]] V.H v V'.H ∧ V.le V' ∧ (∃ (v3 : Value), v = .tuple #[.agg #[.string r.1.name, .int .i64 r.1.params, .int .i64 r.1.regs, v3], .bool r.2] ∧ Fz RT_TIns V' v3 r.1.code ∧ Ow V' (Rs)) := by
 refine Ct.of (Nat.zero_le _) Try.func20 rfl (nr rfl) ?_
 unfold tidy_swept at h
 refine WP.usreg rfl ?_
 refine O.box ow rfl rfl (.inl rfl) rfl (L 0 rfl rfl) (by simp [topV]) rfl nd (fun b5 V6 le7 ow8 => ?_)
 refine O.alloc ow8 rfl rfl (.inl rfl) rfl ti38 rfl rfl nd (fun b10 V11 le12 ow13 => ?_)
 refine U.p rfl rfl (.inl rfl) (S.assign rfl K) ?_
 refine U.done (nr rfl) ?_
 refine WP.usdreg rfl rfl rfl ?_
 refine U.k rfl rfl (.inl rfl) (S.loadB rfl (L 2 rfl rfl) Try.underlying38 rfl ti38 (ow13.own (k := 1) rfl).get rfl) (fun _ => (okH.nil (fun r h => by cases h; exact (ow13.own (k := 1) rfl).lt))) ?_
 have f15 := f2.up (le7.trans le12)
 obtain ⟨x16, hx17, h18⟩ := bindS h
 refine O.call (V := V11) rfl rfl (.inl rfl) rfl en30 (aC (L 0 rfl rfl) aN) (wk_flow_Live V11 _ p0 v1 f15 ow13 _ hx17) (fun v19 V20 le21 hp22 => by obtain ⟨_, rfl, ow23⟩ := hp22; exact (fun _ => (okH.cons (Or.inl rfl) (okH.nil (fun r h => nomatch h))))) (fun v19 V20 le21 hp22 => ?_)
 obtain ⟨_, rfl, ow23⟩ := hp22
 refine U.k rfl rfl (.inl rfl) (S.loadB rfl (L 4 rfl rfl) Try.underlying38 rfl ti38 (ow23.own (k := 2) rfl).get rfl) (fun _ => (okH.cons (Or.inr (Or.inl ((ow23.own (k := 2) rfl).get.trans (ow13.own (k := 1) rfl).get.symm))) (okH.cons trivial (okH.nil (fun r h => by cases h; exact (ow23.own (k := 2) rfl).lt))))) ?_
 have f26 := f15.up le21
 obtain ⟨x27, hx28, h29⟩ := bindS h18
 refine O.call (V := V20) rfl rfl (.inl rfl) rfl en31 (aC (L 0 rfl rfl) aN) (wk_flow_Reached V20 _ p0 v1 f26 ow23 _ hx28) (fun v30 V31 le32 hp33 => by obtain ⟨_, rfl, ow34⟩ := hp33; exact (fun _ => (okH.cons (Or.inl rfl) (okH.cons rfl (okH.cons (Or.inl rfl) (okH.nil (fun r h => nomatch h))))))) (fun v30 V31 le32 hp33 => ?_)
 obtain ⟨_, rfl, ow34⟩ := hp33
 refine U.p rfl rfl (.inl rfl) (S.assign rfl (L 2 rfl rfl)) ?_
 refine U.p rfl rfl (.inl rfl) (S.assign rfl (L 1 rfl rfl)) ?_
 refine U.done (nr rfl) ?_
 refine WP.usreg rfl ?_
 refine U.p rfl rfl (.inl rfl) (S.assign rfl K) ?_
 refine U.done (nr rfl) ?_
 refine WP.seq ?_
 refine WP.usreg rfl ?_
 refine U.p (v := .pointer (some ⟨b5, 3, none⟩)) rfl rfl (.inl rfl) (S.fieldAddr rfl (L 9 rfl rfl) Try.underlying38 rfl ti36 rfl rfl) ?_
 refine U.k rfl rfl (.inl rfl) (S.load rfl (L 0 rfl rfl) Try.underlying36 rfl ((ow34.own (k := 3) rfl).cell rfl)) nd ?_
 refine U.p rfl rfl (.inl rfl) (f26.1.len rfl (L 0 rfl rfl) Try.underlying36) ?_
 refine U.p rfl rfl (.inl rfl) (S.move rfl K) ?_
 refine U.done (nr rfl) ?_
 refine WP.blk ?_
 have ow41 := ow34.nil RT_TIns
 have ow43 := ow41.pick 0 rfl
 have ow44 := ow43.pick 1 rfl
 have ow45 := ow44.pick 2 rfl
 have ow46 := ow45.pick 3 rfl
 have ow47 := ow46.pick 4 rfl
 unfold tidy_swept_l1 at h29
 obtain ⟨n49, hn48⟩ := loopO_some.1 h29
 refine WP.loopI2 (fun n l V' => ∃ (v38 : Value) (xs39 : List TIns) (x40 : Int), l = [(1, .pointer (some ⟨b5, 0, none⟩)), (2, .pointer (some ⟨b10, 0, none⟩)), (4, v19), (5, v30), (6, v38), (16, v1), (17, .int .i64 (p0.code.length : Int)), (18, .int .i64 x40)] ∧ V31.le V' ∧ Ow V' (.pt b5 (.cells 0 [.string p0.name, .int .i64 p0.params, .int .i64 p0.regs, v1]) :: .pt b10 (.cells 4 [.string ByteArray.empty, .int .i64 0, .int .i64 0, .slice none 0 0]) :: .os (RT.sl RT.bool) v19 x16 :: .os RT.bool v30 x27 :: .os RT_TIns v38 xs39 :: Rs) ∧ itO (fun s => tidy_swept_l1b p0 x16 x27 s.1 s.2) n (xs39, x40) = some r) n49 _ ⟨(.slice none 0 0), [], 0, rfl, .refl _, ow47, hn48⟩ (allCons (L 13 rfl rfl) (allCons (L 12 rfl rfl) (allCons (L 6 rfl rfl) (allCons (L 5 rfl rfl) (allCons (L 4 rfl rfl) (allCons (L 2 rfl rfl) (allCons (L 1 rfl rfl) (allCons (L 0 rfl rfl) allNil)))))))) ?_
 rintro _ _ V50 ⟨v38, xs39, x40, rfl, le51, ow52, h56⟩
 obtain ⟨m53, q54, rfl, h57, e55⟩ := itS h56
 replace h57 : tidy_swept_l1b p0 x16 x27 xs39 x40 = some q54 := h57
 unfold tidy_swept_l1b at h57
 refine WP.usreg rfl ?_
 refine U.p rfl rfl (.inl rfl) (S.lss rfl (L 7 rfl rfl) (L 6 rfl rfl)) ?_
 refine U.done (nr rfl) ?_
 refine WP.seq ?_
 refine WP.cond _ (L 0 rfl rfl) rfl (fun c58 => ?_) (fun c58 => ?_)
 ·have h59 := ifT c58 h57
  refine WP.skip ?_
  refine sqN ?_
  refine WP.seqI (fun l V' => ∃ (v61 : Value) (xs62 : List TIns), l = [(1, .pointer (some ⟨b5, 0, none⟩)), (2, .pointer (some ⟨b10, 0, none⟩)), (4, v19), (5, v30), (6, v61), (16, v1), (17, .int .i64 (p0.code.length : Int)), (18, .int .i64 x40)] ∧ V50.le V' ∧ Ow V' (.pt b5 (.cells 0 [.string p0.name, .int .i64 p0.params, .int .i64 p0.regs, v1]) :: .pt b10 (.cells 4 [.string ByteArray.empty, .int .i64 0, .int .i64 0, .slice none 0 0]) :: .os (RT.sl RT.bool) v19 x16 :: .os RT.bool v30 x27 :: .os RT_TIns v61 xs62 :: Rs) ∧ tidy_swept_k1 x40 xs62 = some q54) ?_ ?_
  ·rintro _ V63 ⟨v61, xs62, rfl, le64, ow65, h66⟩
   unfold tidy_swept_k1 at h66
   refine WP.ureg rfl ?_
   refine U.p rfl rfl (.inl rfl) (S.add rfl (L 7 rfl rfl) K) ?_
   refine U.p rfl rfl (.inl rfl) (S.move rfl (L 0 rfl rfl)) ?_
   refine U.done (nr rfl) ?_
   refine sqN ?_
   exact ⟨_, V63, rfl, ⟨m53, Nat.lt_succ_self _, v61, xs62, w64 (x40 + 1), rfl, (le51.trans le64), ow65, backS h66 e55⟩, (allCons (L 2 rfl rfl) (allCons (L 3 rfl rfl) (allCons (L 4 rfl rfl) (allCons (L 5 rfl rfl) (allCons (L 6 rfl rfl) (allCons (L 7 rfl rfl) (allCons (L 8 rfl rfl) (allCons (L 0 rfl rfl) allNil))))))))⟩
  ·skip
   refine WP.blk ?_
   refine WP.usreg rfl ?_
   refine U.p rfl rfl (.inl rfl) (S.move rfl (L 8 rfl rfl)) ?_
   obtain ⟨x67, hx68, h69⟩ := bindS h59
   obtain ⟨b70, o71, c72, cs73, hv74, hf75, hr76, hc77⟩ := f26.at hx68
   obtain ⟨v78, rfl, f79⟩ := hr76
   refine U.p rfl rfl (.inl rfl) (S.index rfl ((L 7 rfl rfl).trans hv74) (L 9 rfl rfl) Try.underlying36 ti44 (ix_ge hx68) (ix_lt hx68)) ?_
   refine U.k rfl rfl (.inl rfl) (S.loadN (cs := [.int .i64 x67.op, .int .i64 x67.d, .int .i64 x67.a, .int .i64 x67.b, .int .i64 x67.imm, v78, .int .i64 x67.what, .bool x67.volatile, .bool x67.final]) rfl (L 0 rfl rfl) Try.underlying44 rfl ti44 rfl (fun j v hj => (le32.trans le51).cell hf75 (hc77 j v hj))) nd ?_
   refine O.alloc ow52 rfl rfl (.inl rfl) rfl ti44 rfl rfl nd (fun b80 V81 le82 ow83 => ?_)
   refine U.p rfl rfl (.inl rfl) (S.assign rfl (L 3 rfl rfl)) ?_
   refine O.store (k := 0) (cs := [.int .i64 x67.op, .int .i64 x67.d, .int .i64 x67.a, .int .i64 x67.b, .int .i64 x67.imm, v78, .int .i64 x67.what, .bool x67.volatile, .bool x67.final]) (c' := [.int .i64 x67.op, .int .i64 x67.d, .int .i64 x67.a, .int .i64 x67.b, .int .i64 x67.imm, v78, .int .i64 x67.what, .bool x67.volatile, .bool x67.final]) ow83 rfl rfl rfl (.inl rfl) rfl (L 1 rfl rfl) (L 2 rfl rfl) ti44 (by simp [topV]) rfl rfl (nr rfl) (by have q0 := f79.one; simp only [List.all_cons, List.all_nil, q0]; rfl) rfl nd (fun V85 le86 ow87 => ?_)
   refine U.done (nr rfl) ?_
   refine WP.usreg rfl ?_
   refine U.p (v := .pointer (some ⟨b80, 0, none⟩)) rfl rfl (.inl rfl) (S.fieldAddr rfl (L 1 rfl rfl) Try.underlying44 rfl ti3 rfl rfl) ?_
   refine U.k rfl rfl (.inl rfl) (S.load rfl (L 0 rfl rfl) Try.underlying3 rfl ((ow87.own (k := 0) rfl).cell rfl)) nd ?_
   refine U.p rfl rfl (.inl rfl) (S.eqlI rfl (L 0 rfl rfl) K) ?_
   refine U.p rfl rfl (.inl rfl) (S.move rfl (L 0 rfl rfl)) ?_
   obtain ⟨y88, hy89, h90⟩ := bindS h69
   refine U.joinX 16 (fun e H => ∃ (u91 u92 u93 u94 u95 u96 u97 u98 u99 u100 u101 : Value), ∃ V' : Vw, H = V'.H ∧ V85.le V' ∧ e = [(38, .bool y88), (37, u91), (36, u92), (35, u93), (34, u94), (33, u95), (32, u96), (31, u97), (30, u98), (29, u99), (28, u100), (27, u101)] ∧ Ow V' (.pt b80 (.cells 9 [.int .i64 x67.op, .int .i64 x67.d, .int .i64 x67.a, .int .i64 x67.b, .int .i64 x67.imm, v78, .int .i64 x67.what, .bool x67.volatile, .bool x67.final]) :: .pt b5 (.cells 0 [.string p0.name, .int .i64 p0.params, .int .i64 p0.regs, v1]) :: .pt b10 (.cells 4 [.string ByteArray.empty, .int .i64 0, .int .i64 0, .slice none 0 0]) :: .os (RT.sl RT.bool) v19 x16 :: .os RT.bool v30 x27 :: .os RT_TIns v38 xs39 :: Rs)) ?_ ?_
   ·rintro _ _ ⟨u91, u92, u93, u94, u95, u96, u97, u98, u99, u100, u101, V102, rfl, le103, rfl, ow104⟩
    refine U.done (nr rfl) ?_
    refine WP.cond _ (L 0 rfl rfl) rfl (fun c105 => ?_) (fun c105 => ?_)
    ·have h106 := ifT c105 h90
     refine WP.ureg rfl ?_
     refine U.p rfl rfl (.inl rfl) (S.move rfl (L 26 rfl rfl)) ?_
     refine U.k rfl rfl (.inl rfl) (S.loadB rfl (L 18 rfl rfl) Try.underlying44 rfl ti44 (ow104.own (k := 0) rfl).get rfl) nd ?_
     have f107 := f79.up ((((le32.trans le51).trans le82).trans le86).trans le103)
     refine O.lit (R := RT_TIns) ow104 rfl rfl (.inl rfl) rfl Try.underlying36 ti44 rfl rfl rfl (nr rfl) rfl (aC (L 0 rfl rfl) aN) (.cons _ _ x67 _ (by simp [topV]) ⟨_, rfl, f107⟩ .nil) (fun _ => nd) (fun v108 V109 le110 ow111 => ?_)
     obtain ⟨xs113, hx114, h115⟩ := bindS h106
     refine O.append (k := 6) ow111 rfl rfl rfl (.inl rfl) rfl (L 2 rfl rfl) (L 0 rfl rfl) Try.underlying36 ti44 rfl rfl (nr rfl) (ow111.src (k := 0) rfl Try.underlying36) hx114 (fun _ _ => nd) (fun v116 V117 le118 ow119 => ?_)
     refine U.p rfl rfl (.inl rfl) (S.assign rfl (L 0 rfl rfl)) ?_
     refine U.done (nr rfl) ?_
     refine blkN (sqN ?_)
     have ow121 := ow119.drop 0 rfl
     have ow122 := ow121.drop 0 rfl
     exact ⟨_, V117, rfl, ⟨v116, xs113, rfl, ((((le82.trans le86).trans le103).trans le110).trans le118), ow122, h115⟩, (allCons (L 27 rfl rfl) (allCons (L 28 rfl rfl) (allCons (L 29 rfl rfl) (allCons (L 30 rfl rfl) (allCons (L 0 rfl rfl) (allCons (L 32 rfl rfl) (allCons (L 33 rfl rfl) (allCons (L 34 rfl rfl) allNil))))))))⟩
    ·have h123 := ifF c105 h90
     refine WP.skip ?_
     refine blkN (sqN ?_)
     have ow124 := ow104.drop 0 rfl
     exact ⟨_, V102, rfl, ⟨v38, xs39, rfl, ((le82.trans le86).trans le103), ow124, h123⟩, (allCons (L 22 rfl rfl) (allCons (L 23 rfl rfl) (allCons (L 24 rfl rfl) (allCons (L 25 rfl rfl) (allCons (L 26 rfl rfl) (allCons (L 27 rfl rfl) (allCons (L 28 rfl rfl) (allCons (L 29 rfl rfl) allNil))))))))⟩
   ·intro kk
    refine bcase (b := decide (x67.op = 11)) (fun g125 => ?_) (fun g125 => ?_)
    ·have h126 := ifT g125 hy89
     refine U.x rfl rfl rfl rfl ((L 0 rfl rfl).trans (cB g125)) (by decide) ?_
     refine U.x rfl rfl rfl rfl ((L 1 rfl rfl).trans (cB g125)) (by decide) ?_
     refine U.x rfl rfl rfl rfl ((L 2 rfl rfl).trans (cB g125)) (by decide) ?_
     refine U.x rfl rfl rfl rfl ((L 3 rfl rfl).trans (cB g125)) (by decide) ?_
     refine U.x rfl rfl rfl rfl ((L 4 rfl rfl).trans (cB g125)) (by decide) ?_
     refine U.z rfl rfl rfl rfl (L 0 rfl rfl) ?_
     refine U.z rfl rfl rfl rfl (L 1 rfl rfl) ?_
     refine U.z rfl rfl rfl rfl (L 2 rfl rfl) ?_
     refine U.z rfl rfl rfl rfl (L 3 rfl rfl) ?_
     refine U.z rfl rfl rfl rfl (L 4 rfl rfl) ?_
     refine U.x rfl rfl rfl rfl ((L 10 rfl rfl).trans (cB g125)) (by decide) ?_
     refine U.p rfl rfl (.inl rfl) (S.pickT rfl ((L 11 rfl rfl).trans (cB g125)) K) ?_
     have e127 := Option.some.inj h126
     subst e127
     exact kk [(38, .bool true), (37, .tuple #[]), (36, .tuple #[]), (35, .tuple #[]), (34, .tuple #[]), (33, .tuple #[]), (32, .tuple #[]), (31, .tuple #[]), (30, .tuple #[]), (29, .tuple #[]), (28, .tuple #[]), (27, .tuple #[])] _ ⟨.tuple #[], .tuple #[], .tuple #[], .tuple #[], .tuple #[], .tuple #[], .tuple #[], .tuple #[], .tuple #[], .tuple #[], .tuple #[], V85, rfl, (.refl _), rfl, ow87⟩
    ·have h128 := ifF g125 hy89
     refine U.p rfl rfl (.inr ⟨_, _, _, rfl, rfl, ((L 0 rfl rfl).trans (cB g125))⟩) (S.move rfl (L 13 rfl rfl)) ?_
     refine U.p rfl rfl (.inr ⟨_, _, _, rfl, rfl, ((L 1 rfl rfl).trans (cB g125))⟩) (S.move rfl (L 5 rfl rfl)) ?_
     obtain ⟨x129, hx130, h131⟩ := bindS h128
     obtain ⟨b132, o133, n134, c135, hv136⟩ := ow87.ospt (k := 4) rfl hx130
     obtain ⟨_, hv137, _⟩ := ow87.osel (k := 4) rfl hv136 hx130
     refine U.p rfl rfl (.inr ⟨_, _, _, rfl, rfl, ((L 2 rfl rfl).trans (cB g125))⟩) (S.index rfl ((L 1 rfl rfl).trans hv137) (L 0 rfl rfl) Try.underlying68 ti4 (ix_ge hx130) (ix_lt hx130)) ?_
     obtain ⟨cs138, hv139, hlt140, hr141, hc142⟩ := ow87.osel (k := 4) rfl hv136 hx130
     obtain rfl : cs138 = [.bool x129] := hr141
     refine U.k rfl rfl (.inr ⟨_, _, _, rfl, rfl, ((L 3 rfl rfl).trans (cB g125))⟩) (S.load rfl (L 0 rfl rfl) Try.underlying4 rfl (hc142 0 _ rfl)) nd ?_
     refine U.p rfl rfl (.inr ⟨_, _, _, rfl, rfl, ((L 4 rfl rfl).trans (cB g125))⟩) (S.move rfl (L 0 rfl rfl)) ?_
     obtain ⟨y143, hy144, h145⟩ := bindS h131
     refine U.joinX 15 (fun e H => ∃ (u146 u147 u148 u149 u150 : Value), ∃ V' : Vw, H = V'.H ∧ V85.le V' ∧ e = [(37, .bool y143), (36, u146), (35, u147), (34, u148), (33, u149), (32, u150)] ∧ Ow V' (.pt b80 (.cells 9 [.int .i64 x67.op, .int .i64 x67.d, .int .i64 x67.a, .int .i64 x67.b, .int .i64 x67.imm, v78, .int .i64 x67.what, .bool x67.volatile, .bool x67.final]) :: .pt b5 (.cells 0 [.string p0.name, .int .i64 p0.params, .int .i64 p0.regs, v1]) :: .pt b10 (.cells 4 [.string ByteArray.empty, .int .i64 0, .int .i64 0, .slice none 0 0]) :: .os (RT.sl RT.bool) v19 x16 :: .os RT.bool v30 x27 :: .os RT_TIns v38 xs39 :: Rs)) ?_ ?_
     ·rintro _ _ ⟨u146, u147, u148, u149, u150, V151, rfl, le152, rfl, ow153⟩
      refine U.p rfl rfl (.inl rfl) (S.pickF rfl ((L 11 rfl rfl).trans (cB g125)) (L 0 rfl rfl)) ?_
      have e154 := Option.some.inj h145
      subst e154
      exact kk [(38, .bool y143), (37, .bool y143), (36, u146), (35, u147), (34, u148), (33, u149), (32, u150), (31, .bool x129), (30, .bool x129), (29, .pointer (some ⟨b132, o133 + Int.toNat x40 * 1, none⟩)), (28, .int .i64 x40), (27, v30)] _ ⟨.bool y143, u146, u147, u148, u149, u150, .bool x129, .bool x129, .pointer (some ⟨b132, o133 + Int.toNat x40 * 1, none⟩), .int .i64 x40, v30, V151, rfl, le152, rfl, ow153⟩
     ·intro kk
      refine bcase (b := x129) (fun g155 => ?_) (fun g155 => ?_)
      ·have h156 := ifT g155 hy144
       refine U.k rfl rfl (.inr ⟨_, _, _, rfl, rfl, ((L 0 rfl rfl).trans (cB g155))⟩) (S.loadB rfl (L 15 rfl rfl) Try.underlying38 rfl ti38 (ow87.own (k := 1) rfl).get rfl) nd ?_
       refine U.p rfl rfl (.inr ⟨_, _, _, rfl, rfl, ((L 1 rfl rfl).trans (cB g155))⟩) (S.move rfl (L 10 rfl rfl)) ?_
       refine U.p rfl rfl (.inr ⟨_, _, _, rfl, rfl, ((L 2 rfl rfl).trans (cB g155))⟩) (S.move rfl (L 19 rfl rfl)) ?_
       have f157 := f26.up (((le32.trans le51).trans le82).trans le86)
       have ow158 := ow87.pick 3 rfl
       obtain ⟨x159, hx160, h161⟩ := bindS h156
       refine O.call (V := V85) rfl rfl (.inr ⟨_, _, _, rfl, rfl, ((L 3 rfl rfl).trans (cB g155))⟩) rfl en32 (aC (L 2 rfl rfl) (aC (L 1 rfl rfl) (aC (L 0 rfl rfl) aN))) (wk_tidy_idle V85 _ p0 x40 x16 v1 v19 f157 ow158 _ hx160) (fun _ _ _ _ => nd) (fun v162 V163 le164 hp165 => ?_)
       obtain ⟨rfl, ow166⟩ := hp165
       refine U.p rfl rfl (.inr ⟨_, _, _, rfl, rfl, ((L 4 rfl rfl).trans (cB g155))⟩) (S.not rfl (L 0 rfl rfl)) ?_
       refine U.p rfl rfl (.inr ⟨_, _, _, rfl, rfl, ((L 10 rfl rfl).trans (cB g125))⟩) (S.pickT rfl ((L 5 rfl rfl).trans (cB g155)) (L 0 rfl rfl)) ?_
       have e167 := Option.some.inj h161
       subst e167
       have ow168 := ow166.pick 5 rfl
       have ow169 := ow168.pick 5 rfl
       have ow170 := ow169.pick 2 rfl
       have ow171 := ow170.pick 5 rfl
       have ow172 := ow171.pick 5 rfl
       have ow173 := ow172.pick 5 rfl
       exact kk [(37, .bool (!x159)), (36, .bool (!x159)), (35, .bool x159), (34, v19), (33, .int .i64 x40), (32, .agg #[.string p0.name, .int .i64 p0.params, .int .i64 p0.regs, v1])] _ ⟨.bool (!x159), .bool x159, v19, .int .i64 x40, .agg #[.string p0.name, .int .i64 p0.params, .int .i64 p0.regs, v1], V163, rfl, le164, rfl, ow173⟩
      ·have h174 := ifF g155 hy144
       refine U.x rfl rfl rfl rfl ((L 0 rfl rfl).trans (cB g155)) (by decide) ?_
       refine U.x rfl rfl rfl rfl ((L 1 rfl rfl).trans (cB g155)) (by decide) ?_
       refine U.x rfl rfl rfl rfl ((L 2 rfl rfl).trans (cB g155)) (by decide) ?_
       refine U.x rfl rfl rfl rfl ((L 3 rfl rfl).trans (cB g155)) (by decide) ?_
       refine U.x rfl rfl rfl rfl ((L 4 rfl rfl).trans (cB g155)) (by decide) ?_
       refine U.p rfl rfl (.inr ⟨_, _, _, rfl, rfl, ((L 10 rfl rfl).trans (cB g125))⟩) (S.pickF rfl ((L 5 rfl rfl).trans (cB g155)) K) ?_
       have e175 := Option.some.inj h174
       subst e175
       exact kk [(37, .bool false), (36, .tuple #[]), (35, .tuple #[]), (34, .tuple #[]), (33, .tuple #[]), (32, .tuple #[])] _ ⟨.tuple #[], .tuple #[], .tuple #[], .tuple #[], .tuple #[], V85, rfl, (.refl _), rfl, ow87⟩
 ·have h176 := ifF c58 h57
  refine WP.exit ?_
  refine sqE (sqE (blkE (sqN ?_)))
  have h177 := exitS h176 e55
  refine WP.usreg rfl ?_
  refine U.p rfl rfl (.inl rfl) (S.move rfl (L 5 rfl rfl)) ?_
  refine U.p rfl rfl (.inl rfl) (ow52.oslen (k := 4) rfl rfl (L 0 rfl rfl) Try.underlying36) ?_
  refine U.p (v := .pointer (some ⟨b5, 3, none⟩)) rfl rfl (.inl rfl) (S.fieldAddr rfl (L 3 rfl rfl) Try.underlying38 rfl ti36 rfl rfl) ?_
  refine U.k rfl rfl (.inl rfl) (S.load rfl (L 0 rfl rfl) Try.underlying36 rfl ((ow52.own (k := 0) rfl).cell rfl)) nd ?_
  refine U.p rfl rfl (.inl rfl) (f26.1.len rfl (L 0 rfl rfl) Try.underlying36) ?_
  refine U.p rfl rfl (.inl rfl) (S.lss rfl (L 3 rfl rfl) (L 0 rfl rfl)) ?_
  refine U.p rfl rfl (.inl rfl) (S.assign rfl (L 0 rfl rfl)) ?_
  refine U.done (nr rfl) ?_
  refine WP.seqI (fun l V' => ∃ (v179 : Value) (xs180 : List TIns), l = [(1, .pointer (some ⟨b5, 0, none⟩)), (2, .pointer (some ⟨b10, 0, none⟩)), (6, v179), (9, .bool (decide ((xs39.length : Int) < (p0.code.length : Int))))] ∧ V50.le V' ∧ Ow V' (.pt b5 (.cells 0 [.string p0.name, .int .i64 p0.params, .int .i64 p0.regs, v1]) :: .pt b10 (.cells 4 [.string ByteArray.empty, .int .i64 0, .int .i64 0, .slice none 0 0]) :: .os RT_TIns v179 xs180 :: Rs) ∧ tidy_swept_k2 p0 xs39 xs180 = some r) ?_ ?_
  ·rintro _ V181 ⟨v179, xs180, rfl, le182, ow183, h184⟩
   unfold tidy_swept_k2 at h184
   refine WP.usreg rfl ?_
   refine U.p rfl rfl (.inl rfl) (S.move rfl (L 2 rfl rfl)) ?_
   refine U.p (v := .pointer (some ⟨b5, 3, none⟩)) rfl rfl (.inl rfl) (S.fieldAddr rfl (L 1 rfl rfl) Try.underlying38 rfl ti36 rfl rfl) ?_
   refine O.store (k := 0) (cs := [v179]) (c' := [.string p0.name, .int .i64 p0.params, .int .i64 p0.regs, v179]) ow183 rfl rfl rfl (.inl rfl) rfl (L 0 rfl rfl) (L 1 rfl rfl) ti36 (ow183.osne (k := 2) rfl) (by rw [ow183.oscells (k := 2) rfl]) rfl (nr rfl) (by have q0 := (ow183.osone (k := 2) rfl); simp only [List.all_cons, List.all_nil, q0]; rfl) rfl nd (fun V185 le186 ow187 => ?_)
   refine U.done (nr rfl) ?_
   refine WP.usreg rfl ?_
   refine U.k rfl rfl (.inl rfl) (S.loadB rfl (L 2 rfl rfl) Try.underlying38 rfl ti38 (ow187.own (k := 0) rfl).get rfl) nd ?_
   refine U.p rfl rfl (.inl rfl) (S.move rfl (L 6 rfl rfl)) ?_
   refine O.store (k := 1) (cs := [.string p0.name, .int .i64 p0.params, .int .i64 p0.regs, v179]) (c' := [.string p0.name, .int .i64 p0.params, .int .i64 p0.regs, v179]) ow187 rfl rfl rfl (.inl rfl) rfl (L 5 rfl rfl) (L 1 rfl rfl) ti38 (by simp [topV]) rfl rfl (nr rfl) (by have q0 := (ow187.osone (k := 2) rfl); simp only [List.all_cons, List.all_nil, q0]; rfl) rfl nd (fun V188 le189 ow190 => ?_)
   refine U.p rfl rfl (.inl rfl) (S.assign rfl (L 0 rfl rfl)) ?_
   refine U.done (nr rfl) ?_
   refine WP.ret ?_
   obtain ⟨V191, eV195, le192, f193, ow194⟩ := ow190.osfz (k := 2) rfl
   rw [← eV195]
   refine fin.mix (.inr rfl) (resA (L 6 rfl rfl) Try.underlying38 rfl ti38 (ow194.own (k := 1) rfl).get rfl (resT (L 0 rfl rfl) res0)) rfl ⟨V191, rfl, ((((((((le7.trans le12).trans le21).trans le32).trans le51).trans le182).trans le186).trans le189).trans le192), ?_⟩
   have ow197 := ow194.drop 0 rfl
   have ow198 := ow197.drop 0 rfl
   have e199 := Option.some.inj h184
   subst e199
   exact ⟨v179, rfl, f193, ow198⟩
  ·skip
   refine WP.usreg rfl ?_
   refine U.p rfl rfl (.inl rfl) (S.move rfl (L 12 rfl rfl)) ?_
   refine U.p rfl rfl (.inl rfl) (ow52.oslen (k := 4) rfl rfl (L 0 rfl rfl) Try.underlying36) ?_
   refine U.p rfl rfl (.inl rfl) (S.assign rfl (L 0 rfl rfl)) ?_
   refine U.done (nr rfl) ?_
   refine WP.usreg rfl ?_
   refine U.p rfl rfl (.inl rfl) (S.move rfl (L 0 rfl rfl)) ?_
   refine U.p rfl rfl (.inl rfl) (S.eqlI rfl (L 0 rfl rfl) K) ?_
   refine U.p rfl rfl (.inl rfl) (S.move rfl (L 0 rfl rfl)) ?_
   obtain ⟨y200, hy201, h202⟩ := bindS h177
   refine U.joinX 11 (fun e H => ∃ (u203 u204 u205 u206 u207 u208 u209 : Value), H = V50.H ∧ e = [(62, .bool y200), (61, u203), (60, u204), (59, u205), (58, u206), (57, u207), (56, u208), (55, u209)]) ?_ ?_
   ·rintro _ _ ⟨u203, u204, u205, u206, u207, u208, u209, rfl, rfl⟩
    refine U.done (nr rfl) ?_
    refine WP.cond _ (L 0 rfl rfl) rfl (fun c213 => ?_) (fun c213 => ?_)
    ·have h214 := ifT c213 h202
     refine WP.ureg rfl ?_
     refine U.p rfl rfl (.inl rfl) (S.move rfl (L 26 rfl rfl)) ?_
     refine U.p (v := .agg #[.int .i64 15, .int .i64 (-1), .int .i64 (-1), .int .i64 (-1), .int .i64 0, .slice none 0 0, .int .i64 0, .bool false, .bool false]) rfl rfl (.inl rfl) (S.build (vs := [.int .i64 15, .int .i64 (-1), .int .i64 (-1), .int .i64 (-1)]) rfl ti44 rfl pl44 (aC K (aC K (aC K (aC K aN)))) (allC (by simp [topV]) (allC (by simp [topV]) (allC (by simp [topV]) (allC (by simp [topV]) allN)))) rfl) ?_
     refine O.lit (R := RT_TIns) ow52 rfl rfl (.inl rfl) rfl Try.underlying36 ti44 rfl rfl rfl (nr rfl) rfl (aC (L 0 rfl rfl) aN) (.cons _ _ (⟨15, (-1), (-1), (-1), 0, [], 0, false, false⟩ : TIns) _ (by simp [topV]) ⟨_, rfl, Fz.nil⟩ .nil) (fun _ => nd) (fun v215 V216 le217 ow218 => ?_)
     obtain ⟨xs220, hx221, h222⟩ := bindS h214
     refine O.append (k := 5) ow218 rfl rfl rfl (.inl rfl) rfl (L 2 rfl rfl) (L 0 rfl rfl) Try.underlying36 ti44 rfl rfl (nr rfl) (ow218.src (k := 0) rfl Try.underlying36) hx221 (fun _ _ => nd) (fun v223 V224 le225 ow226 => ?_)
     refine U.p rfl rfl (.inl rfl) (S.assign rfl (L 0 rfl rfl)) ?_
     refine U.done (nr rfl) ?_
     refine sqN ?_
     have ow228 := ow226.drop 0 rfl
     have ow229 := ow228.drop 2 rfl
     have ow230 := ow229.drop 2 rfl
     exact ⟨_, V224, rfl, ⟨v223, xs220, rfl, (le217.trans le225), ow230, h222⟩, (allCons (L 27 rfl rfl) (allCons (L 28 rfl rfl) (allCons (L 0 rfl rfl) (allCons (L 19 rfl rfl) allNil))))⟩
    ·have h231 := ifF c213 h202
     refine WP.skip ?_
     refine sqN ?_
     have ow232 := ow52.drop 2 rfl
     have ow233 := ow232.drop 2 rfl
     exact ⟨_, V50, rfl, ⟨v38, xs39, rfl, (.refl _), ow233, h231⟩, (allCons (L 22 rfl rfl) (allCons (L 23 rfl rfl) (allCons (L 26 rfl rfl) (allCons (L 14 rfl rfl) allNil))))⟩
   ·intro kk
    refine bcase (b := decide ((xs39.length : Int) = 0)) (fun g234 => ?_) (fun g234 => ?_)
    ·have h235 := ifT g234 hy201
     refine U.x rfl rfl rfl rfl ((L 0 rfl rfl).trans (cB g234)) (by decide) ?_
     refine U.x rfl rfl rfl rfl ((L 1 rfl rfl).trans (cB g234)) (by decide) ?_
     refine U.x rfl rfl rfl rfl ((L 2 rfl rfl).trans (cB g234)) (by decide) ?_
     refine U.x rfl rfl rfl rfl ((L 3 rfl rfl).trans (cB g234)) (by decide) ?_
     refine U.x rfl rfl rfl rfl ((L 4 rfl rfl).trans (cB g234)) (by decide) ?_
     refine U.x rfl rfl rfl rfl ((L 5 rfl rfl).trans (cB g234)) (by decide) ?_
     refine U.x rfl rfl rfl rfl ((L 6 rfl rfl).trans (cB g234)) (by decide) ?_
     refine U.p rfl rfl (.inl rfl) (S.pickT rfl ((L 7 rfl rfl).trans (cB g234)) K) ?_
     have e236 := Option.some.inj h235
     subst e236
     exact kk [(62, .bool true), (61, .tuple #[]), (60, .tuple #[]), (59, .tuple #[]), (58, .tuple #[]), (57, .tuple #[]), (56, .tuple #[]), (55, .tuple #[])] _ ⟨.tuple #[], .tuple #[], .tuple #[], .tuple #[], .tuple #[], .tuple #[], .tuple #[], rfl, rfl⟩
    ·have h237 := ifF g234 hy201
     refine U.p rfl rfl (.inr ⟨_, _, _, rfl, rfl, ((L 0 rfl rfl).trans (cB g234))⟩) (S.move rfl (L 18 rfl rfl)) ?_
     refine U.p rfl rfl (.inr ⟨_, _, _, rfl, rfl, ((L 1 rfl rfl).trans (cB g234))⟩) (S.move rfl (L 4 rfl rfl)) ?_
     refine U.p rfl rfl (.inr ⟨_, _, _, rfl, rfl, ((L 2 rfl rfl).trans (cB g234))⟩) (S.sub rfl (L 0 rfl rfl) K) ?_
     obtain ⟨x238, hx239, h240⟩ := bindS h237
     obtain ⟨b241, o242, n243, c244, hv245⟩ := ow52.ospt (k := 4) rfl hx239
     obtain ⟨_, hv246, _⟩ := ow52.osel (k := 4) rfl hv245 hx239
     refine U.p rfl rfl (.inr ⟨_, _, _, rfl, rfl, ((L 3 rfl rfl).trans (cB g234))⟩) (S.index rfl ((L 2 rfl rfl).trans hv246) (L 0 rfl rfl) Try.underlying36 ti44 (ix_ge hx239) (ix_lt hx239)) ?_
     refine U.p (v := .pointer (some ⟨b241, o242 + Int.toNat (w64 ((xs39.length : Int) - 1)) * 9, none⟩)) rfl rfl (.inr ⟨_, _, _, rfl, rfl, ((L 4 rfl rfl).trans (cB g234))⟩) (S.fieldAddr rfl (L 0 rfl rfl) Try.underlying44 rfl ti3 rfl rfl) ?_
     obtain ⟨cs247, hv248, hlt249, hr250, hc251⟩ := ow52.osel (k := 4) rfl hv245 hx239
     obtain ⟨v252, rfl, f253⟩ := hr250
     refine U.k rfl rfl (.inr ⟨_, _, _, rfl, rfl, ((L 5 rfl rfl).trans (cB g234))⟩) (S.load rfl (L 0 rfl rfl) Try.underlying3 rfl (hc251 0 _ rfl)) nd ?_
     refine U.p rfl rfl (.inr ⟨_, _, _, rfl, rfl, ((L 6 rfl rfl).trans (cB g234))⟩) (S.eqlI rfl (L 0 rfl rfl) K) ?_
     refine U.p rfl rfl (.inl rfl) (S.pickF rfl ((L 7 rfl rfl).trans (cB g234)) (L 0 rfl rfl)) ?_
     have e254 := Option.some.inj h240
     subst e254
     exact kk [(62, .bool (decide (x238.op = 11))), (61, .bool (decide (x238.op = 11))), (60, .int .i64 x238.op), (59, .pointer (some ⟨b241, o242 + Int.toNat (w64 ((xs39.length : Int) - 1)) * 9, none⟩)), (58, .pointer (some ⟨b241, o242 + Int.toNat (w64 ((xs39.length : Int) - 1)) * 9, none⟩)), (57, .int .i64 (w64 ((xs39.length : Int) - 1))), (56, .int .i64 (xs39.length : Int)), (55, v38)] _ ⟨.bool (decide (x238.op = 11)), .int .i64 x238.op, .pointer (some ⟨b241, o242 + Int.toNat (w64 ((xs39.length : Int) - 1)) * 9, none⟩), .pointer (some ⟨b241, o242 + Int.toNat (w64 ((xs39.length : Int) - 1)) * 9, none⟩), .int .i64 (w64 ((xs39.length : Int) - 1)), .int .i64 (xs39.length : Int), v38, rfl, rfl⟩
theorem wk_tidy_Func (V : Vw) (Rs : List At) (p0 : TFunc) (p1 : Ttidy_Options) (v1 : Value) (f2 : Fz RT_TIns V v1 p0.code) (ow : Ow V (Rs)) (r : TFunc) (h : tidy_Func p0 p1 = some r) : ∃ v V', Cl Try.prog 0 15 #[.agg #[.string p0.name, .int .i64 p0.params, .int .i64 p0.regs, v1], .agg #[.bool p1.fold, .bool p1.copy, .bool p1.dead]] V.H v V'.H ∧ V.le V' ∧ (∃ (v3 : Value), v = .agg #[.string r.name, .int .i64 r.params, .int .i64 r.regs, v3] ∧ Fz RT_TIns V' v3 r.code ∧ Ow V' (Rs)) := by
 refine Ct.of (Nat.zero_le _) Try.func15 rfl (nr rfl) ?_
 unfold tidy_Func at h
 refine WP.usreg rfl ?_
 refine O.box ow rfl rfl (.inl rfl) rfl (L 0 rfl rfl) (by simp [topV]) rfl nd (fun b5 V6 le7 ow8 => ?_)
 refine O.box ow8 rfl rfl (.inl rfl) rfl (L 2 rfl rfl) (by simp [topV]) rfl nd (fun b10 V11 le12 ow13 => ?_)
 refine O.alloc ow13 rfl rfl (.inl rfl) rfl ti38 rfl rfl nd (fun b15 V16 le17 ow18 => ?_)
 refine U.done (nr rfl) ?_
 refine WP.usreg rfl ?_
 refine U.k rfl rfl (.inl rfl) (S.loadB rfl (L 2 rfl rfl) Try.underlying38 rfl ti38 (ow18.own (k := 2) rfl).get rfl) nd ?_
 refine U.k rfl rfl (.inl rfl) (S.loadB rfl (L 2 rfl rfl) Try.underlying27 rfl ti27 (ow18.own (k := 1) rfl).get rfl) nd ?_
 have f20 := f2.up ((le7.trans le12).trans le17)
 obtain ⟨x21, hx22, h23⟩ := bindS h
 refine O.call (V := V16) rfl rfl (.inl rfl) rfl en19 (aC (L 1 rfl rfl) (aC (L 0 rfl rfl) aN)) (wk_tidy_row V16 _ p0 p1 v1 f20 ow18 _ hx22) (fun _ _ _ _ => nd) (fun v24 V25 le26 hp27 => ?_)
 obtain ⟨v29, rfl, f30, ow28⟩ := hp27
 refine O.store (k := 2) (cs := [.string x21.name, .int .i64 x21.params, .int .i64 x21.regs, v29]) (c' := [.string x21.name, .int .i64 x21.params, .int .i64 x21.regs, v29]) ow28 rfl rfl rfl (.inl rfl) rfl (L 5 rfl rfl) (L 0 rfl rfl) ti38 (by simp [topV]) rfl rfl (nr rfl) (by have q0 := f30.one; simp only [List.all_cons, List.all_nil, q0]; rfl) rfl nd (fun V31 le32 ow33 => ?_)
 refine U.done (nr rfl) ?_
 refine WP.seq ?_
 refine WP.usreg rfl ?_
 refine U.p (v := .pointer (some ⟨b10, 2, none⟩)) rfl rfl (.inl rfl) (S.fieldAddr rfl (L 4 rfl rfl) Try.underlying27 rfl ti4 rfl rfl) ?_
 refine U.k rfl rfl (.inl rfl) (S.load rfl (L 0 rfl rfl) Try.underlying4 rfl ((ow33.own (k := 1) rfl).cell rfl)) nd ?_
 refine U.p rfl rfl (.inl rfl) (S.assign rfl (L 0 rfl rfl)) ?_
 refine U.done (nr rfl) ?_
 refine WP.blk ?_
 have ow41 := ow33.drop 1 rfl
 have ow42 := ow41.pick 0 rfl
 have ow43 := ow42.pick 1 rfl
 have f44 := f30.up le32
 unfold tidy_Func_l1 at h23
 obtain ⟨n46, hn45⟩ := loopO_some.1 h23
 refine WP.loopI2 (fun n l V' => ∃ (x34 : ByteArray) (x35 : Int) (x36 : Int) (xs37 : List TIns) (v38 : Value) (x40 : Bool), l = [(2, .pointer (some ⟨b5, 0, none⟩)), (4, .pointer (some ⟨b15, 0, none⟩)), (5, .bool x40)] ∧ V31.le V' ∧ Fz RT_TIns V' v38 xs37 ∧ Ow V' (.pt b5 (.cells 0 [.string x34, .int .i64 x35, .int .i64 x36, v38]) :: .pt b15 (.cells 4 [.string ByteArray.empty, .int .i64 0, .int .i64 0, .slice none 0 0]) :: Rs) ∧ itO (fun s => tidy_Func_l1b s.1 s.2.1 s.2.2.1 s.2.2.2.1 s.2.2.2.2) n (x34, x35, x36, xs37, x40) = some r) n46 _ ⟨x21.name, x21.params, x21.regs, x21.code, v29, p1.dead, rfl, .refl _, f44, ow43, hn45⟩ (allCons (L 8 rfl rfl) (allCons (L 6 rfl rfl) (allCons (L 0 rfl rfl) allNil))) ?_
 rintro _ _ V47 ⟨x34, x35, x36, xs37, v38, x40, rfl, le48, f39, ow49, h53⟩
 obtain ⟨m50, q51, rfl, h54, e52⟩ := itS h53
 replace h54 : tidy_Func_l1b x34 x35 x36 xs37 x40 = some q51 := h54
 unfold tidy_Func_l1b at h54
 refine WP.seq ?_
 refine WP.usreg rfl ?_
 refine U.p rfl rfl (.inl rfl) (S.move rfl (L 2 rfl rfl)) ?_
 refine U.done (nr rfl) ?_
 refine WP.cond _ (L 0 rfl rfl) rfl (fun c55 => ?_) (fun c55 => ?_)
 ·have h56 := ifT c55 h54
  refine WP.skip ?_
  refine sqN ?_
  refine WP.blk ?_
  refine WP.usreg rfl ?_
  refine U.p (v := .pointer (some ⟨b5, 3, none⟩)) rfl rfl (.inl rfl) (S.fieldAddr rfl (L 1 rfl rfl) Try.underlying38 rfl ti36 rfl rfl) ?_
  refine U.k rfl rfl (.inl rfl) (S.load rfl (L 0 rfl rfl) Try.underlying36 rfl ((ow49.own (k := 0) rfl).cell rfl)) nd ?_
  refine U.p rfl rfl (.inl rfl) (f39.1.len rfl (L 0 rfl rfl) Try.underlying36) ?_
  refine U.p rfl rfl (.inl rfl) (S.assign rfl (L 0 rfl rfl)) ?_
  refine U.done (nr rfl) ?_
  refine WP.usreg rfl ?_
  refine U.k rfl rfl (.inl rfl) (S.loadB rfl (L 5 rfl rfl) Try.underlying38 rfl ti38 (ow49.own (k := 0) rfl).get rfl) nd ?_
  obtain ⟨x57, hx58, h59⟩ := bindS h56
  refine O.call (V := V47) rfl rfl (.inl rfl) rfl en20 (aC (L 0 rfl rfl) aN) (wk_tidy_swept V47 _ (⟨x34, x35, x36, xs37⟩ : TFunc) v38 f39 ow49 _ hx58) (fun _ _ _ _ => nd) (fun v60 V61 le62 hp63 => ?_)
  obtain ⟨v65, rfl, f66, ow64⟩ := hp63
  refine U.p rfl rfl (.inl rfl) (S.move rfl (L 0 rfl rfl)) ?_
  refine U.p rfl rfl (.inl rfl) (S.extract rfl (L 0 rfl rfl) rfl (nr rfl)) ?_
  refine U.p rfl rfl (.inl rfl) (S.extract rfl (L 1 rfl rfl) rfl (nr rfl)) ?_
  refine O.store (k := 0) (cs := [.string x57.1.name, .int .i64 x57.1.params, .int .i64 x57.1.regs, v65]) (c' := [.string x57.1.name, .int .i64 x57.1.params, .int .i64 x57.1.regs, v65]) ow64 rfl rfl rfl (.inl rfl) rfl (L 10 rfl rfl) (L 1 rfl rfl) ti38 (by simp [topV]) rfl rfl (nr rfl) (by have q0 := f66.one; simp only [List.all_cons, List.all_nil, q0]; rfl) rfl nd (fun V67 le68 ow69 => ?_)
  refine U.done (nr rfl) ?_
  refine WP.ureg rfl ?_
  refine U.p (v := .pointer (some ⟨b5, 3, none⟩)) rfl rfl (.inl rfl) (S.fieldAddr rfl (L 10 rfl rfl) Try.underlying38 rfl ti36 rfl rfl) ?_
  refine U.k rfl rfl (.inl rfl) (S.load rfl (L 0 rfl rfl) Try.underlying36 rfl ((ow69.own (k := 0) rfl).cell rfl)) nd ?_
  refine U.p rfl rfl (.inl rfl) (f66.1.len rfl (L 0 rfl rfl) Try.underlying36) ?_
  refine U.p rfl rfl (.inl rfl) (S.move rfl (L 8 rfl rfl)) ?_
  refine U.p rfl rfl (.inl rfl) (S.lss rfl (L 1 rfl rfl) (L 0 rfl rfl)) ?_
  refine U.p rfl rfl (.inl rfl) (S.assign rfl (L 0 rfl rfl)) ?_
  refine U.done (nr rfl) ?_
  refine blkN (sqN ?_)
  have f70 := f66.up le68
  exact ⟨_, V67, rfl, ⟨m50, Nat.lt_succ_self _, x57.1.name, x57.1.params, x57.1.regs, x57.1.code, v65, decide ((x57.1.code.length : Int) < (xs37.length : Int)), rfl, ((le48.trans le62).trans le68), f70, ow69, backS h59 e52⟩, (allCons (L 16 rfl rfl) (allCons (L 17 rfl rfl) (allCons (L 0 rfl rfl) allNil)))⟩
 ·have h71 := ifF c55 h54
  refine WP.exit ?_
  refine sqE (sqE (blkE (sqN ?_)))
  have h72 := exitS h71 e52
  refine WP.usreg rfl ?_
  refine U.k rfl rfl (.inl rfl) (S.loadB rfl (L 1 rfl rfl) Try.underlying38 rfl ti38 (ow49.own (k := 0) rfl).get rfl) nd ?_
  refine O.store (k := 1) (cs := [.string x34, .int .i64 x35, .int .i64 x36, v38]) (c' := [.string x34, .int .i64 x35, .int .i64 x36, v38]) ow49 rfl rfl rfl (.inl rfl) rfl (L 3 rfl rfl) (L 0 rfl rfl) ti38 (by simp [topV]) rfl rfl (nr rfl) (by have q0 := f39.one; simp only [List.all_cons, List.all_nil, q0]; rfl) rfl nd (fun V73 le74 ow75 => ?_)
  refine U.done (nr rfl) ?_
  refine WP.ret ?_
  have f76 := f39.up le74
  refine fin.cellN (.inr rfl) rfl (L 3 rfl rfl) Try.underlying38 rfl ti38 (ow75.own (k := 1) rfl).get rfl ⟨V73, rfl, ((((((le7.trans le12).trans le17).trans le26).trans le32).trans le48).trans le74), ?_⟩
  have ow77 := ow75.drop 0 rfl
  have ow78 := ow77.drop 0 rfl
  have e79 := Option.some.inj h72
  subst e79
  exact ⟨v38, rfl, f76, ow78⟩
theorem wk_law11_alive (V : Vw) (Rs : List At) (ow : Ow V (Rs)) (r : Bool) (h : law11_alive = some r) : ∃ v V', Cl Try.prog 0 6 #[] V.H v V'.H ∧ V.le V' ∧ (v = .bool r ∧ Ow V' (Rs)) := by
 refine Ct.of (Nat.zero_le _) Try.func6 rfl (nr rfl) ?_
 unfold law11_alive at h
 refine WP.usreg rfl ?_
 refine U.p rfl rfl (.inl rfl) (S.assign rfl K) ?_
 refine U.done (nr rfl) ?_
 refine WP.usreg rfl ?_
 obtain ⟨x1, hx2, h3⟩ := bindS h
 refine O.call (V := V) rfl rfl (.inl rfl) rfl en14 (aC K (aC K aN)) (wk_law11_con V _ 0 2 ow _ hx2) (fun _ _ _ _ => nd) (fun v4 V5 le6 hp7 => ?_)
 obtain ⟨v9, rfl, f10, ow8⟩ := hp7
 obtain ⟨x11, hx12, h13⟩ := bindS h3
 refine O.call (V := V5) rfl rfl (.inl rfl) rfl en14 (aC K (aC K aN)) (wk_law11_con V5 _ 1 3 ow8 _ hx12) (fun _ _ _ _ => nd) (fun v14 V15 le16 hp17 => ?_)
 obtain ⟨v19, rfl, f20, ow18⟩ := hp17
 refine U.p (v := .agg #[.int .i64 3, .int .i64 2, .int .i64 0, .int .i64 1, .int .i64 0, .slice none 0 0, .int .i64 0, .bool false, .bool false]) rfl rfl (.inl rfl) (S.build (vs := [.int .i64 3, .int .i64 2, .int .i64 0, .int .i64 1]) rfl ti44 rfl pl44 (aC K (aC K (aC K (aC K aN)))) (allC (by simp [topV]) (allC (by simp [topV]) (allC (by simp [topV]) (allC (by simp [topV]) allN)))) rfl) ?_
 refine U.p (v := .agg #[.int .i64 20, .int .i64 (-1), .int .i64 2, .int .i64 (-1), .int .i64 0, .slice none 0 0, .int .i64 0, .bool false, .bool false]) rfl rfl (.inl rfl) (S.build (vs := [.int .i64 20, .int .i64 (-1), .int .i64 2, .int .i64 (-1)]) rfl ti44 rfl pl44 (aC K (aC K (aC K (aC K aN)))) (allC (by simp [topV]) (allC (by simp [topV]) (allC (by simp [topV]) (allC (by simp [topV]) allN)))) rfl) ?_
 refine U.p (v := .agg #[.int .i64 15, .int .i64 (-1), .int .i64 (-1), .int .i64 (-1), .int .i64 0, .slice none 0 0, .int .i64 0, .bool false, .bool false]) rfl rfl (.inl rfl) (S.build (vs := [.int .i64 15, .int .i64 (-1), .int .i64 (-1), .int .i64 (-1)]) rfl ti44 rfl pl44 (aC K (aC K (aC K (aC K aN)))) (allC (by simp [topV]) (allC (by simp [topV]) (allC (by simp [topV]) (allC (by simp [topV]) allN)))) rfl) ?_
 have f21 := f10.up le16
 refine O.lit (R := RT_TIns) ow18 rfl rfl (.inl rfl) rfl Try.underlying36 ti44 rfl rfl rfl (nr rfl) rfl (aC (L 4 rfl rfl) (aC (L 3 rfl rfl) (aC (L 2 rfl rfl) (aC (L 1 rfl rfl) (aC (L 0 rfl rfl) aN))))) (.cons _ _ x1 _ (by simp [topV]) ⟨_, rfl, f21⟩ (.cons _ _ x11 _ (by simp [topV]) ⟨_, rfl, f20⟩ (.cons _ _ (⟨3, 2, 0, 1, 0, [], 0, false, false⟩ : TIns) _ (by simp [topV]) ⟨_, rfl, Fz.nil⟩ (.cons _ _ (⟨20, (-1), 2, (-1), 0, [], 0, false, false⟩ : TIns) _ (by simp [topV]) ⟨_, rfl, Fz.nil⟩ (.cons _ _ (⟨15, (-1), (-1), (-1), 0, [], 0, false, false⟩ : TIns) _ (by simp [topV]) ⟨_, rfl, Fz.nil⟩ .nil))))) (fun _ => nd) (fun v22 V23 le24 ow25 => ?_)
 refine U.p (v := .agg #[.string ByteArray.empty, .int .i64 0, .int .i64 3, v22]) rfl rfl (.inl rfl) (S.build (vs := [.int .i64 3, v22]) rfl ti38 rfl pl38 (aC K (aC (L 0 rfl rfl) aN)) (allC (by simp [topV]) (allC (ow25.osne (k := 0) rfl) allN)) (fill1 rfl rfl (nr rfl) (fill1 rfl (ow25.oscells (k := 0) rfl) (nr rfl) rfl))) ?_
 refine O.alloc ow25 rfl rfl (.inl rfl) rfl ti38 rfl rfl nd (fun b27 V28 le29 ow30 => ?_)
 refine O.store (k := 0) (cs := [.string ByteArray.empty, .int .i64 0, .int .i64 3, v22]) (c' := [.string ByteArray.empty, .int .i64 0, .int .i64 3, v22]) ow30 rfl rfl rfl (.inl rfl) rfl (L 0 rfl rfl) (L 1 rfl rfl) ti38 (by simp [topV]) rfl rfl (nr rfl) (by have q0 := (ow30.osone (k := 1) rfl); simp only [List.all_cons, List.all_nil, q0]; rfl) rfl nd (fun V32 le33 ow34 => ?_)
 refine U.done (nr rfl) ?_
 refine WP.usreg rfl ?_
 refine U.k rfl rfl (.inl rfl) (S.loadB rfl (L 0 rfl rfl) Try.underlying38 rfl ti38 (ow34.own (k := 0) rfl).get rfl) nd ?_
 refine U.p (v := .agg #[.bool true, .bool true, .bool true]) rfl rfl (.inl rfl) (S.build (vs := [.bool true, .bool true, .bool true]) rfl ti27 rfl pl27 (aC K (aC K (aC K aN))) (allC (by simp [topV]) (allC (by simp [topV]) (allC (by simp [topV]) allN))) rfl) ?_
 obtain ⟨V35, eV39, le36, f37, ow38⟩ := ow34.osfz (k := 1) rfl
 rw [← eV39]
 obtain ⟨x41, hx42, h43⟩ := bindS h13
 refine O.call (V := V35) rfl rfl (.inl rfl) rfl en15 (aC (L 1 rfl rfl) (aC (L 0 rfl rfl) aN)) (wk_tidy_Func V35 _ (⟨ByteArray.empty, 0, 3, [x1, x11, (⟨3, 2, 0, 1, 0, [], 0, false, false⟩ : TIns), (⟨20, (-1), 2, (-1), 0, [], 0, false, false⟩ : TIns), (⟨15, (-1), (-1), (-1), 0, [], 0, false, false⟩ : TIns)]⟩ : TFunc) (⟨true, true, true⟩ : Ttidy_Options) v22 f37 ow38 _ hx42) (fun _ _ _ _ => nd) (fun v44 V45 le46 hp47 => ?_)
 obtain ⟨v49, rfl, f50, ow48⟩ := hp47
 refine O.alloc ow48 rfl rfl (.inl rfl) rfl ti38 rfl rfl nd (fun b51 V52 le53 ow54 => ?_)
 refine O.store (k := 0) (cs := [.string x41.name, .int .i64 x41.params, .int .i64 x41.regs, v49]) (c' := [.string x41.name, .int .i64 x41.params, .int .i64 x41.regs, v49]) ow54 rfl rfl rfl (.inl rfl) rfl (L 0 rfl rfl) (L 1 rfl rfl) ti38 (by simp [topV]) rfl rfl (nr rfl) (by have q0 := f50.one; simp only [List.all_cons, List.all_nil, q0]; rfl) rfl nd (fun V56 le57 ow58 => ?_)
 refine U.done (nr rfl) ?_
 refine WP.usreg rfl ?_
 refine U.p (v := .pointer (some ⟨b51, 3, none⟩)) rfl rfl (.inl rfl) (S.fieldAddr rfl (L 0 rfl rfl) Try.underlying38 rfl ti36 rfl rfl) ?_
 refine U.k rfl rfl (.inl rfl) (S.load rfl (L 0 rfl rfl) Try.underlying36 rfl ((ow58.own (k := 0) rfl).cell rfl)) nd ?_
 refine U.p rfl rfl (.inl rfl) (f50.1.len rfl (L 0 rfl rfl) Try.underlying36) ?_
 refine U.p rfl rfl (.inl rfl) (S.eqlI rfl (L 0 rfl rfl) K) ?_
 refine U.p rfl rfl (.inl rfl) (S.move rfl (L 0 rfl rfl)) ?_
 obtain ⟨y59, hy60, h61⟩ := bindS h43
 refine U.joinX 12 (fun e H => ∃ (u62 u63 u64 u65 u66 u67 : Value), H = V56.H ∧ e = [(24, .bool y59), (23, u62), (22, u63), (21, u64), (20, u65), (19, u66), (18, u67)]) ?_ ?_
 ·rintro _ _ ⟨u62, u63, u64, u65, u66, u67, rfl, rfl⟩
  refine U.p rfl rfl (.inl rfl) (S.move rfl (L 0 rfl rfl)) ?_
  obtain ⟨y71, hy72, h73⟩ := bindS h61
  refine U.joinX 20 (fun e H => ∃ (u74 u75 u76 u77 u78 u79 : Value), H = V56.H ∧ e = [(32, .bool y71), (31, u74), (30, u75), (29, u76), (28, u77), (27, u78), (26, u79)]) ?_ ?_
  ·rintro _ _ ⟨u74, u75, u76, u77, u78, u79, rfl, rfl⟩
   refine U.p rfl rfl (.inl rfl) (S.assign rfl (L 0 rfl rfl)) ?_
   refine U.done (nr rfl) ?_
   refine WP.ret ?_
   refine fin.slot (.inr rfl) rfl (L 0 rfl rfl) ⟨V56, rfl, ((((((((le6.trans le16).trans le24).trans le29).trans le33).trans le36).trans le46).trans le53).trans le57), ?_⟩
   have ow83 := ow58.drop 0 rfl
   have ow84 := ow83.drop 0 rfl
   have e85 := Option.some.inj h73
   subst e85
   exact ⟨rfl, ow84⟩
  ·intro kk
   refine bcase (b := y59) (fun g86 => ?_) (fun g86 => ?_)
   ·have h87 := ifT g86 hy72
    refine U.p (v := .pointer (some ⟨b51, 3, none⟩)) rfl rfl (.inr ⟨_, _, _, rfl, rfl, ((L 0 rfl rfl).trans (cB g86))⟩) (S.fieldAddr rfl (L 13 rfl rfl) Try.underlying38 rfl ti36 rfl rfl) ?_
    refine U.k rfl rfl (.inr ⟨_, _, _, rfl, rfl, ((L 1 rfl rfl).trans (cB g86))⟩) (S.load rfl (L 0 rfl rfl) Try.underlying36 rfl ((ow58.own (k := 0) rfl).cell rfl)) nd ?_
    obtain ⟨x88, hx89, h90⟩ := bindS h87
    obtain ⟨b91, o92, c93, cs94, hv95, hf96, hr97, hc98⟩ := f50.at hx89
    obtain ⟨v99, rfl, f100⟩ := hr97
    refine U.p rfl rfl (.inr ⟨_, _, _, rfl, rfl, ((L 2 rfl rfl).trans (cB g86))⟩) (S.index rfl ((L 0 rfl rfl).trans hv95) K Try.underlying36 ti44 (ix_ge hx89) (ix_lt hx89)) ?_
    refine U.p (v := .pointer (some ⟨b91, o92 + Int.toNat 0 * 9 + 4, none⟩)) rfl rfl (.inr ⟨_, _, _, rfl, rfl, ((L 3 rfl rfl).trans (cB g86))⟩) (S.fieldAddr rfl (L 0 rfl rfl) Try.underlying44 rfl ti3 rfl rfl) ?_
    refine U.k rfl rfl (.inr ⟨_, _, _, rfl, rfl, ((L 4 rfl rfl).trans (cB g86))⟩) (S.load rfl (L 0 rfl rfl) Try.underlying3 rfl ((le53.trans le57).cell hf96 (hc98 4 _ rfl))) nd ?_
    refine U.p rfl rfl (.inr ⟨_, _, _, rfl, rfl, ((L 5 rfl rfl).trans (cB g86))⟩) (S.eqlI rfl (L 0 rfl rfl) K) ?_
    refine U.p rfl rfl (.inl rfl) (S.pickT rfl ((L 6 rfl rfl).trans (cB g86)) (L 0 rfl rfl)) ?_
    have e101 := Option.some.inj h90
    subst e101
    exact kk [(32, .bool (decide (x88.imm = 5))), (31, .bool (decide (x88.imm = 5))), (30, .int .i64 x88.imm), (29, .pointer (some ⟨b91, o92 + Int.toNat 0 * 9 + 4, none⟩)), (28, .pointer (some ⟨b91, o92 + Int.toNat 0 * 9, none⟩)), (27, v49), (26, .pointer (some ⟨b51, 3, none⟩))] _ ⟨.bool (decide (x88.imm = 5)), .int .i64 x88.imm, .pointer (some ⟨b91, o92 + Int.toNat 0 * 9 + 4, none⟩), .pointer (some ⟨b91, o92 + Int.toNat 0 * 9, none⟩), v49, .pointer (some ⟨b51, 3, none⟩), rfl, rfl⟩
   ·have h102 := ifF g86 hy72
    refine U.x rfl rfl rfl rfl ((L 0 rfl rfl).trans (cB g86)) (by decide) ?_
    refine U.x rfl rfl rfl rfl ((L 1 rfl rfl).trans (cB g86)) (by decide) ?_
    refine U.x rfl rfl rfl rfl ((L 2 rfl rfl).trans (cB g86)) (by decide) ?_
    refine U.x rfl rfl rfl rfl ((L 3 rfl rfl).trans (cB g86)) (by decide) ?_
    refine U.x rfl rfl rfl rfl ((L 4 rfl rfl).trans (cB g86)) (by decide) ?_
    refine U.x rfl rfl rfl rfl ((L 5 rfl rfl).trans (cB g86)) (by decide) ?_
    refine U.p rfl rfl (.inl rfl) (S.pickF rfl ((L 6 rfl rfl).trans (cB g86)) K) ?_
    have e103 := Option.some.inj h102
    subst e103
    exact kk [(32, .bool false), (31, .tuple #[]), (30, .tuple #[]), (29, .tuple #[]), (28, .tuple #[]), (27, .tuple #[]), (26, .tuple #[])] _ ⟨.tuple #[], .tuple #[], .tuple #[], .tuple #[], .tuple #[], .tuple #[], rfl, rfl⟩
 ·intro kk
  refine bcase (b := decide ((x41.code.length : Int) = 3)) (fun g104 => ?_) (fun g104 => ?_)
  ·have h105 := ifT g104 hy60
   refine U.p (v := .pointer (some ⟨b51, 3, none⟩)) rfl rfl (.inr ⟨_, _, _, rfl, rfl, ((L 0 rfl rfl).trans (cB g104))⟩) (S.fieldAddr rfl (L 5 rfl rfl) Try.underlying38 rfl ti36 rfl rfl) ?_
   refine U.k rfl rfl (.inr ⟨_, _, _, rfl, rfl, ((L 1 rfl rfl).trans (cB g104))⟩) (S.load rfl (L 0 rfl rfl) Try.underlying36 rfl ((ow58.own (k := 0) rfl).cell rfl)) nd ?_
   obtain ⟨x106, hx107, h108⟩ := bindS h105
   obtain ⟨b109, o110, c111, cs112, hv113, hf114, hr115, hc116⟩ := f50.at hx107
   obtain ⟨v117, rfl, f118⟩ := hr115
   refine U.p rfl rfl (.inr ⟨_, _, _, rfl, rfl, ((L 2 rfl rfl).trans (cB g104))⟩) (S.index rfl ((L 0 rfl rfl).trans hv113) K Try.underlying36 ti44 (ix_ge hx107) (ix_lt hx107)) ?_
   refine U.p (v := .pointer (some ⟨b109, o110 + Int.toNat 0 * 9, none⟩)) rfl rfl (.inr ⟨_, _, _, rfl, rfl, ((L 3 rfl rfl).trans (cB g104))⟩) (S.fieldAddr rfl (L 0 rfl rfl) Try.underlying44 rfl ti3 rfl rfl) ?_
   refine U.k rfl rfl (.inr ⟨_, _, _, rfl, rfl, ((L 4 rfl rfl).trans (cB g104))⟩) (S.load rfl (L 0 rfl rfl) Try.underlying3 rfl ((le53.trans le57).cell hf114 (hc116 0 _ rfl))) nd ?_
   refine U.p rfl rfl (.inr ⟨_, _, _, rfl, rfl, ((L 5 rfl rfl).trans (cB g104))⟩) (S.eqlI rfl (L 0 rfl rfl) K) ?_
   refine U.p rfl rfl (.inl rfl) (S.pickT rfl ((L 6 rfl rfl).trans (cB g104)) (L 0 rfl rfl)) ?_
   have e119 := Option.some.inj h108
   subst e119
   exact kk [(24, .bool (decide (x106.op = 1))), (23, .bool (decide (x106.op = 1))), (22, .int .i64 x106.op), (21, .pointer (some ⟨b109, o110 + Int.toNat 0 * 9, none⟩)), (20, .pointer (some ⟨b109, o110 + Int.toNat 0 * 9, none⟩)), (19, v49), (18, .pointer (some ⟨b51, 3, none⟩))] _ ⟨.bool (decide (x106.op = 1)), .int .i64 x106.op, .pointer (some ⟨b109, o110 + Int.toNat 0 * 9, none⟩), .pointer (some ⟨b109, o110 + Int.toNat 0 * 9, none⟩), v49, .pointer (some ⟨b51, 3, none⟩), rfl, rfl⟩
  ·have h120 := ifF g104 hy60
   refine U.x rfl rfl rfl rfl ((L 0 rfl rfl).trans (cB g104)) (by decide) ?_
   refine U.x rfl rfl rfl rfl ((L 1 rfl rfl).trans (cB g104)) (by decide) ?_
   refine U.x rfl rfl rfl rfl ((L 2 rfl rfl).trans (cB g104)) (by decide) ?_
   refine U.x rfl rfl rfl rfl ((L 3 rfl rfl).trans (cB g104)) (by decide) ?_
   refine U.x rfl rfl rfl rfl ((L 4 rfl rfl).trans (cB g104)) (by decide) ?_
   refine U.x rfl rfl rfl rfl ((L 5 rfl rfl).trans (cB g104)) (by decide) ?_
   refine U.p rfl rfl (.inl rfl) (S.pickF rfl ((L 6 rfl rfl).trans (cB g104)) K) ?_
   have e121 := Option.some.inj h120
   subst e121
   exact kk [(24, .bool false), (23, .tuple #[]), (22, .tuple #[]), (21, .tuple #[]), (20, .tuple #[]), (19, .tuple #[]), (18, .tuple #[])] _ ⟨.tuple #[], .tuple #[], .tuple #[], .tuple #[], .tuple #[], .tuple #[], rfl, rfl⟩
theorem wk_ref08_has (V : Vw) (Rs : List At) (p0 : Int) (ow : Ow V (Rs)) (r : Bool × Bool × Bool × Bool) (h : ref08_has p0 = some r) : ∃ v V', Cl Try.prog 0 33 #[.int .i64 p0] V.H v V'.H ∧ V.le V' ∧ (v = .tuple #[.bool r.1, .bool r.2.1, .bool r.2.2.1, .bool r.2.2.2] ∧ Ow V' (Rs)) := by
 refine Ct.of (Nat.zero_le _) Try.func33 rfl (nr rfl) ?_
 unfold ref08_has at h
 refine WP.usreg rfl ?_
 refine U.p rfl rfl (.inl rfl) (S.assign rfl K) ?_
 refine U.p rfl rfl (.inl rfl) (S.assign rfl K) ?_
 refine U.p rfl rfl (.inl rfl) (S.assign rfl K) ?_
 refine U.p rfl rfl (.inl rfl) (S.assign rfl K) ?_
 refine U.done (nr rfl) ?_
 refine WP.seq ?_
 refine WP.usreg rfl ?_
 refine U.p rfl rfl (.inl rfl) (S.move rfl (L 4 rfl rfl)) ?_
 refine U.done (nr rfl) ?_
 refine WP.blk ?_
 refine WP.seqI (fun l V' => ∃ (x1 : Bool), l = [(6, .int .i64 p0), (7, .bool x1)] ∧ V.le V' ∧ Ow V' (Rs) ∧ ref08_has_k1 p0 x1 = some r) ?_ ?_
 ·rintro _ V2 ⟨x1, rfl, le3, ow4, h5⟩
  unfold ref08_has_k1 at h5
  refine WP.cond _ (L 1 rfl rfl) rfl (fun c6 => ?_) (fun c6 => ?_)
  ·have h7 := ifT c6 h5
   refine WP.usreg rfl ?_
   refine U.p rfl rfl (.inl rfl) (S.assign rfl K) ?_
   refine U.p rfl rfl (.inl rfl) (S.assign rfl K) ?_
   refine U.p rfl rfl (.inl rfl) (S.assign rfl K) ?_
   refine U.p rfl rfl (.inl rfl) (S.assign rfl K) ?_
   refine U.done (nr rfl) ?_
   refine WP.ret ?_
   refine blkR (sqR ?_)
   refine fin.slots' (.inr rfl) (fsC (L 3 rfl rfl) (fsC (L 2 rfl rfl) (fsC (L 1 rfl rfl) (fsC (L 0 rfl rfl) fsN)))) rfl ⟨V2, rfl, le3, ?_⟩
   have e8 := Option.some.inj h7
   subst e8
   exact ⟨rfl, ow4⟩
  ·have h9 := ifF c6 h5
   refine WP.seqI (fun l V' => ∃ (x10 : Bool), l = [(6, .int .i64 p0), (10, .bool x10)] ∧ V2.le V' ∧ Ow V' (Rs) ∧ ref08_has_k2 p0 x10 = some r) ?_ ?_
   ·rintro _ V11 ⟨x10, rfl, le12, ow13, h14⟩
    unfold ref08_has_k2 at h14
    refine WP.cond _ (L 1 rfl rfl) rfl (fun c15 => ?_) (fun c15 => ?_)
    ·have h16 := ifT c15 h14
     refine WP.usreg rfl ?_
     refine U.p rfl rfl (.inl rfl) (S.assign rfl K) ?_
     refine U.p rfl rfl (.inl rfl) (S.assign rfl K) ?_
     refine U.p rfl rfl (.inl rfl) (S.assign rfl K) ?_
     refine U.p rfl rfl (.inl rfl) (S.assign rfl K) ?_
     refine U.done (nr rfl) ?_
     refine WP.ret ?_
     refine blkR (sqR ?_)
     refine fin.slots' (.inr rfl) (fsC (L 3 rfl rfl) (fsC (L 2 rfl rfl) (fsC (L 1 rfl rfl) (fsC (L 0 rfl rfl) fsN)))) rfl ⟨V11, rfl, (le3.trans le12), ?_⟩
     have e17 := Option.some.inj h16
     subst e17
     exact ⟨rfl, ow13⟩
    ·have h18 := ifF c15 h14
     refine WP.seqI (fun l V' => ∃ (x19 : Bool), l = [(6, .int .i64 p0), (13, .bool x19)] ∧ V11.le V' ∧ Ow V' (Rs) ∧ ref08_has_k3 p0 x19 = some r) ?_ ?_
     ·rintro _ V20 ⟨x19, rfl, le21, ow22, h23⟩
      unfold ref08_has_k3 at h23
      refine WP.cond _ (L 1 rfl rfl) rfl (fun c24 => ?_) (fun c24 => ?_)
      ·have h25 := ifT c24 h23
       refine WP.usreg rfl ?_
       refine U.p rfl rfl (.inl rfl) (S.assign rfl K) ?_
       refine U.p rfl rfl (.inl rfl) (S.assign rfl K) ?_
       refine U.p rfl rfl (.inl rfl) (S.assign rfl K) ?_
       refine U.p rfl rfl (.inl rfl) (S.assign rfl K) ?_
       refine U.done (nr rfl) ?_
       refine WP.ret ?_
       refine blkR (sqR ?_)
       refine fin.slots' (.inr rfl) (fsC (L 3 rfl rfl) (fsC (L 2 rfl rfl) (fsC (L 1 rfl rfl) (fsC (L 0 rfl rfl) fsN)))) rfl ⟨V20, rfl, ((le3.trans le12).trans le21), ?_⟩
       have e26 := Option.some.inj h25
       subst e26
       exact ⟨rfl, ow22⟩
      ·have h27 := ifF c24 h23
       refine WP.usreg rfl ?_
       refine U.p rfl rfl (.inl rfl) (S.eqlI rfl (L 0 rfl rfl) K) ?_
       refine U.p rfl rfl (.inl rfl) (S.assign rfl (L 0 rfl rfl)) ?_
       refine U.done (nr rfl) ?_
       refine WP.cond _ (L 0 rfl rfl) rfl (fun c28 => ?_) (fun c28 => ?_)
       ·have h29 := ifT c28 h27
        refine WP.usreg rfl ?_
        refine U.p rfl rfl (.inl rfl) (S.assign rfl K) ?_
        refine U.p rfl rfl (.inl rfl) (S.assign rfl K) ?_
        refine U.p rfl rfl (.inl rfl) (S.assign rfl K) ?_
        refine U.p rfl rfl (.inl rfl) (S.assign rfl K) ?_
        refine U.done (nr rfl) ?_
        refine WP.ret ?_
        refine blkR (sqR ?_)
        refine fin.slots' (.inr rfl) (fsC (L 3 rfl rfl) (fsC (L 2 rfl rfl) (fsC (L 1 rfl rfl) (fsC (L 0 rfl rfl) fsN)))) rfl ⟨V20, rfl, ((le3.trans le12).trans le21), ?_⟩
        have e30 := Option.some.inj h29
        subst e30
        exact ⟨rfl, ow22⟩
       ·have h31 := ifF c28 h27
        refine WP.seqI (fun l V' => ∃ (x32 : Bool), l = [(6, .int .i64 p0), (22, .bool x32)] ∧ V20.le V' ∧ Ow V' (Rs) ∧ ref08_has_k4 p0 x32 = some r) ?_ ?_
        ·rintro _ V33 ⟨x32, rfl, le34, ow35, h36⟩
         unfold ref08_has_k4 at h36
         refine WP.cond _ (L 1 rfl rfl) rfl (fun c37 => ?_) (fun c37 => ?_)
         ·have h38 := ifT c37 h36
          refine WP.usreg rfl ?_
          refine U.p rfl rfl (.inl rfl) (S.assign rfl K) ?_
          refine U.p rfl rfl (.inl rfl) (S.assign rfl K) ?_
          refine U.p rfl rfl (.inl rfl) (S.assign rfl K) ?_
          refine U.p rfl rfl (.inl rfl) (S.assign rfl K) ?_
          refine U.done (nr rfl) ?_
          refine WP.ret ?_
          refine blkR (sqR ?_)
          refine fin.slots' (.inr rfl) (fsC (L 3 rfl rfl) (fsC (L 2 rfl rfl) (fsC (L 1 rfl rfl) (fsC (L 0 rfl rfl) fsN)))) rfl ⟨V33, rfl, (((le3.trans le12).trans le21).trans le34), ?_⟩
          have e39 := Option.some.inj h38
          subst e39
          exact ⟨rfl, ow35⟩
         ·have h40 := ifF c37 h36
          refine WP.usreg rfl ?_
          refine U.p rfl rfl (.inl rfl) (S.eqlI rfl (L 0 rfl rfl) K) ?_
          refine U.p rfl rfl (.inl rfl) (S.assign rfl (L 0 rfl rfl)) ?_
          refine U.done (nr rfl) ?_
          refine WP.cond _ (L 0 rfl rfl) rfl (fun c41 => ?_) (fun c41 => ?_)
          ·have h42 := ifT c41 h40
           refine WP.usreg rfl ?_
           refine U.p rfl rfl (.inl rfl) (S.assign rfl K) ?_
           refine U.p rfl rfl (.inl rfl) (S.assign rfl K) ?_
           refine U.p rfl rfl (.inl rfl) (S.assign rfl K) ?_
           refine U.p rfl rfl (.inl rfl) (S.assign rfl K) ?_
           refine U.done (nr rfl) ?_
           refine WP.ret ?_
           refine blkR (sqR ?_)
           refine fin.slots' (.inr rfl) (fsC (L 3 rfl rfl) (fsC (L 2 rfl rfl) (fsC (L 1 rfl rfl) (fsC (L 0 rfl rfl) fsN)))) rfl ⟨V33, rfl, (((le3.trans le12).trans le21).trans le34), ?_⟩
           have e43 := Option.some.inj h42
           subst e43
           exact ⟨rfl, ow35⟩
          ·have h44 := ifF c41 h40
           refine WP.usreg rfl ?_
           refine U.p rfl rfl (.inl rfl) (S.eqlI rfl (L 2 rfl rfl) K) ?_
           refine U.p rfl rfl (.inl rfl) (S.assign rfl (L 0 rfl rfl)) ?_
           refine U.done (nr rfl) ?_
           refine WP.cond _ (L 0 rfl rfl) rfl (fun c45 => ?_) (fun c45 => ?_)
           ·have h46 := ifT c45 h44
            refine WP.usreg rfl ?_
            refine U.p rfl rfl (.inl rfl) (S.assign rfl K) ?_
            refine U.p rfl rfl (.inl rfl) (S.assign rfl K) ?_
            refine U.p rfl rfl (.inl rfl) (S.assign rfl K) ?_
            refine U.p rfl rfl (.inl rfl) (S.assign rfl K) ?_
            refine U.done (nr rfl) ?_
            refine WP.ret ?_
            refine blkR (sqR ?_)
            refine fin.slots' (.inr rfl) (fsC (L 3 rfl rfl) (fsC (L 2 rfl rfl) (fsC (L 1 rfl rfl) (fsC (L 0 rfl rfl) fsN)))) rfl ⟨V33, rfl, (((le3.trans le12).trans le21).trans le34), ?_⟩
            have e47 := Option.some.inj h46
            subst e47
            exact ⟨rfl, ow35⟩
           ·have h48 := ifF c45 h44
            refine WP.seqI (fun l V' => ∃ (x49 : Bool), l = [(29, .bool x49)] ∧ V33.le V' ∧ Ow V' (Rs) ∧ ref08_has_k5 x49 = some r) ?_ ?_
            ·rintro _ V50 ⟨x49, rfl, le51, ow52, h53⟩
             unfold ref08_has_k5 at h53
             refine WP.cond _ (L 0 rfl rfl) rfl (fun c54 => ?_) (fun c54 => ?_)
             ·have h55 := ifT c54 h53
              refine WP.usreg rfl ?_
              refine U.p rfl rfl (.inl rfl) (S.assign rfl K) ?_
              refine U.p rfl rfl (.inl rfl) (S.assign rfl K) ?_
              refine U.p rfl rfl (.inl rfl) (S.assign rfl K) ?_
              refine U.p rfl rfl (.inl rfl) (S.assign rfl K) ?_
              refine U.done (nr rfl) ?_
              refine WP.ret ?_
              refine blkR (sqR ?_)
              refine fin.slots' (.inr rfl) (fsC (L 3 rfl rfl) (fsC (L 2 rfl rfl) (fsC (L 1 rfl rfl) (fsC (L 0 rfl rfl) fsN)))) rfl ⟨V50, rfl, ((((le3.trans le12).trans le21).trans le34).trans le51), ?_⟩
              have e56 := Option.some.inj h55
              subst e56
              exact ⟨rfl, ow52⟩
             ·have h57 := ifF c54 h53
              refine WP.skip ?_
              refine blkN (sqN ?_)
              refine WP.usreg rfl ?_
              refine U.p rfl rfl (.inl rfl) (S.assign rfl K) ?_
              refine U.p rfl rfl (.inl rfl) (S.assign rfl K) ?_
              refine U.p rfl rfl (.inl rfl) (S.assign rfl K) ?_
              refine U.p rfl rfl (.inl rfl) (S.assign rfl K) ?_
              refine U.done (nr rfl) ?_
              refine WP.ret ?_
              refine fin.slots' (.inr rfl) (fsC (L 3 rfl rfl) (fsC (L 2 rfl rfl) (fsC (L 1 rfl rfl) (fsC (L 0 rfl rfl) fsN)))) rfl ⟨V50, rfl, ((((le3.trans le12).trans le21).trans le34).trans le51), ?_⟩
              have e58 := Option.some.inj h57
              subst e58
              exact ⟨rfl, ow52⟩
            ·skip
             refine WP.usreg rfl ?_
             refine U.p rfl rfl (.inl rfl) (S.eqlI rfl (L 4 rfl rfl) K) ?_
             refine U.p rfl rfl (.inl rfl) (S.assign rfl (L 0 rfl rfl)) ?_
             refine U.done (nr rfl) ?_
             refine WP.cond _ (L 0 rfl rfl) rfl (fun c59 => ?_) (fun c59 => ?_)
             ·have h60 := ifT c59 h48
              refine WP.skip ?_
              refine sqN ?_
              exact ⟨_, V33, rfl, ⟨true, rfl, (.refl _), ow35, h60⟩, (allCons ((L 0 rfl rfl).trans (cB c59)) allNil)⟩
             ·have h61 := ifF c59 h48
              refine WP.usreg rfl ?_
              refine U.p rfl rfl (.inl rfl) (S.eqlI rfl (L 6 rfl rfl) K) ?_
              refine U.p rfl rfl (.inl rfl) (S.assign rfl (L 0 rfl rfl)) ?_
              refine U.done (nr rfl) ?_
              refine WP.cond _ (L 0 rfl rfl) rfl (fun c62 => ?_) (fun c62 => ?_)
              ·have h63 := ifT c62 h61
               refine WP.skip ?_
               refine sqN ?_
               exact ⟨_, V33, rfl, ⟨true, rfl, (.refl _), ow35, h63⟩, (allCons ((L 0 rfl rfl).trans (cB c62)) allNil)⟩
              ·have h64 := ifF c62 h61
               refine WP.usreg rfl ?_
               refine U.p rfl rfl (.inl rfl) (S.eqlI rfl (L 8 rfl rfl) K) ?_
               refine U.p rfl rfl (.inl rfl) (S.assign rfl (L 0 rfl rfl)) ?_
               refine U.done (nr rfl) ?_
               refine WP.cond _ (L 0 rfl rfl) rfl (fun c65 => ?_) (fun c65 => ?_)
               ·have h66 := ifT c65 h64
                refine WP.skip ?_
                refine sqN ?_
                exact ⟨_, V33, rfl, ⟨true, rfl, (.refl _), ow35, h66⟩, (allCons ((L 0 rfl rfl).trans (cB c65)) allNil)⟩
               ·have h67 := ifF c65 h64
                refine WP.ureg rfl ?_
                refine U.p rfl rfl (.inl rfl) (S.eqlI rfl (L 10 rfl rfl) K) ?_
                refine U.p rfl rfl (.inl rfl) (S.assign rfl (L 0 rfl rfl)) ?_
                refine U.done (nr rfl) ?_
                refine sqN ?_
                exact ⟨_, V33, rfl, ⟨decide (p0 = 20), rfl, (.refl _), ow35, h67⟩, (allCons (L 0 rfl rfl) allNil)⟩
        ·skip
         refine WP.usreg rfl ?_
         refine U.p rfl rfl (.inl rfl) (S.eqlI rfl (L 2 rfl rfl) K) ?_
         refine U.p rfl rfl (.inl rfl) (S.assign rfl (L 0 rfl rfl)) ?_
         refine U.done (nr rfl) ?_
         refine WP.cond _ (L 0 rfl rfl) rfl (fun c68 => ?_) (fun c68 => ?_)
         ·have h69 := ifT c68 h31
          refine WP.skip ?_
          refine sqN ?_
          exact ⟨_, V20, rfl, ⟨true, rfl, (.refl _), ow22, h69⟩, (allCons (L 4 rfl rfl) (allCons ((L 0 rfl rfl).trans (cB c68)) allNil))⟩
         ·have h70 := ifF c68 h31
          refine WP.ureg rfl ?_
          refine U.p rfl rfl (.inl rfl) (S.eqlI rfl (L 4 rfl rfl) K) ?_
          refine U.p rfl rfl (.inl rfl) (S.assign rfl (L 0 rfl rfl)) ?_
          refine U.done (nr rfl) ?_
          refine sqN ?_
          exact ⟨_, V20, rfl, ⟨decide (p0 = 12), rfl, (.refl _), ow22, h70⟩, (allCons (L 6 rfl rfl) (allCons (L 0 rfl rfl) allNil))⟩
     ·skip
      refine WP.usreg rfl ?_
      refine U.p rfl rfl (.inl rfl) (S.eqlI rfl (L 0 rfl rfl) K) ?_
      refine U.p rfl rfl (.inl rfl) (S.assign rfl (L 0 rfl rfl)) ?_
      refine U.done (nr rfl) ?_
      refine WP.cond _ (L 0 rfl rfl) rfl (fun c71 => ?_) (fun c71 => ?_)
      ·have h72 := ifT c71 h18
       refine WP.skip ?_
       refine sqN ?_
       exact ⟨_, V11, rfl, ⟨true, rfl, (.refl _), ow13, h72⟩, (allCons (L 2 rfl rfl) (allCons ((L 0 rfl rfl).trans (cB c71)) allNil))⟩
      ·have h73 := ifF c71 h18
       refine WP.usreg rfl ?_
       refine U.p rfl rfl (.inl rfl) (S.eqlI rfl (L 2 rfl rfl) K) ?_
       refine U.p rfl rfl (.inl rfl) (S.assign rfl (L 0 rfl rfl)) ?_
       refine U.done (nr rfl) ?_
       refine WP.cond _ (L 0 rfl rfl) rfl (fun c74 => ?_) (fun c74 => ?_)
       ·have h75 := ifT c74 h73
        refine WP.skip ?_
        refine sqN ?_
        exact ⟨_, V11, rfl, ⟨true, rfl, (.refl _), ow13, h75⟩, (allCons (L 4 rfl rfl) (allCons ((L 0 rfl rfl).trans (cB c74)) allNil))⟩
       ·have h76 := ifF c74 h73
        refine WP.usreg rfl ?_
        refine U.p rfl rfl (.inl rfl) (S.eqlI rfl (L 4 rfl rfl) K) ?_
        refine U.p rfl rfl (.inl rfl) (S.assign rfl (L 0 rfl rfl)) ?_
        refine U.done (nr rfl) ?_
        refine WP.cond _ (L 0 rfl rfl) rfl (fun c77 => ?_) (fun c77 => ?_)
        ·have h78 := ifT c77 h76
         refine WP.skip ?_
         refine sqN ?_
         exact ⟨_, V11, rfl, ⟨true, rfl, (.refl _), ow13, h78⟩, (allCons (L 6 rfl rfl) (allCons ((L 0 rfl rfl).trans (cB c77)) allNil))⟩
        ·have h79 := ifF c77 h76
         refine WP.usreg rfl ?_
         refine U.p rfl rfl (.inl rfl) (S.eqlI rfl (L 6 rfl rfl) K) ?_
         refine U.p rfl rfl (.inl rfl) (S.assign rfl (L 0 rfl rfl)) ?_
         refine U.done (nr rfl) ?_
         refine WP.cond _ (L 0 rfl rfl) rfl (fun c80 => ?_) (fun c80 => ?_)
         ·have h81 := ifT c80 h79
          refine WP.skip ?_
          refine sqN ?_
          exact ⟨_, V11, rfl, ⟨true, rfl, (.refl _), ow13, h81⟩, (allCons (L 8 rfl rfl) (allCons ((L 0 rfl rfl).trans (cB c80)) allNil))⟩
         ·have h82 := ifF c80 h79
          refine WP.usreg rfl ?_
          refine U.p rfl rfl (.inl rfl) (S.eqlI rfl (L 8 rfl rfl) K) ?_
          refine U.p rfl rfl (.inl rfl) (S.assign rfl (L 0 rfl rfl)) ?_
          refine U.done (nr rfl) ?_
          refine WP.cond _ (L 0 rfl rfl) rfl (fun c83 => ?_) (fun c83 => ?_)
          ·have h84 := ifT c83 h82
           refine WP.skip ?_
           refine sqN ?_
           exact ⟨_, V11, rfl, ⟨true, rfl, (.refl _), ow13, h84⟩, (allCons (L 10 rfl rfl) (allCons ((L 0 rfl rfl).trans (cB c83)) allNil))⟩
          ·have h85 := ifF c83 h82
           refine WP.ureg rfl ?_
           refine U.p rfl rfl (.inl rfl) (S.eqlI rfl (L 10 rfl rfl) K) ?_
           refine U.p rfl rfl (.inl rfl) (S.assign rfl (L 0 rfl rfl)) ?_
           refine U.done (nr rfl) ?_
           refine sqN ?_
           exact ⟨_, V11, rfl, ⟨decide (p0 = 8), rfl, (.refl _), ow13, h85⟩, (allCons (L 12 rfl rfl) (allCons (L 0 rfl rfl) allNil))⟩
   ·skip
    refine WP.usreg rfl ?_
    refine U.p rfl rfl (.inl rfl) (S.eqlI rfl (L 0 rfl rfl) K) ?_
    refine U.p rfl rfl (.inl rfl) (S.assign rfl (L 0 rfl rfl)) ?_
    refine U.done (nr rfl) ?_
    refine WP.cond _ (L 0 rfl rfl) rfl (fun c86 => ?_) (fun c86 => ?_)
    ·have h87 := ifT c86 h9
     refine WP.skip ?_
     refine sqN ?_
     exact ⟨_, V2, rfl, ⟨true, rfl, (.refl _), ow4, h87⟩, (allCons (L 2 rfl rfl) (allCons ((L 0 rfl rfl).trans (cB c86)) allNil))⟩
    ·have h88 := ifF c86 h9
     refine WP.ureg rfl ?_
     refine U.p rfl rfl (.inl rfl) (S.eqlI rfl (L 2 rfl rfl) K) ?_
     refine U.p rfl rfl (.inl rfl) (S.assign rfl (L 0 rfl rfl)) ?_
     refine U.done (nr rfl) ?_
     refine sqN ?_
     exact ⟨_, V2, rfl, ⟨decide (p0 = 9), rfl, (.refl _), ow4, h88⟩, (allCons (L 4 rfl rfl) (allCons (L 0 rfl rfl) allNil))⟩
 ·skip
  refine WP.usreg rfl ?_
  refine U.p rfl rfl (.inl rfl) (S.eqlI rfl (L 0 rfl rfl) K) ?_
  refine U.p rfl rfl (.inl rfl) (S.assign rfl (L 0 rfl rfl)) ?_
  refine U.done (nr rfl) ?_
  refine WP.cond _ (L 0 rfl rfl) rfl (fun c89 => ?_) (fun c89 => ?_)
  ·have h90 := ifT c89 h
   refine WP.skip ?_
   refine sqN ?_
   exact ⟨_, V, rfl, ⟨true, rfl, (.refl _), ow, h90⟩, (allCons (L 2 rfl rfl) (allCons ((L 0 rfl rfl).trans (cB c89)) allNil))⟩
  ·have h91 := ifF c89 h
   refine WP.ureg rfl ?_
   refine U.p rfl rfl (.inl rfl) (S.eqlI rfl (L 2 rfl rfl) K) ?_
   refine U.p rfl rfl (.inl rfl) (S.assign rfl (L 0 rfl rfl)) ?_
   refine U.done (nr rfl) ?_
   refine sqN ?_
   exact ⟨_, V, rfl, ⟨decide (p0 = 14), rfl, (.refl _), ow, h91⟩, (allCons (L 4 rfl rfl) (allCons (L 0 rfl rfl) allNil))⟩
theorem wk_ref08_register (V : Vw) (Rs : List At) (p0 : Bool) (p1 : Bool) (p2 : Int) (p3 : Int) (ow : Ow V (Rs)) (r : Bool) (h : ref08_register p0 p1 p2 p3 = some r) : ∃ v V', Cl Try.prog 0 34 #[.bool p0, .bool p1, .int .i64 p2, .int .i64 p3] V.H v V'.H ∧ V.le V' ∧ (v = .bool r ∧ Ow V' (Rs)) := by
 refine Ct.of (Nat.zero_le _) Try.func34 rfl (nr rfl) ?_
 unfold ref08_register at h
 refine WP.usreg rfl ?_
 refine U.p rfl rfl (.inl rfl) (S.assign rfl K) ?_
 refine U.done (nr rfl) ?_
 refine WP.seq ?_
 refine WP.usreg rfl ?_
 refine U.p rfl rfl (.inl rfl) (S.move rfl (L 1 rfl rfl)) ?_
 refine U.p rfl rfl (.inl rfl) (S.not rfl (L 0 rfl rfl)) ?_
 refine U.done (nr rfl) ?_
 refine WP.cond _ (L 0 rfl rfl) rfl (fun c1 => ?_) (fun c1 => ?_)
 ·have h2 := ifT c1 h
  have k3 : p0 = false := nT c1
  refine WP.usreg rfl ?_
  refine U.p rfl rfl (.inl rfl) (S.move rfl (L 5 rfl rfl)) ?_
  refine U.p rfl rfl (.inl rfl) (S.eqlI rfl (L 0 rfl rfl) K) ?_
  refine U.p rfl rfl (.inl rfl) (S.assign rfl (L 0 rfl rfl)) ?_
  refine U.done (nr rfl) ?_
  refine WP.ret ?_
  refine sqR ?_
  refine fin.slot (.inr rfl) rfl (L 0 rfl rfl) ⟨V, rfl, (.refl _), ?_⟩
  have e4 := Option.some.inj h2
  subst e4
  exact ⟨rfl, ow⟩
 ·have h5 := ifF c1 h
  have k6 : p0 = true := nF c1
  refine WP.skip ?_
  refine sqN ?_
  refine WP.usreg rfl ?_
  refine U.p rfl rfl (.inl rfl) (S.move rfl (L 5 rfl rfl)) ?_
  refine U.p rfl rfl (.inl rfl) (S.geq rfl (L 0 rfl rfl) K) ?_
  refine U.p rfl rfl (.inl rfl) (S.move rfl (L 0 rfl rfl)) ?_
  refine U.joinX 7 (fun e H => ∃ (u7 u8 u9 : Value), H = V.H ∧ e = [(19, .bool ((decide (0 ≤ p2)) && (decide (p2 < p3)))), (18, u7), (17, u8), (16, u9)]) ?_ ?_
  ·rintro _ _ ⟨u7, u8, u9, rfl, rfl⟩
   refine U.p rfl rfl (.inl rfl) (S.move rfl (L 0 rfl rfl)) ?_
   refine U.joinX 14 (fun e H => ∃ (u13 u14 u15 u16 u17 : Value), H = V.H ∧ e = [(26, .bool (((decide (0 ≤ p2)) && (decide (p2 < p3))) || (p1 && (decide (p2 = (-1)))))), (25, u13), (24, u14), (23, u15), (22, u16), (21, u17)]) ?_ ?_
   ·rintro _ _ ⟨u13, u14, u15, u16, u17, rfl, rfl⟩
    refine U.p rfl rfl (.inl rfl) (S.assign rfl (L 0 rfl rfl)) ?_
    refine U.done (nr rfl) ?_
    refine WP.ret ?_
    refine fin.slot (.inr rfl) rfl (L 0 rfl rfl) ⟨V, rfl, (.refl _), ?_⟩
    have e21 := Option.some.inj h5
    subst e21
    exact ⟨rfl, ow⟩
   ·intro kk
    refine bcase (b := (decide (0 ≤ p2)) && (decide (p2 < p3))) (fun g22 => ?_) (fun g22 => ?_)
    ·skip
     refine U.x rfl rfl rfl rfl ((L 0 rfl rfl).trans (cB g22)) (by decide) ?_
     refine U.x rfl rfl rfl rfl ((L 1 rfl rfl).trans (cB g22)) (by decide) ?_
     refine U.z rfl rfl rfl rfl (L 0 rfl rfl) ?_
     refine U.z rfl rfl rfl rfl (L 1 rfl rfl) ?_
     refine U.x rfl rfl rfl rfl ((L 4 rfl rfl).trans (cB g22)) (by decide) ?_
     refine U.p rfl rfl (.inl rfl) (S.pickT rfl ((L 5 rfl rfl).trans (cB g22)) K) ?_
     exact kk [(26, .bool true), (25, .tuple #[]), (24, .tuple #[]), (23, .tuple #[]), (22, .tuple #[]), (21, .tuple #[])] _ ⟨.tuple #[], .tuple #[], .tuple #[], .tuple #[], .tuple #[], rfl, (by rw [g22, Bool.true_or])⟩
    ·skip
     refine U.p rfl rfl (.inr ⟨_, _, _, rfl, rfl, ((L 0 rfl rfl).trans (cB g22))⟩) (S.move rfl (L 12 rfl rfl)) ?_
     refine U.p rfl rfl (.inr ⟨_, _, _, rfl, rfl, ((L 1 rfl rfl).trans (cB g22))⟩) (S.move rfl (L 0 rfl rfl)) ?_
     refine U.joinX 13 (fun e H => ∃ (u23 u24 : Value), H = V.H ∧ e = [(25, .bool (p1 && (decide (p2 = (-1))))), (24, u23), (23, u24)]) ?_ ?_
     ·rintro _ _ ⟨u23, u24, rfl, rfl⟩
      refine U.p rfl rfl (.inl rfl) (S.pickF rfl ((L 5 rfl rfl).trans (cB g22)) (L 0 rfl rfl)) ?_
      exact kk [(26, .bool (p1 && (decide (p2 = (-1))))), (25, .bool (p1 && (decide (p2 = (-1))))), (24, u23), (23, u24), (22, .bool p1), (21, .bool p1)] _ ⟨.bool (p1 && (decide (p2 = (-1)))), u23, u24, .bool p1, .bool p1, rfl, (by rw [g22, Bool.false_or])⟩
     ·intro kk
      refine bcase (b := p1) (fun g28 => ?_) (fun g28 => ?_)
      ·skip
       refine U.p rfl rfl (.inr ⟨_, _, _, rfl, rfl, ((L 0 rfl rfl).trans (cB g28))⟩) (S.move rfl (L 15 rfl rfl)) ?_
       refine U.p rfl rfl (.inr ⟨_, _, _, rfl, rfl, ((L 1 rfl rfl).trans (cB g28))⟩) (S.eqlI rfl (L 0 rfl rfl) K) ?_
       refine U.p rfl rfl (.inr ⟨_, _, _, rfl, rfl, ((L 4 rfl rfl).trans (cB g22))⟩) (S.pickT rfl ((L 2 rfl rfl).trans (cB g28)) (L 0 rfl rfl)) ?_
       exact kk [(25, .bool (decide (p2 = (-1)))), (24, .bool (decide (p2 = (-1)))), (23, .int .i64 p2)] _ ⟨.bool (decide (p2 = (-1))), .int .i64 p2, rfl, (by rw [g28, Bool.true_and])⟩
      ·skip
       refine U.x rfl rfl rfl rfl ((L 0 rfl rfl).trans (cB g28)) (by decide) ?_
       refine U.x rfl rfl rfl rfl ((L 1 rfl rfl).trans (cB g28)) (by decide) ?_
       refine U.p rfl rfl (.inr ⟨_, _, _, rfl, rfl, ((L 4 rfl rfl).trans (cB g22))⟩) (S.pickF rfl ((L 2 rfl rfl).trans (cB g28)) K) ?_
       exact kk [(25, .bool false), (24, .tuple #[]), (23, .tuple #[])] _ ⟨.tuple #[], .tuple #[], rfl, (by rw [g28, Bool.false_and])⟩
  ·intro kk
   refine bcase (b := decide (0 ≤ p2)) (fun g29 => ?_) (fun g29 => ?_)
   ·skip
    refine U.p rfl rfl (.inr ⟨_, _, _, rfl, rfl, ((L 0 rfl rfl).trans (cB g29))⟩) (S.move rfl (L 8 rfl rfl)) ?_
    refine U.p rfl rfl (.inr ⟨_, _, _, rfl, rfl, ((L 1 rfl rfl).trans (cB g29))⟩) (S.move rfl (L 10 rfl rfl)) ?_
    refine U.p rfl rfl (.inr ⟨_, _, _, rfl, rfl, ((L 2 rfl rfl).trans (cB g29))⟩) (S.lss rfl (L 1 rfl rfl) (L 0 rfl rfl)) ?_
    refine U.p rfl rfl (.inl rfl) (S.pickT rfl ((L 3 rfl rfl).trans (cB g29)) (L 0 rfl rfl)) ?_
    exact kk [(19, .bool (decide (p2 < p3))), (18, .bool (decide (p2 < p3))), (17, .int .i64 p3), (16, .int .i64 p2)] _ ⟨.bool (decide (p2 < p3)), .int .i64 p3, .int .i64 p2, rfl, (by rw [g29, Bool.true_and])⟩
   ·skip
    refine U.x rfl rfl rfl rfl ((L 0 rfl rfl).trans (cB g29)) (by decide) ?_
    refine U.x rfl rfl rfl rfl ((L 1 rfl rfl).trans (cB g29)) (by decide) ?_
    refine U.x rfl rfl rfl rfl ((L 2 rfl rfl).trans (cB g29)) (by decide) ?_
    refine U.p rfl rfl (.inl rfl) (S.pickF rfl ((L 3 rfl rfl).trans (cB g29)) K) ?_
    exact kk [(19, .bool false), (18, .tuple #[]), (17, .tuple #[]), (16, .tuple #[])] _ ⟨.tuple #[], .tuple #[], .tuple #[], rfl, (by rw [g29, Bool.false_and])⟩
theorem wk_ref08_count (V : Vw) (Rs : List At) (p0 : TFunc) (p1 : Int) (v1 : Value) (f2 : Fz RT_TIns V v1 p0.code) (ow : Ow V (Rs)) (r : Int) (h : ref08_count p0 p1 = some r) : ∃ v V', Cl Try.prog 0 22 #[.agg #[.string p0.name, .int .i64 p0.params, .int .i64 p0.regs, v1], .int .i64 p1] V.H v V'.H ∧ V.le V' ∧ (v = .int .i64 r ∧ Ow V' (Rs)) := by
 refine Ct.of (Nat.zero_le _) Try.func22 rfl (nr rfl) ?_
 unfold ref08_count at h
 refine WP.usreg rfl ?_
 refine O.box ow rfl rfl (.inl rfl) rfl (L 0 rfl rfl) (by simp [topV]) rfl nd (fun b3 V4 le5 ow6 => ?_)
 refine U.p rfl rfl (.inl rfl) (S.assign rfl K) ?_
 refine U.done (nr rfl) ?_
 refine WP.usreg rfl ?_
 refine U.p rfl rfl (.inl rfl) (S.assign rfl K) ?_
 refine U.done (nr rfl) ?_
 refine WP.seq ?_
 refine WP.usreg rfl ?_
 refine U.p (v := .pointer (some ⟨b3, 3, none⟩)) rfl rfl (.inl rfl) (S.fieldAddr rfl (L 2 rfl rfl) Try.underlying38 rfl ti36 rfl rfl) ?_
 refine U.k rfl rfl (.inl rfl) (S.load rfl (L 0 rfl rfl) Try.underlying36 rfl ((ow6.own (k := 0) rfl).cell rfl)) nd ?_
 refine U.p rfl rfl (.inl rfl) (f2.1.len rfl (L 0 rfl rfl) Try.underlying36) ?_
 refine U.p rfl rfl (.inl rfl) (S.move rfl K) ?_
 refine U.done (nr rfl) ?_
 refine WP.blk ?_
 have ow10 := ow6.drop 0 rfl
 unfold ref08_count_l1 at h
 obtain ⟨n12, hn11⟩ := loopO_some.1 h
 refine WP.loopI2 (fun n l V' => ∃ (x8 : Int) (x9 : Int), l = [(1, .int .i64 p1), (5, .int .i64 x8), (9, v1), (10, .int .i64 (p0.code.length : Int)), (11, .int .i64 x9)] ∧ V4.le V' ∧ Ow V' (Rs) ∧ itO (fun s => ref08_count_l1b p0 p1 s.1 s.2) n (x8, x9) = some r) n12 _ ⟨0, 0, rfl, .refl _, ow10, hn11⟩ (allCons (L 8 rfl rfl) (allCons (L 4 rfl rfl) (allCons (L 2 rfl rfl) (allCons (L 1 rfl rfl) (allCons (L 0 rfl rfl) allNil))))) ?_
 rintro _ _ V13 ⟨x8, x9, rfl, le14, ow15, h19⟩
 obtain ⟨m16, q17, rfl, h20, e18⟩ := itS h19
 replace h20 : ref08_count_l1b p0 p1 x8 x9 = some q17 := h20
 unfold ref08_count_l1b at h20
 refine WP.usreg rfl ?_
 refine U.p rfl rfl (.inl rfl) (S.lss rfl (L 4 rfl rfl) (L 3 rfl rfl)) ?_
 refine U.done (nr rfl) ?_
 refine WP.seq ?_
 refine WP.cond _ (L 0 rfl rfl) rfl (fun c21 => ?_) (fun c21 => ?_)
 ·have h22 := ifT c21 h20
  refine WP.skip ?_
  refine sqN ?_
  refine WP.seqI (fun l V' => ∃ (x23 : Int), l = [(1, .int .i64 p1), (5, .int .i64 x23), (9, v1), (10, .int .i64 (p0.code.length : Int)), (11, .int .i64 x9)] ∧ V13.le V' ∧ Ow V' (Rs) ∧ ref08_count_k1 x9 x23 = some q17) ?_ ?_
  ·rintro _ V24 ⟨x23, rfl, le25, ow26, h27⟩
   unfold ref08_count_k1 at h27
   refine WP.ureg rfl ?_
   refine U.p rfl rfl (.inl rfl) (S.add rfl (L 4 rfl rfl) K) ?_
   refine U.p rfl rfl (.inl rfl) (S.move rfl (L 0 rfl rfl)) ?_
   refine U.done (nr rfl) ?_
   refine sqN ?_
   exact ⟨_, V24, rfl, ⟨m16, Nat.lt_succ_self _, x23, w64 (x9 + 1), rfl, (le14.trans le25), ow26, backS h27 e18⟩, (allCons (L 2 rfl rfl) (allCons (L 3 rfl rfl) (allCons (L 4 rfl rfl) (allCons (L 5 rfl rfl) (allCons (L 0 rfl rfl) allNil)))))⟩
  ·skip
   refine WP.blk ?_
   refine WP.usreg rfl ?_
   obtain ⟨x28, hx29, h30⟩ := bindS h22
   obtain ⟨b31, o32, c33, cs34, hv35, hf36, hr37, hc38⟩ := f2.at hx29
   obtain ⟨v39, rfl, f40⟩ := hr37
   refine U.p rfl rfl (.inl rfl) (S.index rfl ((L 3 rfl rfl).trans hv35) (L 5 rfl rfl) Try.underlying36 ti44 (ix_ge hx29) (ix_lt hx29)) ?_
   refine U.k rfl rfl (.inl rfl) (S.loadN (cs := [.int .i64 x28.op, .int .i64 x28.d, .int .i64 x28.a, .int .i64 x28.b, .int .i64 x28.imm, v39, .int .i64 x28.what, .bool x28.volatile, .bool x28.final]) rfl (L 0 rfl rfl) Try.underlying44 rfl ti44 rfl (fun j v hj => (le5.trans le14).cell hf36 (hc38 j v hj))) nd ?_
   refine O.alloc ow15 rfl rfl (.inl rfl) rfl ti44 rfl rfl nd (fun b41 V42 le43 ow44 => ?_)
   refine O.store (k := 0) (cs := [.int .i64 x28.op, .int .i64 x28.d, .int .i64 x28.a, .int .i64 x28.b, .int .i64 x28.imm, v39, .int .i64 x28.what, .bool x28.volatile, .bool x28.final]) (c' := [.int .i64 x28.op, .int .i64 x28.d, .int .i64 x28.a, .int .i64 x28.b, .int .i64 x28.imm, v39, .int .i64 x28.what, .bool x28.volatile, .bool x28.final]) ow44 rfl rfl rfl (.inl rfl) rfl (L 0 rfl rfl) (L 1 rfl rfl) ti44 (by simp [topV]) rfl rfl (nr rfl) (by have q0 := f40.one; simp only [List.all_cons, List.all_nil, q0]; rfl) rfl nd (fun V46 le47 ow48 => ?_)
   refine U.done (nr rfl) ?_
   refine WP.usreg rfl ?_
   refine U.p (v := .pointer (some ⟨b41, 0, none⟩)) rfl rfl (.inl rfl) (S.fieldAddr rfl (L 0 rfl rfl) Try.underlying44 rfl ti3 rfl rfl) ?_
   refine U.k rfl rfl (.inl rfl) (S.load rfl (L 0 rfl rfl) Try.underlying3 rfl ((ow48.own (k := 0) rfl).cell rfl)) nd ?_
   refine U.p rfl rfl (.inl rfl) (S.eqlI rfl (L 0 rfl rfl) K) ?_
   refine U.p rfl rfl (.inl rfl) (S.move rfl (L 0 rfl rfl)) ?_
   refine U.joinX 9 (fun e H => ∃ (u49 u50 u51 u52 : Value), H = V46.H ∧ e = [(23, .bool ((decide (x28.op = 11)) && (decide (x28.imm = p1)))), (22, u49), (21, u50), (20, u51), (19, u52)]) ?_ ?_
   ·rintro _ _ ⟨u49, u50, u51, u52, rfl, rfl⟩
    refine U.done (nr rfl) ?_
    refine WP.cond _ (L 0 rfl rfl) rfl (fun c56 => ?_) (fun c56 => ?_)
    ·have h57 := ifT c56 h30
     refine WP.ureg rfl ?_
     refine U.p rfl rfl (.inl rfl) (S.move rfl (L 14 rfl rfl)) ?_
     refine U.p rfl rfl (.inl rfl) (S.add rfl (L 0 rfl rfl) K) ?_
     refine U.p rfl rfl (.inl rfl) (S.assign rfl (L 0 rfl rfl)) ?_
     refine U.done (nr rfl) ?_
     refine blkN (sqN ?_)
     have ow58 := ow48.drop 0 rfl
     exact ⟨_, V46, rfl, ⟨w64 (x8 + 1), rfl, (le43.trans le47), ow58, h57⟩, (allCons (L 16 rfl rfl) (allCons (L 0 rfl rfl) (allCons (L 18 rfl rfl) (allCons (L 19 rfl rfl) (allCons (L 20 rfl rfl) allNil)))))⟩
    ·have h59 := ifF c56 h30
     refine WP.skip ?_
     refine blkN (sqN ?_)
     have ow60 := ow48.drop 0 rfl
     exact ⟨_, V46, rfl, ⟨x8, rfl, (le43.trans le47), ow60, h59⟩, (allCons (L 13 rfl rfl) (allCons (L 14 rfl rfl) (allCons (L 15 rfl rfl) (allCons (L 16 rfl rfl) (allCons (L 17 rfl rfl) allNil)))))⟩
   ·intro kk
    refine bcase (b := decide (x28.op = 11)) (fun g61 => ?_) (fun g61 => ?_)
    ·skip
     refine U.p (v := .pointer (some ⟨b41, 4, none⟩)) rfl rfl (.inr ⟨_, _, _, rfl, rfl, ((L 0 rfl rfl).trans (cB g61))⟩) (S.fieldAddr rfl (L 4 rfl rfl) Try.underlying44 rfl ti3 rfl rfl) ?_
     refine U.k rfl rfl (.inr ⟨_, _, _, rfl, rfl, ((L 1 rfl rfl).trans (cB g61))⟩) (S.load rfl (L 0 rfl rfl) Try.underlying3 rfl ((ow48.own (k := 0) rfl).cell rfl)) nd ?_
     refine U.p rfl rfl (.inr ⟨_, _, _, rfl, rfl, ((L 2 rfl rfl).trans (cB g61))⟩) (S.move rfl (L 10 rfl rfl)) ?_
     refine U.p rfl rfl (.inr ⟨_, _, _, rfl, rfl, ((L 3 rfl rfl).trans (cB g61))⟩) (S.eqlI rfl (L 1 rfl rfl) (L 0 rfl rfl)) ?_
     refine U.p rfl rfl (.inl rfl) (S.pickT rfl ((L 4 rfl rfl).trans (cB g61)) (L 0 rfl rfl)) ?_
     exact kk [(23, .bool (decide (x28.imm = p1))), (22, .bool (decide (x28.imm = p1))), (21, .int .i64 p1), (20, .int .i64 x28.imm), (19, .pointer (some ⟨b41, 4, none⟩))] _ ⟨.bool (decide (x28.imm = p1)), .int .i64 p1, .int .i64 x28.imm, .pointer (some ⟨b41, 4, none⟩), rfl, (by rw [g61, Bool.true_and])⟩
    ·skip
     refine U.x rfl rfl rfl rfl ((L 0 rfl rfl).trans (cB g61)) (by decide) ?_
     refine U.x rfl rfl rfl rfl ((L 1 rfl rfl).trans (cB g61)) (by decide) ?_
     refine U.x rfl rfl rfl rfl ((L 2 rfl rfl).trans (cB g61)) (by decide) ?_
     refine U.x rfl rfl rfl rfl ((L 3 rfl rfl).trans (cB g61)) (by decide) ?_
     refine U.p rfl rfl (.inl rfl) (S.pickF rfl ((L 4 rfl rfl).trans (cB g61)) K) ?_
     exact kk [(23, .bool false), (22, .tuple #[]), (21, .tuple #[]), (20, .tuple #[]), (19, .tuple #[])] _ ⟨.tuple #[], .tuple #[], .tuple #[], .tuple #[], rfl, (by rw [g61, Bool.false_and])⟩
 ·have h62 := ifF c21 h20
  refine WP.exit ?_
  refine sqE (sqE (blkE (sqN ?_)))
  have h63 := exitS h62 e18
  refine WP.usreg rfl ?_
  refine U.p rfl rfl (.inl rfl) (S.move rfl (L 2 rfl rfl)) ?_
  refine U.p rfl rfl (.inl rfl) (S.assign rfl (L 0 rfl rfl)) ?_
  refine U.done (nr rfl) ?_
  refine WP.ret ?_
  refine fin.slot (.inr rfl) rfl (L 0 rfl rfl) ⟨V13, rfl, (le5.trans le14), ?_⟩
  have e64 := Option.some.inj h63
  subst e64
  exact ⟨rfl, ow15⟩
theorem wk_ref08_ins (V : Vw) (Rs : List At) (p0 : TFunc) (p1 : TIns) (v1 : Value) (v3 : Value) (f2 : Fz RT_TIns V v1 p0.code) (f4 : Fz (RT.int .i64) V v3 p1.args) (ow : Ow V (Rs)) (r : Bool) (h : ref08_ins p0 p1 = some r) : ∃ v V', Cl Try.prog 0 21 #[.agg #[.string p0.name, .int .i64 p0.params, .int .i64 p0.regs, v1], .agg #[.int .i64 p1.op, .int .i64 p1.d, .int .i64 p1.a, .int .i64 p1.b, .int .i64 p1.imm, v3, .int .i64 p1.what, .bool p1.volatile, .bool p1.final]] V.H v V'.H ∧ V.le V' ∧ (v = .bool r ∧ Ow V' (Rs)) := by
 refine Ct.of (Nat.zero_le _) Try.func21 rfl (nr rfl) ?_
 unfold ref08_ins at h
 refine WP.usreg rfl ?_
 refine O.box ow rfl rfl (.inl rfl) rfl (L 0 rfl rfl) (by simp [topV]) rfl nd (fun b5 V6 le7 ow8 => ?_)
 refine O.box ow8 rfl rfl (.inl rfl) rfl (L 2 rfl rfl) (by simp [topV]) rfl nd (fun b10 V11 le12 ow13 => ?_)
 refine U.p rfl rfl (.inl rfl) (S.assign rfl K) ?_
 refine U.done (nr rfl) ?_
 refine WP.seq ?_
 refine WP.usreg rfl ?_
 refine U.p (v := .pointer (some ⟨b10, 0, none⟩)) rfl rfl (.inl rfl) (S.fieldAddr rfl (L 1 rfl rfl) Try.underlying44 rfl ti3 rfl rfl) ?_
 refine U.k rfl rfl (.inl rfl) (S.load rfl (L 0 rfl rfl) Try.underlying3 rfl ((ow13.own (k := 0) rfl).cell rfl)) nd ?_
 refine U.p rfl rfl (.inl rfl) (S.lss rfl (L 0 rfl rfl) K) ?_
 refine U.p rfl rfl (.inl rfl) (S.move rfl (L 0 rfl rfl)) ?_
 refine U.joinX 8 (fun e H => ∃ (u15 u16 u17 : Value), H = V11.H ∧ e = [(18, .bool ((decide (p1.op < 1)) || (decide (22 < p1.op)))), (17, u15), (16, u16), (15, u17)]) ?_ ?_
 ·rintro _ _ ⟨u15, u16, u17, rfl, rfl⟩
  refine U.done (nr rfl) ?_
  refine WP.cond _ (L 0 rfl rfl) rfl (fun c21 => ?_) (fun c21 => ?_)
  ·have h22 := ifT c21 h
   refine WP.usreg rfl ?_
   refine U.p rfl rfl (.inl rfl) (S.assign rfl K) ?_
   refine U.done (nr rfl) ?_
   refine WP.ret ?_
   refine sqR ?_
   refine fin.slot (.inr rfl) rfl (L 0 rfl rfl) ⟨V11, rfl, (le7.trans le12), ?_⟩
   have ow23 := ow13.drop 0 rfl
   have ow24 := ow23.drop 0 rfl
   have e25 := Option.some.inj h22
   subst e25
   exact ⟨rfl, ow24⟩
  ·have h26 := ifF c21 h
   refine WP.skip ?_
   refine sqN ?_
   refine WP.usreg rfl ?_
   refine U.p (v := .pointer (some ⟨b10, 0, none⟩)) rfl rfl (.inl rfl) (S.fieldAddr rfl (L 9 rfl rfl) Try.underlying44 rfl ti3 rfl rfl) ?_
   refine U.k rfl rfl (.inl rfl) (S.load rfl (L 0 rfl rfl) Try.underlying3 rfl ((ow13.own (k := 0) rfl).cell rfl)) nd ?_
   obtain ⟨x27, hx28, h29⟩ := bindS h26
   refine O.call (V := V11) rfl rfl (.inl rfl) rfl en33 (aC (L 0 rfl rfl) aN) (wk_ref08_has V11 _ p1.op ow13 _ hx28) (fun _ _ _ _ => nd) (fun v30 V31 le32 hp33 => ?_)
   obtain ⟨rfl, ow34⟩ := hp33
   refine U.p rfl rfl (.inl rfl) (S.move rfl (L 0 rfl rfl)) ?_
   refine U.p rfl rfl (.inl rfl) (S.extract rfl (L 0 rfl rfl) rfl (nr rfl)) ?_
   refine U.p rfl rfl (.inl rfl) (S.extract rfl (L 1 rfl rfl) rfl (nr rfl)) ?_
   refine U.p rfl rfl (.inl rfl) (S.extract rfl (L 2 rfl rfl) rfl (nr rfl)) ?_
   refine U.p rfl rfl (.inl rfl) (S.extract rfl (L 3 rfl rfl) rfl (nr rfl)) ?_
   refine U.p rfl rfl (.inl rfl) (S.assign rfl (L 3 rfl rfl)) ?_
   refine U.p rfl rfl (.inl rfl) (S.assign rfl (L 3 rfl rfl)) ?_
   refine U.p rfl rfl (.inl rfl) (S.assign rfl (L 3 rfl rfl)) ?_
   refine U.p rfl rfl (.inl rfl) (S.assign rfl (L 3 rfl rfl)) ?_
   refine U.done (nr rfl) ?_
   refine WP.seqI (fun l V' => ∃ (x35 : Bool), l = [(2, .pointer (some ⟨b5, 0, none⟩)), (3, .pointer (some ⟨b10, 0, none⟩)), (5, .bool x27.1), (6, .bool x35), (7, .bool x27.2.2.1), (8, .bool x27.2.2.2)] ∧ V31.le V' ∧ Ow V' (.pt b5 (.cells 0 [.string p0.name, .int .i64 p0.params, .int .i64 p0.regs, v1]) :: .pt b10 (.cells 0 [.int .i64 p1.op, .int .i64 p1.d, .int .i64 p1.a, .int .i64 p1.b, .int .i64 p1.imm, v3, .int .i64 p1.what, .bool p1.volatile, .bool p1.final]) :: Rs) ∧ ref08_ins_k1 p0 p1 x27 x35 = some r) ?_ ?_
   ·rintro _ V36 ⟨x35, rfl, le37, ow38, h39⟩
    unfold ref08_ins_k1 at h39
    refine WP.seq ?_
    refine WP.usreg rfl ?_
    refine U.p rfl rfl (.inl rfl) (S.move rfl (L 2 rfl rfl)) ?_
    refine U.p (v := .pointer (some ⟨b10, 0, none⟩)) rfl rfl (.inl rfl) (S.fieldAddr rfl (L 2 rfl rfl) Try.underlying44 rfl ti3 rfl rfl) ?_
    refine U.k rfl rfl (.inl rfl) (S.load rfl (L 0 rfl rfl) Try.underlying3 rfl ((ow38.own (k := 1) rfl).cell rfl)) nd ?_
    refine U.p rfl rfl (.inl rfl) (S.eqlI rfl (L 0 rfl rfl) K) ?_
    refine U.p (v := .pointer (some ⟨b10, 1, none⟩)) rfl rfl (.inl rfl) (S.fieldAddr rfl (L 5 rfl rfl) Try.underlying44 rfl ti3 rfl rfl) ?_
    refine U.k rfl rfl (.inl rfl) (S.load rfl (L 0 rfl rfl) Try.underlying3 rfl ((ow38.own (k := 1) rfl).cell rfl)) nd ?_
    refine U.p (v := .pointer (some ⟨b5, 2, none⟩)) rfl rfl (.inl rfl) (S.fieldAddr rfl (L 6 rfl rfl) Try.underlying38 rfl ti3 rfl rfl) ?_
    refine U.k rfl rfl (.inl rfl) (S.load rfl (L 0 rfl rfl) Try.underlying3 rfl ((ow38.own (k := 0) rfl).cell rfl)) nd ?_
    obtain ⟨x40, hx41, h42⟩ := bindS h39
    refine O.call (V := V36) rfl rfl (.inl rfl) rfl en34 (aC (L 7 rfl rfl) (aC (L 4 rfl rfl) (aC (L 2 rfl rfl) (aC (L 0 rfl rfl) aN)))) (wk_ref08_register V36 _ x27.1 (decide (p1.op = 14)) p1.d p0.regs ow38 _ hx41) (fun _ _ _ _ => nd) (fun v43 V44 le45 hp46 => ?_)
    obtain ⟨rfl, ow47⟩ := hp46
    refine U.p rfl rfl (.inl rfl) (S.not rfl (L 0 rfl rfl)) ?_
    refine U.p rfl rfl (.inl rfl) (S.move rfl (L 0 rfl rfl)) ?_
    obtain ⟨y48, hy49, h50⟩ := bindS h42
    refine U.joinX 32 (fun e H => ∃ (u51 u52 u53 u54 u55 u56 u57 u58 u59 u60 u61 u62 u63 u64 u65 u66 u67 u68 u69 u70 : Value), ∃ V' : Vw, H = V'.H ∧ V44.le V' ∧ e = [(72, .bool y48), (71, u51), (70, u52), (69, u53), (68, u54), (67, u55), (66, u56), (65, u57), (64, u58), (63, u59), (62, u60), (61, u61), (60, u62), (59, u63), (58, u64), (57, u65), (56, u66), (55, u67), (54, u68), (53, u69), (52, u70)] ∧ Ow V' (.pt b5 (.cells 0 [.string p0.name, .int .i64 p0.params, .int .i64 p0.regs, v1]) :: .pt b10 (.cells 0 [.int .i64 p1.op, .int .i64 p1.d, .int .i64 p1.a, .int .i64 p1.b, .int .i64 p1.imm, v3, .int .i64 p1.what, .bool p1.volatile, .bool p1.final]) :: Rs)) ?_ ?_
    ·rintro _ _ ⟨u51, u52, u53, u54, u55, u56, u57, u58, u59, u60, u61, u62, u63, u64, u65, u66, u67, u68, u69, u70, V71, rfl, le72, rfl, ow73⟩
     refine U.p rfl rfl (.inl rfl) (S.move rfl (L 0 rfl rfl)) ?_
     obtain ⟨y74, hy75, h76⟩ := bindS h50
     refine U.joinX 41 (fun e H => ∃ (u77 u78 u79 u80 u81 u82 u83 : Value), ∃ V' : Vw, H = V'.H ∧ V71.le V' ∧ e = [(81, .bool y74), (80, u77), (79, u78), (78, u79), (77, u80), (76, u81), (75, u82), (74, u83)] ∧ Ow V' (.pt b5 (.cells 0 [.string p0.name, .int .i64 p0.params, .int .i64 p0.regs, v1]) :: .pt b10 (.cells 0 [.int .i64 p1.op, .int .i64 p1.d, .int .i64 p1.a, .int .i64 p1.b, .int .i64 p1.imm, v3, .int .i64 p1.what, .bool p1.volatile, .bool p1.final]) :: Rs)) ?_ ?_
     ·rintro _ _ ⟨u77, u78, u79, u80, u81, u82, u83, V84, rfl, le85, rfl, ow86⟩
      refine U.done (nr rfl) ?_
      refine WP.cond _ (L 0 rfl rfl) rfl (fun c87 => ?_) (fun c87 => ?_)
      ·have h88 := ifT c87 h76
       refine WP.usreg rfl ?_
       refine U.p rfl rfl (.inl rfl) (S.assign rfl K) ?_
       refine U.done (nr rfl) ?_
       refine WP.ret ?_
       refine sqR ?_
       refine fin.slot (.inr rfl) rfl (L 0 rfl rfl) ⟨V84, rfl, ((((((le7.trans le12).trans le32).trans le37).trans le45).trans le72).trans le85), ?_⟩
       have ow89 := ow86.drop 0 rfl
       have ow90 := ow89.drop 0 rfl
       have e91 := Option.some.inj h88
       subst e91
       exact ⟨rfl, ow90⟩
      ·have h92 := ifF c87 h76
       refine WP.skip ?_
       refine sqN ?_
       refine WP.seq ?_
       refine WP.usreg rfl ?_
       refine U.p (v := .pointer (some ⟨b10, 5, none⟩)) rfl rfl (.inl rfl) (S.fieldAddr rfl (L 42 rfl rfl) Try.underlying44 rfl ti23 rfl rfl) ?_
       refine U.k rfl rfl (.inl rfl) (S.load rfl (L 0 rfl rfl) Try.underlying23 rfl ((ow86.own (k := 1) rfl).cell rfl)) nd ?_
       refine U.p rfl rfl (.inl rfl) (f4.1.len rfl (L 0 rfl rfl) Try.underlying23) ?_
       refine U.p rfl rfl (.inl rfl) (S.move rfl K) ?_
       refine U.done (nr rfl) ?_
       refine WP.blk ?_
       unfold ref08_ins_l1 at h92
       obtain ⟨n95, hn94⟩ := loopO_some.1 h92
       refine WP.loopI2 (fun n l V' => ∃ (x93 : Int), l = [(2, .pointer (some ⟨b5, 0, none⟩)), (3, .pointer (some ⟨b10, 0, none⟩)), (8, .bool x27.2.2.2), (83, v3), (84, .int .i64 (p1.args.length : Int)), (85, .int .i64 x93)] ∧ V84.le V' ∧ Ow V' (.pt b5 (.cells 0 [.string p0.name, .int .i64 p0.params, .int .i64 p0.regs, v1]) :: .pt b10 (.cells 0 [.int .i64 p1.op, .int .i64 p1.d, .int .i64 p1.a, .int .i64 p1.b, .int .i64 p1.imm, v3, .int .i64 p1.what, .bool p1.volatile, .bool p1.final]) :: Rs) ∧ itO (fun s => ref08_ins_l1b p0 p1 x27 s) n x93 = some r) n95 _ ⟨0, rfl, .refl _, ow86, hn94⟩ (allCons (L 45 rfl rfl) (allCons (L 46 rfl rfl) (allCons (L 50 rfl rfl) (allCons (L 2 rfl rfl) (allCons (L 1 rfl rfl) (allCons (L 0 rfl rfl) allNil)))))) ?_
       rintro _ _ V96 ⟨x93, rfl, le97, ow98, h102⟩
       obtain ⟨m99, q100, rfl, h103, e101⟩ := itS h102
       replace h103 : ref08_ins_l1b p0 p1 x27 x93 = some q100 := h103
       unfold ref08_ins_l1b at h103
       refine WP.usreg rfl ?_
       refine U.p rfl rfl (.inl rfl) (S.lss rfl (L 5 rfl rfl) (L 4 rfl rfl)) ?_
       refine U.done (nr rfl) ?_
       refine WP.seq ?_
       refine WP.cond _ (L 0 rfl rfl) rfl (fun c104 => ?_) (fun c104 => ?_)
       ·have h105 := ifT c104 h103
        refine WP.skip ?_
        refine sqN ?_
        refine WP.seq ?_
        refine WP.blk ?_
        refine WP.usreg rfl ?_
        obtain ⟨x106, hx107, h108⟩ := bindS h105
        obtain ⟨b109, o110, c111, cs112, hv113, hf114, hr115, hc116⟩ := f4.at hx107
        obtain rfl : cs112 = [.int .i64 x106] := hr115
        refine U.p rfl rfl (.inl rfl) (S.index rfl ((L 4 rfl rfl).trans hv113) (L 6 rfl rfl) Try.underlying23 ti3 (ix_ge hx107) (ix_lt hx107)) ?_
        refine U.k rfl rfl (.inl rfl) (S.load rfl (L 0 rfl rfl) Try.underlying3 rfl ((((((((le7.trans le12).trans le32).trans le37).trans le45).trans le72).trans le85).trans le97).cell hf114 (hc116 0 _ rfl))) nd ?_
        refine U.p rfl rfl (.inl rfl) (S.assign rfl (L 0 rfl rfl)) ?_
        refine U.done (nr rfl) ?_
        refine WP.usreg rfl ?_
        refine U.p (v := .pointer (some ⟨b10, 0, none⟩)) rfl rfl (.inl rfl) (S.fieldAddr rfl (L 5 rfl rfl) Try.underlying44 rfl ti3 rfl rfl) ?_
        refine U.k rfl rfl (.inl rfl) (S.load rfl (L 0 rfl rfl) Try.underlying3 rfl ((ow98.own (k := 1) rfl).cell rfl)) nd ?_
        refine U.p rfl rfl (.inl rfl) (S.neqI rfl (L 0 rfl rfl) K) ?_
        refine U.p rfl rfl (.inl rfl) (S.move rfl (L 0 rfl rfl)) ?_
        refine U.joinX 7 (fun e H => ∃ (u117 u118 : Value), H = V96.H ∧ e = [(95, .bool ((decide (p1.op ≠ 14)) || (decide (x106 < 0)))), (94, u117), (93, u118)]) ?_ ?_
        ·rintro _ _ ⟨u117, u118, rfl, rfl⟩
         refine U.p rfl rfl (.inl rfl) (S.move rfl (L 0 rfl rfl)) ?_
         refine U.joinX 13 (fun e H => ∃ (u122 u123 u124 u125 : Value), H = V96.H ∧ e = [(101, .bool (((decide (p1.op ≠ 14)) || (decide (x106 < 0))) || (decide (p0.regs ≤ x106)))), (100, u122), (99, u123), (98, u124), (97, u125)]) ?_ ?_
         ·rintro _ _ ⟨u122, u123, u124, u125, rfl, rfl⟩
          refine U.done (nr rfl) ?_
          refine WP.cond _ (L 0 rfl rfl) rfl (fun c129 => ?_) (fun c129 => ?_)
          ·have h130 := ifT c129 h108
           refine WP.usreg rfl ?_
           refine U.p rfl rfl (.inl rfl) (S.assign rfl K) ?_
           refine U.done (nr rfl) ?_
           refine WP.ret ?_
           refine blkR (sqR (sqR (blkR (sqR ?_))))
           have h131 := exitS h130 e101
           refine fin.slot (.inr rfl) rfl (L 0 rfl rfl) ⟨V96, rfl, (((((((le7.trans le12).trans le32).trans le37).trans le45).trans le72).trans le85).trans le97), ?_⟩
           have ow132 := ow98.drop 0 rfl
           have ow133 := ow132.drop 0 rfl
           have e134 := Option.some.inj h131
           subst e134
           exact ⟨rfl, ow133⟩
          ·have h135 := ifF c129 h108
           refine WP.skip ?_
           refine blkN (sqN ?_)
           refine WP.ureg rfl ?_
           refine U.p rfl rfl (.inl rfl) (S.add rfl (L 22 rfl rfl) K) ?_
           refine U.p rfl rfl (.inl rfl) (S.move rfl (L 0 rfl rfl)) ?_
           refine U.done (nr rfl) ?_
           refine sqN ?_
           exact ⟨_, V96, rfl, ⟨m99, Nat.lt_succ_self _, w64 (x93 + 1), rfl, le97, ow98, backS h135 e101⟩, (allCons (L 19 rfl rfl) (allCons (L 20 rfl rfl) (allCons (L 21 rfl rfl) (allCons (L 22 rfl rfl) (allCons (L 23 rfl rfl) (allCons (L 0 rfl rfl) allNil))))))⟩
         ·intro kk
          refine bcase (b := (decide (p1.op ≠ 14)) || (decide (x106 < 0))) (fun g136 => ?_) (fun g136 => ?_)
          ·skip
           refine U.x rfl rfl rfl rfl ((L 0 rfl rfl).trans (cB g136)) (by decide) ?_
           refine U.x rfl rfl rfl rfl ((L 1 rfl rfl).trans (cB g136)) (by decide) ?_
           refine U.x rfl rfl rfl rfl ((L 2 rfl rfl).trans (cB g136)) (by decide) ?_
           refine U.x rfl rfl rfl rfl ((L 3 rfl rfl).trans (cB g136)) (by decide) ?_
           refine U.p rfl rfl (.inl rfl) (S.pickT rfl ((L 4 rfl rfl).trans (cB g136)) K) ?_
           exact kk [(101, .bool true), (100, .tuple #[]), (99, .tuple #[]), (98, .tuple #[]), (97, .tuple #[])] _ ⟨.tuple #[], .tuple #[], .tuple #[], .tuple #[], rfl, (by rw [g136, Bool.true_or])⟩
          ·skip
           refine U.p rfl rfl (.inr ⟨_, _, _, rfl, rfl, ((L 0 rfl rfl).trans (cB g136))⟩) (S.move rfl (L 8 rfl rfl)) ?_
           refine U.p (v := .pointer (some ⟨b5, 2, none⟩)) rfl rfl (.inr ⟨_, _, _, rfl, rfl, ((L 1 rfl rfl).trans (cB g136))⟩) (S.fieldAddr rfl (L 13 rfl rfl) Try.underlying38 rfl ti3 rfl rfl) ?_
           refine U.k rfl rfl (.inr ⟨_, _, _, rfl, rfl, ((L 2 rfl rfl).trans (cB g136))⟩) (S.load rfl (L 0 rfl rfl) Try.underlying3 rfl ((ow98.own (k := 0) rfl).cell rfl)) nd ?_
           refine U.p rfl rfl (.inr ⟨_, _, _, rfl, rfl, ((L 3 rfl rfl).trans (cB g136))⟩) (S.geq rfl (L 2 rfl rfl) (L 0 rfl rfl)) ?_
           refine U.p rfl rfl (.inl rfl) (S.pickF rfl ((L 4 rfl rfl).trans (cB g136)) (L 0 rfl rfl)) ?_
           exact kk [(101, .bool (decide (p0.regs ≤ x106))), (100, .bool (decide (p0.regs ≤ x106))), (99, .int .i64 p0.regs), (98, .pointer (some ⟨b5, 2, none⟩)), (97, .int .i64 x106)] _ ⟨.bool (decide (p0.regs ≤ x106)), .int .i64 p0.regs, .pointer (some ⟨b5, 2, none⟩), .int .i64 x106, rfl, (by rw [g136, Bool.false_or])⟩
        ·intro kk
         refine bcase (b := decide (p1.op ≠ 14)) (fun g137 => ?_) (fun g137 => ?_)
         ·skip
          refine U.x rfl rfl rfl rfl ((L 0 rfl rfl).trans (cB g137)) (by decide) ?_
          refine U.x rfl rfl rfl rfl ((L 1 rfl rfl).trans (cB g137)) (by decide) ?_
          refine U.p rfl rfl (.inl rfl) (S.pickT rfl ((L 2 rfl rfl).trans (cB g137)) K) ?_
          exact kk [(95, .bool true), (94, .tuple #[]), (93, .tuple #[])] _ ⟨.tuple #[], .tuple #[], rfl, (by rw [g137, Bool.true_or])⟩
         ·skip
          refine U.p rfl rfl (.inr ⟨_, _, _, rfl, rfl, ((L 0 rfl rfl).trans (cB g137))⟩) (S.move rfl (L 4 rfl rfl)) ?_
          refine U.p rfl rfl (.inr ⟨_, _, _, rfl, rfl, ((L 1 rfl rfl).trans (cB g137))⟩) (S.lss rfl (L 0 rfl rfl) K) ?_
          refine U.p rfl rfl (.inl rfl) (S.pickF rfl ((L 2 rfl rfl).trans (cB g137)) (L 0 rfl rfl)) ?_
          exact kk [(95, .bool (decide (x106 < 0))), (94, .bool (decide (x106 < 0))), (93, .int .i64 x106)] _ ⟨.bool (decide (x106 < 0)), .int .i64 x106, rfl, (by rw [g137, Bool.false_or])⟩
       ·have h138 := ifF c104 h103
        refine WP.exit ?_
        refine sqE (sqE (blkE (sqN ?_)))
        have h139 := exitS h138 e101
        refine WP.seq ?_
        refine WP.usreg rfl ?_
        refine U.p (v := .pointer (some ⟨b10, 0, none⟩)) rfl rfl (.inl rfl) (S.fieldAddr rfl (L 2 rfl rfl) Try.underlying44 rfl ti3 rfl rfl) ?_
        refine U.k rfl rfl (.inl rfl) (S.load rfl (L 0 rfl rfl) Try.underlying3 rfl ((ow98.own (k := 1) rfl).cell rfl)) nd ?_
        refine U.p rfl rfl (.inl rfl) (S.neqI rfl (L 0 rfl rfl) K) ?_
        refine U.p rfl rfl (.inl rfl) (S.move rfl (L 0 rfl rfl)) ?_
        refine U.joinX 8 (fun e H => ∃ (u140 u141 u142 : Value), H = V96.H ∧ e = [(110, .bool ((decide (p1.op ≠ 9)) && (decide (p1.op ≠ 10)))), (109, u140), (108, u141), (107, u142)]) ?_ ?_
        ·rintro _ _ ⟨u140, u141, u142, rfl, rfl⟩
         refine U.p rfl rfl (.inl rfl) (S.move rfl (L 0 rfl rfl)) ?_
         refine U.joinX 21 (fun e H => ∃ (u146 u147 u148 u149 u150 u151 u152 u153 u154 u155 u156 : Value), H = V96.H ∧ e = [(123, .bool (((decide (p1.op ≠ 9)) && (decide (p1.op ≠ 10))) && (((decide (p1.what ≠ 0)) || p1.volatile) || p1.final))), (122, u146), (121, u147), (120, u148), (119, u149), (118, u150), (117, u151), (116, u152), (115, u153), (114, u154), (113, u155), (112, u156)]) ?_ ?_
         ·rintro _ _ ⟨u146, u147, u148, u149, u150, u151, u152, u153, u154, u155, u156, rfl, rfl⟩
          refine U.done (nr rfl) ?_
          refine WP.cond _ (L 0 rfl rfl) rfl (fun c160 => ?_) (fun c160 => ?_)
          ·have h161 := ifT c160 h139
           refine WP.usreg rfl ?_
           refine U.p rfl rfl (.inl rfl) (S.assign rfl K) ?_
           refine U.done (nr rfl) ?_
           refine WP.ret ?_
           refine sqR ?_
           refine fin.slot (.inr rfl) rfl (L 0 rfl rfl) ⟨V96, rfl, (((((((le7.trans le12).trans le32).trans le37).trans le45).trans le72).trans le85).trans le97), ?_⟩
           have ow162 := ow98.drop 0 rfl
           have ow163 := ow162.drop 0 rfl
           have e164 := Option.some.inj h161
           subst e164
           exact ⟨rfl, ow163⟩
          ·have h165 := ifF c160 h139
           refine WP.skip ?_
           refine sqN ?_
           refine WP.seq ?_
           refine WP.usreg rfl ?_
           refine U.p (v := .pointer (some ⟨b10, 0, none⟩)) rfl rfl (.inl rfl) (S.fieldAddr rfl (L 23 rfl rfl) Try.underlying44 rfl ti3 rfl rfl) ?_
           refine U.k rfl rfl (.inl rfl) (S.load rfl (L 0 rfl rfl) Try.underlying3 rfl ((ow98.own (k := 1) rfl).cell rfl)) nd ?_
           refine U.done (nr rfl) ?_
           refine WP.blk ?_
           refine WP.seqI (fun l V' => ∃ (x166 : Bool), l = [(2, .pointer (some ⟨b5, 0, none⟩)), (3, .pointer (some ⟨b10, 0, none⟩)), (8, .bool x27.2.2.2), (125, .int .i64 p1.op), (126, .bool x166)] ∧ V96.le V' ∧ Ow V' (.pt b5 (.cells 0 [.string p0.name, .int .i64 p0.params, .int .i64 p0.regs, v1]) :: .pt b10 (.cells 0 [.int .i64 p1.op, .int .i64 p1.d, .int .i64 p1.a, .int .i64 p1.b, .int .i64 p1.imm, v3, .int .i64 p1.what, .bool p1.volatile, .bool p1.final]) :: Rs) ∧ ref08_ins_k2 p0 p1 x27 x166 = some r) ?_ ?_
           ·rintro _ V167 ⟨x166, rfl, le168, ow169, h170⟩
            unfold ref08_ins_k2 at h170
            refine WP.cond _ (L 4 rfl rfl) rfl (fun c171 => ?_) (fun c171 => ?_)
            ·have h172 := ifT c171 h170
             refine WP.usreg rfl ?_
             refine U.p rfl rfl (.inl rfl) (S.assign rfl K) ?_
             refine U.done (nr rfl) ?_
             refine WP.ret ?_
             refine blkR (sqR ?_)
             refine fin.slot (.inr rfl) rfl (L 0 rfl rfl) ⟨V167, rfl, ((((((((le7.trans le12).trans le32).trans le37).trans le45).trans le72).trans le85).trans le97).trans le168), ?_⟩
             have ow173 := ow169.drop 0 rfl
             have ow174 := ow173.drop 0 rfl
             have e175 := Option.some.inj h172
             subst e175
             exact ⟨rfl, ow174⟩
            ·have h176 := ifF c171 h170
             refine WP.usreg rfl ?_
             refine U.p rfl rfl (.inl rfl) (S.eqlI rfl (L 3 rfl rfl) K) ?_
             refine U.p rfl rfl (.inl rfl) (S.assign rfl (L 0 rfl rfl)) ?_
             refine U.done (nr rfl) ?_
             refine WP.cond _ (L 0 rfl rfl) rfl (fun c177 => ?_) (fun c177 => ?_)
             ·have h178 := ifT c177 h176
              refine WP.usreg rfl ?_
              refine U.p (v := .pointer (some ⟨b10, 4, none⟩)) rfl rfl (.inl rfl) (S.fieldAddr rfl (L 3 rfl rfl) Try.underlying44 rfl ti3 rfl rfl) ?_
              refine U.k rfl rfl (.inl rfl) (S.load rfl (L 0 rfl rfl) Try.underlying3 rfl ((ow169.own (k := 1) rfl).cell rfl)) nd ?_
              refine U.p rfl rfl (.inl rfl) (S.gtr rfl (L 0 rfl rfl) K) ?_
              refine U.p rfl rfl (.inl rfl) (S.assign rfl (L 0 rfl rfl)) ?_
              refine U.done (nr rfl) ?_
              refine WP.ret ?_
              refine blkR (sqR ?_)
              refine fin.slot (.inr rfl) rfl (L 0 rfl rfl) ⟨V167, rfl, ((((((((le7.trans le12).trans le32).trans le37).trans le45).trans le72).trans le85).trans le97).trans le168), ?_⟩
              have ow179 := ow169.drop 0 rfl
              have ow180 := ow179.drop 0 rfl
              have e181 := Option.some.inj h178
              subst e181
              exact ⟨rfl, ow180⟩
             ·have h182 := ifF c177 h176
              refine WP.usreg rfl ?_
              refine U.p rfl rfl (.inl rfl) (S.eqlI rfl (L 5 rfl rfl) K) ?_
              refine U.p rfl rfl (.inl rfl) (S.assign rfl (L 0 rfl rfl)) ?_
              refine U.done (nr rfl) ?_
              refine WP.cond _ (L 0 rfl rfl) rfl (fun c183 => ?_) (fun c183 => ?_)
              ·have h184 := ifT c183 h182
               refine WP.usreg rfl ?_
               refine U.p (v := .pointer (some ⟨b10, 4, none⟩)) rfl rfl (.inl rfl) (S.fieldAddr rfl (L 5 rfl rfl) Try.underlying44 rfl ti3 rfl rfl) ?_
               refine U.k rfl rfl (.inl rfl) (S.load rfl (L 0 rfl rfl) Try.underlying3 rfl ((ow169.own (k := 1) rfl).cell rfl)) nd ?_
               refine U.p rfl rfl (.inl rfl) (S.eqlI rfl (L 0 rfl rfl) K) ?_
               refine U.p rfl rfl (.inl rfl) (S.move rfl (L 0 rfl rfl)) ?_
               refine U.joinX 8 (fun e H => ∃ (u185 u186 u187 : Value), H = V167.H ∧ e = [(146, .bool ((decide (p1.imm = 0)) || (decide (p1.imm = 1)))), (145, u185), (144, u186), (143, u187)]) ?_ ?_
               ·rintro _ _ ⟨u185, u186, u187, rfl, rfl⟩
                refine U.p rfl rfl (.inl rfl) (S.assign rfl (L 0 rfl rfl)) ?_
                refine U.done (nr rfl) ?_
                refine WP.ret ?_
                refine blkR (sqR ?_)
                refine fin.slot (.inr rfl) rfl (L 0 rfl rfl) ⟨V167, rfl, ((((((((le7.trans le12).trans le32).trans le37).trans le45).trans le72).trans le85).trans le97).trans le168), ?_⟩
                have ow191 := ow169.drop 0 rfl
                have ow192 := ow191.drop 0 rfl
                have e193 := Option.some.inj h184
                subst e193
                exact ⟨rfl, ow192⟩
               ·intro kk
                refine bcase (b := decide (p1.imm = 0)) (fun g194 => ?_) (fun g194 => ?_)
                ·skip
                 refine U.x rfl rfl rfl rfl ((L 0 rfl rfl).trans (cB g194)) (by decide) ?_
                 refine U.x rfl rfl rfl rfl ((L 1 rfl rfl).trans (cB g194)) (by decide) ?_
                 refine U.x rfl rfl rfl rfl ((L 2 rfl rfl).trans (cB g194)) (by decide) ?_
                 refine U.p rfl rfl (.inl rfl) (S.pickT rfl ((L 3 rfl rfl).trans (cB g194)) K) ?_
                 exact kk [(146, .bool true), (145, .tuple #[]), (144, .tuple #[]), (143, .tuple #[])] _ ⟨.tuple #[], .tuple #[], .tuple #[], rfl, (by rw [g194, Bool.true_or])⟩
                ·skip
                 refine U.p (v := .pointer (some ⟨b10, 4, none⟩)) rfl rfl (.inr ⟨_, _, _, rfl, rfl, ((L 0 rfl rfl).trans (cB g194))⟩) (S.fieldAddr rfl (L 9 rfl rfl) Try.underlying44 rfl ti3 rfl rfl) ?_
                 refine U.k rfl rfl (.inr ⟨_, _, _, rfl, rfl, ((L 1 rfl rfl).trans (cB g194))⟩) (S.load rfl (L 0 rfl rfl) Try.underlying3 rfl ((ow169.own (k := 1) rfl).cell rfl)) nd ?_
                 refine U.p rfl rfl (.inr ⟨_, _, _, rfl, rfl, ((L 2 rfl rfl).trans (cB g194))⟩) (S.eqlI rfl (L 0 rfl rfl) K) ?_
                 refine U.p rfl rfl (.inl rfl) (S.pickF rfl ((L 3 rfl rfl).trans (cB g194)) (L 0 rfl rfl)) ?_
                 exact kk [(146, .bool (decide (p1.imm = 1))), (145, .bool (decide (p1.imm = 1))), (144, .int .i64 p1.imm), (143, .pointer (some ⟨b10, 4, none⟩))] _ ⟨.bool (decide (p1.imm = 1)), .int .i64 p1.imm, .pointer (some ⟨b10, 4, none⟩), rfl, (by rw [g194, Bool.false_or])⟩
              ·have h195 := ifF c183 h182
               refine WP.skip ?_
               refine blkN (sqN ?_)
               refine WP.seq ?_
               refine WP.usreg rfl ?_
               refine U.p rfl rfl (.inl rfl) (S.move rfl (L 6 rfl rfl)) ?_
               refine U.done (nr rfl) ?_
               refine WP.cond _ (L 0 rfl rfl) rfl (fun c196 => ?_) (fun c196 => ?_)
               ·have h197 := ifT c196 h195
                refine WP.usreg rfl ?_
                refine U.k rfl rfl (.inl rfl) (S.loadB rfl (L 5 rfl rfl) Try.underlying38 rfl ti38 (ow169.own (k := 0) rfl).get rfl) nd ?_
                refine U.p (v := .pointer (some ⟨b10, 4, none⟩)) rfl rfl (.inl rfl) (S.fieldAddr rfl (L 7 rfl rfl) Try.underlying44 rfl ti3 rfl rfl) ?_
                refine U.k rfl rfl (.inl rfl) (S.load rfl (L 0 rfl rfl) Try.underlying3 rfl ((ow169.own (k := 1) rfl).cell rfl)) nd ?_
                have f198 := f2.up ((((((((le7.trans le12).trans le32).trans le37).trans le45).trans le72).trans le85).trans le97).trans le168)
                obtain ⟨x199, hx200, h201⟩ := bindS h197
                refine O.call (V := V167) rfl rfl (.inl rfl) rfl en22 (aC (L 2 rfl rfl) (aC (L 0 rfl rfl) aN)) (wk_ref08_count V167 _ p0 p1.imm v1 f198 ow169 _ hx200) (fun _ _ _ _ => nd) (fun v202 V203 le204 hp205 => ?_)
                obtain ⟨rfl, ow206⟩ := hp205
                refine U.p rfl rfl (.inl rfl) (S.gtr rfl (L 0 rfl rfl) K) ?_
                refine U.p rfl rfl (.inl rfl) (S.assign rfl (L 0 rfl rfl)) ?_
                refine U.done (nr rfl) ?_
                refine WP.ret ?_
                refine sqR ?_
                refine fin.slot (.inr rfl) rfl (L 0 rfl rfl) ⟨V203, rfl, (((((((((le7.trans le12).trans le32).trans le37).trans le45).trans le72).trans le85).trans le97).trans le168).trans le204), ?_⟩
                have ow207 := ow206.drop 0 rfl
                have ow208 := ow207.drop 0 rfl
                have e209 := Option.some.inj h201
                subst e209
                exact ⟨rfl, ow208⟩
               ·have h210 := ifF c196 h195
                refine WP.skip ?_
                refine sqN ?_
                refine WP.usreg rfl ?_
                refine U.p (v := .pointer (some ⟨b10, 4, none⟩)) rfl rfl (.inl rfl) (S.fieldAddr rfl (L 6 rfl rfl) Try.underlying44 rfl ti3 rfl rfl) ?_
                refine U.k rfl rfl (.inl rfl) (S.load rfl (L 0 rfl rfl) Try.underlying3 rfl ((ow169.own (k := 1) rfl).cell rfl)) nd ?_
                refine U.p rfl rfl (.inl rfl) (S.eqlI rfl (L 0 rfl rfl) K) ?_
                refine U.p rfl rfl (.inl rfl) (S.assign rfl (L 0 rfl rfl)) ?_
                refine U.done (nr rfl) ?_
                refine WP.ret ?_
                refine fin.slot (.inr rfl) rfl (L 0 rfl rfl) ⟨V167, rfl, ((((((((le7.trans le12).trans le32).trans le37).trans le45).trans le72).trans le85).trans le97).trans le168), ?_⟩
                have ow211 := ow169.drop 0 rfl
                have ow212 := ow211.drop 0 rfl
                have e213 := Option.some.inj h210
                subst e213
                exact ⟨rfl, ow212⟩
           ·skip
            refine WP.usreg rfl ?_
            refine U.p rfl rfl (.inl rfl) (S.eqlI rfl (L 0 rfl rfl) K) ?_
            refine U.p rfl rfl (.inl rfl) (S.assign rfl (L 0 rfl rfl)) ?_
            refine U.done (nr rfl) ?_
            refine WP.cond _ (L 0 rfl rfl) rfl (fun c214 => ?_) (fun c214 => ?_)
            ·have h215 := ifT c214 h165
             refine WP.skip ?_
             refine sqN ?_
             exact ⟨_, V96, rfl, ⟨true, rfl, (.refl _), ow98, h215⟩, (allCons (L 26 rfl rfl) (allCons (L 27 rfl rfl) (allCons (L 28 rfl rfl) (allCons (L 2 rfl rfl) (allCons ((L 0 rfl rfl).trans (cB c214)) allNil)))))⟩
            ·have h216 := ifF c214 h165
             refine WP.usreg rfl ?_
             refine U.p rfl rfl (.inl rfl) (S.eqlI rfl (L 2 rfl rfl) K) ?_
             refine U.p rfl rfl (.inl rfl) (S.assign rfl (L 0 rfl rfl)) ?_
             refine U.done (nr rfl) ?_
             refine WP.cond _ (L 0 rfl rfl) rfl (fun c217 => ?_) (fun c217 => ?_)
             ·have h218 := ifT c217 h216
              refine WP.skip ?_
              refine sqN ?_
              exact ⟨_, V96, rfl, ⟨true, rfl, (.refl _), ow98, h218⟩, (allCons (L 28 rfl rfl) (allCons (L 29 rfl rfl) (allCons (L 30 rfl rfl) (allCons (L 4 rfl rfl) (allCons ((L 0 rfl rfl).trans (cB c217)) allNil)))))⟩
             ·have h219 := ifF c217 h216
              refine WP.usreg rfl ?_
              refine U.p rfl rfl (.inl rfl) (S.eqlI rfl (L 4 rfl rfl) K) ?_
              refine U.p rfl rfl (.inl rfl) (S.assign rfl (L 0 rfl rfl)) ?_
              refine U.done (nr rfl) ?_
              refine WP.cond _ (L 0 rfl rfl) rfl (fun c220 => ?_) (fun c220 => ?_)
              ·have h221 := ifT c220 h219
               refine WP.skip ?_
               refine sqN ?_
               exact ⟨_, V96, rfl, ⟨true, rfl, (.refl _), ow98, h221⟩, (allCons (L 30 rfl rfl) (allCons (L 31 rfl rfl) (allCons (L 32 rfl rfl) (allCons (L 6 rfl rfl) (allCons ((L 0 rfl rfl).trans (cB c220)) allNil)))))⟩
              ·have h222 := ifF c220 h219
               refine WP.usreg rfl ?_
               refine U.p rfl rfl (.inl rfl) (S.eqlI rfl (L 6 rfl rfl) K) ?_
               refine U.p rfl rfl (.inl rfl) (S.assign rfl (L 0 rfl rfl)) ?_
               refine U.done (nr rfl) ?_
               refine WP.cond _ (L 0 rfl rfl) rfl (fun c223 => ?_) (fun c223 => ?_)
               ·have h224 := ifT c223 h222
                refine WP.skip ?_
                refine sqN ?_
                exact ⟨_, V96, rfl, ⟨true, rfl, (.refl _), ow98, h224⟩, (allCons (L 32 rfl rfl) (allCons (L 33 rfl rfl) (allCons (L 34 rfl rfl) (allCons (L 8 rfl rfl) (allCons ((L 0 rfl rfl).trans (cB c223)) allNil)))))⟩
               ·have h225 := ifF c223 h222
                refine WP.ureg rfl ?_
                refine U.p rfl rfl (.inl rfl) (S.eqlI rfl (L 8 rfl rfl) K) ?_
                refine U.p rfl rfl (.inl rfl) (S.assign rfl (L 0 rfl rfl)) ?_
                refine U.done (nr rfl) ?_
                refine sqN ?_
                exact ⟨_, V96, rfl, ⟨decide (p1.op = 21), rfl, (.refl _), ow98, h225⟩, (allCons (L 34 rfl rfl) (allCons (L 35 rfl rfl) (allCons (L 36 rfl rfl) (allCons (L 10 rfl rfl) (allCons (L 0 rfl rfl) allNil)))))⟩
         ·intro kk
          refine bcase (b := (decide (p1.op ≠ 9)) && (decide (p1.op ≠ 10))) (fun g226 => ?_) (fun g226 => ?_)
          ·skip
           refine U.p (v := .pointer (some ⟨b10, 6, none⟩)) rfl rfl (.inr ⟨_, _, _, rfl, rfl, ((L 0 rfl rfl).trans (cB g226))⟩) (S.fieldAddr rfl (L 11 rfl rfl) Try.underlying44 rfl ti3 rfl rfl) ?_
           refine U.k rfl rfl (.inr ⟨_, _, _, rfl, rfl, ((L 1 rfl rfl).trans (cB g226))⟩) (S.load rfl (L 0 rfl rfl) Try.underlying3 rfl ((ow98.own (k := 1) rfl).cell rfl)) nd ?_
           refine U.p rfl rfl (.inr ⟨_, _, _, rfl, rfl, ((L 2 rfl rfl).trans (cB g226))⟩) (S.neqI rfl (L 0 rfl rfl) K) ?_
           refine U.p rfl rfl (.inr ⟨_, _, _, rfl, rfl, ((L 3 rfl rfl).trans (cB g226))⟩) (S.move rfl (L 0 rfl rfl)) ?_
           refine U.joinX 16 (fun e H => ∃ (u227 u228 : Value), H = V96.H ∧ e = [(118, .bool ((decide (p1.what ≠ 0)) || p1.volatile)), (117, u227), (116, u228)]) ?_ ?_
           ·rintro _ _ ⟨u227, u228, rfl, rfl⟩
            refine U.p rfl rfl (.inr ⟨_, _, _, rfl, rfl, ((L 7 rfl rfl).trans (cB g226))⟩) (S.move rfl (L 0 rfl rfl)) ?_
            refine U.joinX 20 (fun e H => ∃ (u232 u233 : Value), H = V96.H ∧ e = [(122, .bool (((decide (p1.what ≠ 0)) || p1.volatile) || p1.final)), (121, u232), (120, u233)]) ?_ ?_
            ·rintro _ _ ⟨u232, u233, rfl, rfl⟩
             refine U.p rfl rfl (.inl rfl) (S.pickT rfl ((L 11 rfl rfl).trans (cB g226)) (L 0 rfl rfl)) ?_
             exact kk [(123, .bool (((decide (p1.what ≠ 0)) || p1.volatile) || p1.final)), (122, .bool (((decide (p1.what ≠ 0)) || p1.volatile) || p1.final)), (121, u232), (120, u233), (119, .bool ((decide (p1.what ≠ 0)) || p1.volatile)), (118, .bool ((decide (p1.what ≠ 0)) || p1.volatile)), (117, u227), (116, u228), (115, .bool (decide (p1.what ≠ 0))), (114, .bool (decide (p1.what ≠ 0))), (113, .int .i64 p1.what), (112, .pointer (some ⟨b10, 6, none⟩))] _ ⟨.bool (((decide (p1.what ≠ 0)) || p1.volatile) || p1.final), u232, u233, .bool ((decide (p1.what ≠ 0)) || p1.volatile), .bool ((decide (p1.what ≠ 0)) || p1.volatile), u227, u228, .bool (decide (p1.what ≠ 0)), .bool (decide (p1.what ≠ 0)), .int .i64 p1.what, .pointer (some ⟨b10, 6, none⟩), rfl, (by rw [g226, Bool.true_and])⟩
            ·intro kk
             refine bcase (b := (decide (p1.what ≠ 0)) || p1.volatile) (fun g237 => ?_) (fun g237 => ?_)
             ·skip
              refine U.x rfl rfl rfl rfl ((L 0 rfl rfl).trans (cB g237)) (by decide) ?_
              refine U.x rfl rfl rfl rfl ((L 1 rfl rfl).trans (cB g237)) (by decide) ?_
              refine U.p rfl rfl (.inr ⟨_, _, _, rfl, rfl, ((L 10 rfl rfl).trans (cB g226))⟩) (S.pickT rfl ((L 2 rfl rfl).trans (cB g237)) K) ?_
              exact kk [(122, .bool true), (121, .tuple #[]), (120, .tuple #[])] _ ⟨.tuple #[], .tuple #[], rfl, (by rw [g237, Bool.true_or])⟩
             ·skip
              refine U.p (v := .pointer (some ⟨b10, 8, none⟩)) rfl rfl (.inr ⟨_, _, _, rfl, rfl, ((L 0 rfl rfl).trans (cB g237))⟩) (S.fieldAddr rfl (L 19 rfl rfl) Try.underlying44 rfl ti4 rfl rfl) ?_
              refine U.k rfl rfl (.inr ⟨_, _, _, rfl, rfl, ((L 1 rfl rfl).trans (cB g237))⟩) (S.load rfl (L 0 rfl rfl) Try.underlying4 rfl ((ow98.own (k := 1) rfl).cell rfl)) nd ?_
              refine U.p rfl rfl (.inr ⟨_, _, _, rfl, rfl, ((L 10 rfl rfl).trans (cB g226))⟩) (S.pickF rfl ((L 2 rfl rfl).trans (cB g237)) (L 0 rfl rfl)) ?_
              exact kk [(122, .bool p1.final), (121, .bool p1.final), (120, .pointer (some ⟨b10, 8, none⟩))] _ ⟨.bool p1.final, .pointer (some ⟨b10, 8, none⟩), rfl, (by rw [g237, Bool.false_or])⟩
           ·intro kk
            refine bcase (b := decide (p1.what ≠ 0)) (fun g238 => ?_) (fun g238 => ?_)
            ·skip
             refine U.x rfl rfl rfl rfl ((L 0 rfl rfl).trans (cB g238)) (by decide) ?_
             refine U.x rfl rfl rfl rfl ((L 1 rfl rfl).trans (cB g238)) (by decide) ?_
             refine U.p rfl rfl (.inr ⟨_, _, _, rfl, rfl, ((L 6 rfl rfl).trans (cB g226))⟩) (S.pickT rfl ((L 2 rfl rfl).trans (cB g238)) K) ?_
             exact kk [(118, .bool true), (117, .tuple #[]), (116, .tuple #[])] _ ⟨.tuple #[], .tuple #[], rfl, (by rw [g238, Bool.true_or])⟩
            ·skip
             refine U.p (v := .pointer (some ⟨b10, 7, none⟩)) rfl rfl (.inr ⟨_, _, _, rfl, rfl, ((L 0 rfl rfl).trans (cB g238))⟩) (S.fieldAddr rfl (L 15 rfl rfl) Try.underlying44 rfl ti4 rfl rfl) ?_
             refine U.k rfl rfl (.inr ⟨_, _, _, rfl, rfl, ((L 1 rfl rfl).trans (cB g238))⟩) (S.load rfl (L 0 rfl rfl) Try.underlying4 rfl ((ow98.own (k := 1) rfl).cell rfl)) nd ?_
             refine U.p rfl rfl (.inr ⟨_, _, _, rfl, rfl, ((L 6 rfl rfl).trans (cB g226))⟩) (S.pickF rfl ((L 2 rfl rfl).trans (cB g238)) (L 0 rfl rfl)) ?_
             exact kk [(118, .bool p1.volatile), (117, .bool p1.volatile), (116, .pointer (some ⟨b10, 7, none⟩))] _ ⟨.bool p1.volatile, .pointer (some ⟨b10, 7, none⟩), rfl, (by rw [g238, Bool.false_or])⟩
          ·skip
           refine U.x rfl rfl rfl rfl ((L 0 rfl rfl).trans (cB g226)) (by decide) ?_
           refine U.x rfl rfl rfl rfl ((L 1 rfl rfl).trans (cB g226)) (by decide) ?_
           refine U.x rfl rfl rfl rfl ((L 2 rfl rfl).trans (cB g226)) (by decide) ?_
           refine U.x rfl rfl rfl rfl ((L 3 rfl rfl).trans (cB g226)) (by decide) ?_
           refine U.z rfl rfl rfl rfl (L 0 rfl rfl) ?_
           refine U.z rfl rfl rfl rfl (L 1 rfl rfl) ?_
           refine U.x rfl rfl rfl rfl ((L 6 rfl rfl).trans (cB g226)) (by decide) ?_
           refine U.x rfl rfl rfl rfl ((L 7 rfl rfl).trans (cB g226)) (by decide) ?_
           refine U.z rfl rfl rfl rfl (L 0 rfl rfl) ?_
           refine U.z rfl rfl rfl rfl (L 1 rfl rfl) ?_
           refine U.x rfl rfl rfl rfl ((L 10 rfl rfl).trans (cB g226)) (by decide) ?_
           refine U.p rfl rfl (.inl rfl) (S.pickF rfl ((L 11 rfl rfl).trans (cB g226)) K) ?_
           exact kk [(123, .bool false), (122, .tuple #[]), (121, .tuple #[]), (120, .tuple #[]), (119, .tuple #[]), (118, .tuple #[]), (117, .tuple #[]), (116, .tuple #[]), (115, .tuple #[]), (114, .tuple #[]), (113, .tuple #[]), (112, .tuple #[])] _ ⟨.tuple #[], .tuple #[], .tuple #[], .tuple #[], .tuple #[], .tuple #[], .tuple #[], .tuple #[], .tuple #[], .tuple #[], .tuple #[], rfl, (by rw [g226, Bool.false_and])⟩
        ·intro kk
         refine bcase (b := decide (p1.op ≠ 9)) (fun g239 => ?_) (fun g239 => ?_)
         ·skip
          refine U.p (v := .pointer (some ⟨b10, 0, none⟩)) rfl rfl (.inr ⟨_, _, _, rfl, rfl, ((L 0 rfl rfl).trans (cB g239))⟩) (S.fieldAddr rfl (L 6 rfl rfl) Try.underlying44 rfl ti3 rfl rfl) ?_
          refine U.k rfl rfl (.inr ⟨_, _, _, rfl, rfl, ((L 1 rfl rfl).trans (cB g239))⟩) (S.load rfl (L 0 rfl rfl) Try.underlying3 rfl ((ow98.own (k := 1) rfl).cell rfl)) nd ?_
          refine U.p rfl rfl (.inr ⟨_, _, _, rfl, rfl, ((L 2 rfl rfl).trans (cB g239))⟩) (S.neqI rfl (L 0 rfl rfl) K) ?_
          refine U.p rfl rfl (.inl rfl) (S.pickT rfl ((L 3 rfl rfl).trans (cB g239)) (L 0 rfl rfl)) ?_
          exact kk [(110, .bool (decide (p1.op ≠ 10))), (109, .bool (decide (p1.op ≠ 10))), (108, .int .i64 p1.op), (107, .pointer (some ⟨b10, 0, none⟩))] _ ⟨.bool (decide (p1.op ≠ 10)), .int .i64 p1.op, .pointer (some ⟨b10, 0, none⟩), rfl, (by rw [g239, Bool.true_and])⟩
         ·skip
          refine U.x rfl rfl rfl rfl ((L 0 rfl rfl).trans (cB g239)) (by decide) ?_
          refine U.x rfl rfl rfl rfl ((L 1 rfl rfl).trans (cB g239)) (by decide) ?_
          refine U.x rfl rfl rfl rfl ((L 2 rfl rfl).trans (cB g239)) (by decide) ?_
          refine U.p rfl rfl (.inl rfl) (S.pickF rfl ((L 3 rfl rfl).trans (cB g239)) K) ?_
          exact kk [(110, .bool false), (109, .tuple #[]), (108, .tuple #[]), (107, .tuple #[])] _ ⟨.tuple #[], .tuple #[], .tuple #[], rfl, (by rw [g239, Bool.false_and])⟩
     ·intro kk
      refine bcase (b := y48) (fun g240 => ?_) (fun g240 => ?_)
      ·have h241 := ifT g240 hy75
       refine U.x rfl rfl rfl rfl ((L 0 rfl rfl).trans (cB g240)) (by decide) ?_
       refine U.x rfl rfl rfl rfl ((L 1 rfl rfl).trans (cB g240)) (by decide) ?_
       refine U.x rfl rfl rfl rfl ((L 2 rfl rfl).trans (cB g240)) (by decide) ?_
       refine U.x rfl rfl rfl rfl ((L 3 rfl rfl).trans (cB g240)) (by decide) ?_
       refine U.x rfl rfl rfl rfl ((L 4 rfl rfl).trans (cB g240)) (by decide) ?_
       refine U.x rfl rfl rfl rfl ((L 5 rfl rfl).trans (cB g240)) (by decide) ?_
       refine U.x rfl rfl rfl rfl ((L 6 rfl rfl).trans (cB g240)) (by decide) ?_
       refine U.p rfl rfl (.inl rfl) (S.pickT rfl ((L 7 rfl rfl).trans (cB g240)) K) ?_
       have e242 := Option.some.inj h241
       subst e242
       exact kk [(81, .bool true), (80, .tuple #[]), (79, .tuple #[]), (78, .tuple #[]), (77, .tuple #[]), (76, .tuple #[]), (75, .tuple #[]), (74, .tuple #[])] _ ⟨.tuple #[], .tuple #[], .tuple #[], .tuple #[], .tuple #[], .tuple #[], .tuple #[], V71, rfl, (.refl _), rfl, ow73⟩
      ·have h243 := ifF g240 hy75
       refine U.p rfl rfl (.inr ⟨_, _, _, rfl, rfl, ((L 0 rfl rfl).trans (cB g240))⟩) (S.move rfl (L 37 rfl rfl)) ?_
       refine U.p (v := .pointer (some ⟨b10, 3, none⟩)) rfl rfl (.inr ⟨_, _, _, rfl, rfl, ((L 1 rfl rfl).trans (cB g240))⟩) (S.fieldAddr rfl (L 35 rfl rfl) Try.underlying44 rfl ti3 rfl rfl) ?_
       refine U.k rfl rfl (.inr ⟨_, _, _, rfl, rfl, ((L 2 rfl rfl).trans (cB g240))⟩) (S.load rfl (L 0 rfl rfl) Try.underlying3 rfl ((ow73.own (k := 1) rfl).cell rfl)) nd ?_
       refine U.p (v := .pointer (some ⟨b5, 2, none⟩)) rfl rfl (.inr ⟨_, _, _, rfl, rfl, ((L 3 rfl rfl).trans (cB g240))⟩) (S.fieldAddr rfl (L 36 rfl rfl) Try.underlying38 rfl ti3 rfl rfl) ?_
       refine U.k rfl rfl (.inr ⟨_, _, _, rfl, rfl, ((L 4 rfl rfl).trans (cB g240))⟩) (S.load rfl (L 0 rfl rfl) Try.underlying3 rfl ((ow73.own (k := 0) rfl).cell rfl)) nd ?_
       obtain ⟨x244, hx245, h246⟩ := bindS h243
       refine O.call (V := V71) rfl rfl (.inr ⟨_, _, _, rfl, rfl, ((L 5 rfl rfl).trans (cB g240))⟩) rfl en34 (aC (L 4 rfl rfl) (aC K (aC (L 2 rfl rfl) (aC (L 0 rfl rfl) aN)))) (wk_ref08_register V71 _ x27.2.2.1 false p1.b p0.regs ow73 _ hx245) (fun _ _ _ _ => nd) (fun v247 V248 le249 hp250 => ?_)
       obtain ⟨rfl, ow251⟩ := hp250
       refine U.p rfl rfl (.inr ⟨_, _, _, rfl, rfl, ((L 6 rfl rfl).trans (cB g240))⟩) (S.not rfl (L 0 rfl rfl)) ?_
       refine U.p rfl rfl (.inl rfl) (S.pickF rfl ((L 7 rfl rfl).trans (cB g240)) (L 0 rfl rfl)) ?_
       have e252 := Option.some.inj h246
       subst e252
       exact kk [(81, .bool (!x244)), (80, .bool (!x244)), (79, .bool x244), (78, .int .i64 p0.regs), (77, .pointer (some ⟨b5, 2, none⟩)), (76, .int .i64 p1.b), (75, .pointer (some ⟨b10, 3, none⟩)), (74, .bool x27.2.2.1)] _ ⟨.bool (!x244), .bool x244, .int .i64 p0.regs, .pointer (some ⟨b5, 2, none⟩), .int .i64 p1.b, .pointer (some ⟨b10, 3, none⟩), .bool x27.2.2.1, V248, rfl, le249, rfl, ow251⟩
    ·intro kk
     refine bcase (b := !x40) (fun g253 => ?_) (fun g253 => ?_)
     ·have h254 := ifT g253 hy49
      have k255 : x40 = false := nT g253
      refine U.x rfl rfl rfl rfl ((L 0 rfl rfl).trans (cB g253)) (by decide) ?_
      refine U.x rfl rfl rfl rfl ((L 1 rfl rfl).trans (cB g253)) (by decide) ?_
      refine U.x rfl rfl rfl rfl ((L 2 rfl rfl).trans (cB g253)) (by decide) ?_
      refine U.x rfl rfl rfl rfl ((L 3 rfl rfl).trans (cB g253)) (by decide) ?_
      refine U.x rfl rfl rfl rfl ((L 4 rfl rfl).trans (cB g253)) (by decide) ?_
      refine U.z rfl rfl rfl rfl (L 0 rfl rfl) ?_
      refine U.z rfl rfl rfl rfl (L 1 rfl rfl) ?_
      refine U.z rfl rfl rfl rfl (L 2 rfl rfl) ?_
      refine U.x rfl rfl rfl rfl ((L 8 rfl rfl).trans (cB g253)) (by decide) ?_
      refine U.x rfl rfl rfl rfl ((L 9 rfl rfl).trans (cB g253)) (by decide) ?_
      refine U.z rfl rfl rfl rfl (L 0 rfl rfl) ?_
      refine U.z rfl rfl rfl rfl (L 1 rfl rfl) ?_
      refine U.z rfl rfl rfl rfl (L 2 rfl rfl) ?_
      refine U.x rfl rfl rfl rfl ((L 13 rfl rfl).trans (cB g253)) (by decide) ?_
      refine U.x rfl rfl rfl rfl ((L 14 rfl rfl).trans (cB g253)) (by decide) ?_
      refine U.x rfl rfl rfl rfl ((L 15 rfl rfl).trans (cB g253)) (by decide) ?_
      refine U.x rfl rfl rfl rfl ((L 16 rfl rfl).trans (cB g253)) (by decide) ?_
      refine U.x rfl rfl rfl rfl ((L 17 rfl rfl).trans (cB g253)) (by decide) ?_
      refine U.x rfl rfl rfl rfl ((L 18 rfl rfl).trans (cB g253)) (by decide) ?_
      refine U.x rfl rfl rfl rfl ((L 19 rfl rfl).trans (cB g253)) (by decide) ?_
      refine U.p rfl rfl (.inl rfl) (S.pickT rfl ((L 20 rfl rfl).trans (cB g253)) K) ?_
      have e256 := Option.some.inj h254
      subst e256
      exact kk [(72, .bool true), (71, .tuple #[]), (70, .tuple #[]), (69, .tuple #[]), (68, .tuple #[]), (67, .tuple #[]), (66, .tuple #[]), (65, .tuple #[]), (64, .tuple #[]), (63, .tuple #[]), (62, .tuple #[]), (61, .tuple #[]), (60, .tuple #[]), (59, .tuple #[]), (58, .tuple #[]), (57, .tuple #[]), (56, .tuple #[]), (55, .tuple #[]), (54, .tuple #[]), (53, .tuple #[]), (52, .tuple #[])] _ ⟨.tuple #[], .tuple #[], .tuple #[], .tuple #[], .tuple #[], .tuple #[], .tuple #[], .tuple #[], .tuple #[], .tuple #[], .tuple #[], .tuple #[], .tuple #[], .tuple #[], .tuple #[], .tuple #[], .tuple #[], .tuple #[], .tuple #[], .tuple #[], V44, rfl, (.refl _), rfl, ow47⟩
     ·have h257 := ifF g253 hy49
      have k258 : x40 = true := nF g253
      refine U.p rfl rfl (.inr ⟨_, _, _, rfl, rfl, ((L 0 rfl rfl).trans (cB g253))⟩) (S.move rfl (L 14 rfl rfl)) ?_
      refine U.p (v := .pointer (some ⟨b10, 0, none⟩)) rfl rfl (.inr ⟨_, _, _, rfl, rfl, ((L 1 rfl rfl).trans (cB g253))⟩) (S.fieldAddr rfl (L 13 rfl rfl) Try.underlying44 rfl ti3 rfl rfl) ?_
      refine U.k rfl rfl (.inr ⟨_, _, _, rfl, rfl, ((L 2 rfl rfl).trans (cB g253))⟩) (S.load rfl (L 0 rfl rfl) Try.underlying3 rfl ((ow47.own (k := 1) rfl).cell rfl)) nd ?_
      refine U.p rfl rfl (.inr ⟨_, _, _, rfl, rfl, ((L 3 rfl rfl).trans (cB g253))⟩) (S.eqlI rfl (L 0 rfl rfl) K) ?_
      refine U.p rfl rfl (.inr ⟨_, _, _, rfl, rfl, ((L 4 rfl rfl).trans (cB g253))⟩) (S.move rfl (L 0 rfl rfl)) ?_
      refine U.joinX 20 (fun e H => ∃ (u259 u260 u261 : Value), H = V44.H ∧ e = [(60, .bool ((decide (p1.op = 9)) || (decide (p1.op = 10)))), (59, u259), (58, u260), (57, u261)]) ?_ ?_
      ·rintro _ _ ⟨u259, u260, u261, rfl, rfl⟩
       refine U.p rfl rfl (.inr ⟨_, _, _, rfl, rfl, ((L 9 rfl rfl).trans (cB g253))⟩) (S.move rfl (L 0 rfl rfl)) ?_
       refine U.joinX 25 (fun e H => ∃ (u265 u266 u267 : Value), H = V44.H ∧ e = [(65, .bool (((decide (p1.op = 9)) || (decide (p1.op = 10))) || (decide (p1.op = 15)))), (64, u265), (63, u266), (62, u267)]) ?_ ?_
       ·rintro _ _ ⟨u265, u266, u267, rfl, rfl⟩
        refine U.p (v := .pointer (some ⟨b10, 2, none⟩)) rfl rfl (.inr ⟨_, _, _, rfl, rfl, ((L 14 rfl rfl).trans (cB g253))⟩) (S.fieldAddr rfl (L 26 rfl rfl) Try.underlying44 rfl ti3 rfl rfl) ?_
        refine U.k rfl rfl (.inr ⟨_, _, _, rfl, rfl, ((L 15 rfl rfl).trans (cB g253))⟩) (S.load rfl (L 0 rfl rfl) Try.underlying3 rfl ((ow47.own (k := 1) rfl).cell rfl)) nd ?_
        refine U.p (v := .pointer (some ⟨b5, 2, none⟩)) rfl rfl (.inr ⟨_, _, _, rfl, rfl, ((L 16 rfl rfl).trans (cB g253))⟩) (S.fieldAddr rfl (L 27 rfl rfl) Try.underlying38 rfl ti3 rfl rfl) ?_
        refine U.k rfl rfl (.inr ⟨_, _, _, rfl, rfl, ((L 17 rfl rfl).trans (cB g253))⟩) (S.load rfl (L 0 rfl rfl) Try.underlying3 rfl ((ow47.own (k := 0) rfl).cell rfl)) nd ?_
        obtain ⟨x271, hx272, h273⟩ := bindS h257
        refine O.call (V := V44) rfl rfl (.inr ⟨_, _, _, rfl, rfl, ((L 18 rfl rfl).trans (cB g253))⟩) rfl en34 (aC (L 17 rfl rfl) (aC (L 4 rfl rfl) (aC (L 2 rfl rfl) (aC (L 0 rfl rfl) aN)))) (wk_ref08_register V44 _ x35 (((decide (p1.op = 9)) || (decide (p1.op = 10))) || (decide (p1.op = 15))) p1.a p0.regs ow47 _ hx272) (fun _ _ _ _ => nd) (fun v274 V275 le276 hp277 => ?_)
        obtain ⟨rfl, ow278⟩ := hp277
        refine U.p rfl rfl (.inr ⟨_, _, _, rfl, rfl, ((L 19 rfl rfl).trans (cB g253))⟩) (S.not rfl (L 0 rfl rfl)) ?_
        refine U.p rfl rfl (.inl rfl) (S.pickF rfl ((L 20 rfl rfl).trans (cB g253)) (L 0 rfl rfl)) ?_
        have e279 := Option.some.inj h273
        subst e279
        exact kk [(72, .bool (!x271)), (71, .bool (!x271)), (70, .bool x271), (69, .int .i64 p0.regs), (68, .pointer (some ⟨b5, 2, none⟩)), (67, .int .i64 p1.a), (66, .pointer (some ⟨b10, 2, none⟩)), (65, .bool (((decide (p1.op = 9)) || (decide (p1.op = 10))) || (decide (p1.op = 15)))), (64, u265), (63, u266), (62, u267), (61, .bool ((decide (p1.op = 9)) || (decide (p1.op = 10)))), (60, .bool ((decide (p1.op = 9)) || (decide (p1.op = 10)))), (59, u259), (58, u260), (57, u261), (56, .bool (decide (p1.op = 9))), (55, .bool (decide (p1.op = 9))), (54, .int .i64 p1.op), (53, .pointer (some ⟨b10, 0, none⟩)), (52, .bool x35)] _ ⟨.bool (!x271), .bool x271, .int .i64 p0.regs, .pointer (some ⟨b5, 2, none⟩), .int .i64 p1.a, .pointer (some ⟨b10, 2, none⟩), .bool (((decide (p1.op = 9)) || (decide (p1.op = 10))) || (decide (p1.op = 15))), u265, u266, u267, .bool ((decide (p1.op = 9)) || (decide (p1.op = 10))), .bool ((decide (p1.op = 9)) || (decide (p1.op = 10))), u259, u260, u261, .bool (decide (p1.op = 9)), .bool (decide (p1.op = 9)), .int .i64 p1.op, .pointer (some ⟨b10, 0, none⟩), .bool x35, V275, rfl, le276, rfl, ow278⟩
       ·intro kk
        refine bcase (b := (decide (p1.op = 9)) || (decide (p1.op = 10))) (fun g280 => ?_) (fun g280 => ?_)
        ·skip
         refine U.x rfl rfl rfl rfl ((L 0 rfl rfl).trans (cB g280)) (by decide) ?_
         refine U.x rfl rfl rfl rfl ((L 1 rfl rfl).trans (cB g280)) (by decide) ?_
         refine U.x rfl rfl rfl rfl ((L 2 rfl rfl).trans (cB g280)) (by decide) ?_
         refine U.p rfl rfl (.inr ⟨_, _, _, rfl, rfl, ((L 13 rfl rfl).trans (cB g253))⟩) (S.pickT rfl ((L 3 rfl rfl).trans (cB g280)) K) ?_
         exact kk [(65, .bool true), (64, .tuple #[]), (63, .tuple #[]), (62, .tuple #[])] _ ⟨.tuple #[], .tuple #[], .tuple #[], rfl, (by rw [g280, Bool.true_or])⟩
        ·skip
         refine U.p (v := .pointer (some ⟨b10, 0, none⟩)) rfl rfl (.inr ⟨_, _, _, rfl, rfl, ((L 0 rfl rfl).trans (cB g280))⟩) (S.fieldAddr rfl (L 22 rfl rfl) Try.underlying44 rfl ti3 rfl rfl) ?_
         refine U.k rfl rfl (.inr ⟨_, _, _, rfl, rfl, ((L 1 rfl rfl).trans (cB g280))⟩) (S.load rfl (L 0 rfl rfl) Try.underlying3 rfl ((ow47.own (k := 1) rfl).cell rfl)) nd ?_
         refine U.p rfl rfl (.inr ⟨_, _, _, rfl, rfl, ((L 2 rfl rfl).trans (cB g280))⟩) (S.eqlI rfl (L 0 rfl rfl) K) ?_
         refine U.p rfl rfl (.inr ⟨_, _, _, rfl, rfl, ((L 13 rfl rfl).trans (cB g253))⟩) (S.pickF rfl ((L 3 rfl rfl).trans (cB g280)) (L 0 rfl rfl)) ?_
         exact kk [(65, .bool (decide (p1.op = 15))), (64, .bool (decide (p1.op = 15))), (63, .int .i64 p1.op), (62, .pointer (some ⟨b10, 0, none⟩))] _ ⟨.bool (decide (p1.op = 15)), .int .i64 p1.op, .pointer (some ⟨b10, 0, none⟩), rfl, (by rw [g280, Bool.false_or])⟩
      ·intro kk
       refine bcase (b := decide (p1.op = 9)) (fun g281 => ?_) (fun g281 => ?_)
       ·skip
        refine U.x rfl rfl rfl rfl ((L 0 rfl rfl).trans (cB g281)) (by decide) ?_
        refine U.x rfl rfl rfl rfl ((L 1 rfl rfl).trans (cB g281)) (by decide) ?_
        refine U.x rfl rfl rfl rfl ((L 2 rfl rfl).trans (cB g281)) (by decide) ?_
        refine U.p rfl rfl (.inr ⟨_, _, _, rfl, rfl, ((L 8 rfl rfl).trans (cB g253))⟩) (S.pickT rfl ((L 3 rfl rfl).trans (cB g281)) K) ?_
        exact kk [(60, .bool true), (59, .tuple #[]), (58, .tuple #[]), (57, .tuple #[])] _ ⟨.tuple #[], .tuple #[], .tuple #[], rfl, (by rw [g281, Bool.true_or])⟩
       ·skip
        refine U.p (v := .pointer (some ⟨b10, 0, none⟩)) rfl rfl (.inr ⟨_, _, _, rfl, rfl, ((L 0 rfl rfl).trans (cB g281))⟩) (S.fieldAddr rfl (L 17 rfl rfl) Try.underlying44 rfl ti3 rfl rfl) ?_
        refine U.k rfl rfl (.inr ⟨_, _, _, rfl, rfl, ((L 1 rfl rfl).trans (cB g281))⟩) (S.load rfl (L 0 rfl rfl) Try.underlying3 rfl ((ow47.own (k := 1) rfl).cell rfl)) nd ?_
        refine U.p rfl rfl (.inr ⟨_, _, _, rfl, rfl, ((L 2 rfl rfl).trans (cB g281))⟩) (S.eqlI rfl (L 0 rfl rfl) K) ?_
        refine U.p rfl rfl (.inr ⟨_, _, _, rfl, rfl, ((L 8 rfl rfl).trans (cB g253))⟩) (S.pickF rfl ((L 3 rfl rfl).trans (cB g281)) (L 0 rfl rfl)) ?_
        exact kk [(60, .bool (decide (p1.op = 10))), (59, .bool (decide (p1.op = 10))), (58, .int .i64 p1.op), (57, .pointer (some ⟨b10, 0, none⟩))] _ ⟨.bool (decide (p1.op = 10)), .int .i64 p1.op, .pointer (some ⟨b10, 0, none⟩), rfl, (by rw [g281, Bool.false_or])⟩
   ·skip
    refine WP.usreg rfl ?_
    refine U.p (v := .pointer (some ⟨b10, 0, none⟩)) rfl rfl (.inl rfl) (S.fieldAddr rfl (L 21 rfl rfl) Try.underlying44 rfl ti3 rfl rfl) ?_
    refine U.k rfl rfl (.inl rfl) (S.load rfl (L 0 rfl rfl) Try.underlying3 rfl ((ow34.own (k := 0) rfl).cell rfl)) nd ?_
    refine U.p rfl rfl (.inl rfl) (S.eqlI rfl (L 0 rfl rfl) K) ?_
    refine U.done (nr rfl) ?_
    refine WP.cond _ (L 0 rfl rfl) rfl (fun c282 => ?_) (fun c282 => ?_)
    ·have h283 := ifT c282 h29
     refine WP.seq ?_
     refine WP.usreg rfl ?_
     refine U.p (v := .pointer (some ⟨b10, 4, none⟩)) rfl rfl (.inl rfl) (S.fieldAddr rfl (L 24 rfl rfl) Try.underlying44 rfl ti3 rfl rfl) ?_
     refine U.k rfl rfl (.inl rfl) (S.load rfl (L 0 rfl rfl) Try.underlying3 rfl ((ow34.own (k := 0) rfl).cell rfl)) nd ?_
     refine U.p rfl rfl (.inl rfl) (S.lss rfl (L 0 rfl rfl) K) ?_
     refine U.p rfl rfl (.inl rfl) (S.move rfl (L 0 rfl rfl)) ?_
     refine U.joinX 8 (fun e H => ∃ (u284 u285 u286 : Value), H = V31.H ∧ e = [(37, .bool ((decide (p1.imm < 1)) || (decide (3 < p1.imm)))), (36, u284), (35, u285), (34, u286)]) ?_ ?_
     ·rintro _ _ ⟨u284, u285, u286, rfl, rfl⟩
      refine U.done (nr rfl) ?_
      refine WP.cond _ (L 0 rfl rfl) rfl (fun c290 => ?_) (fun c290 => ?_)
      ·have h291 := ifT c290 h283
       refine WP.usreg rfl ?_
       refine U.p rfl rfl (.inl rfl) (S.assign rfl K) ?_
       refine U.done (nr rfl) ?_
       refine WP.ret ?_
       refine sqR (sqR ?_)
       refine fin.slot (.inr rfl) rfl (L 0 rfl rfl) ⟨V31, rfl, ((le7.trans le12).trans le32), ?_⟩
       have ow292 := ow34.drop 0 rfl
       have ow293 := ow292.drop 0 rfl
       have e294 := Option.some.inj h291
       subst e294
       exact ⟨rfl, ow293⟩
      ·have h295 := ifF c290 h283
       refine WP.skip ?_
       refine sqN ?_
       refine WP.ureg rfl ?_
       refine U.p (v := .pointer (some ⟨b10, 4, none⟩)) rfl rfl (.inl rfl) (S.fieldAddr rfl (L 32 rfl rfl) Try.underlying44 rfl ti3 rfl rfl) ?_
       refine U.k rfl rfl (.inl rfl) (S.load rfl (L 0 rfl rfl) Try.underlying3 rfl ((ow34.own (k := 0) rfl).cell rfl)) nd ?_
       refine U.p rfl rfl (.inl rfl) (S.eqlI rfl (L 0 rfl rfl) K) ?_
       refine U.p rfl rfl (.inl rfl) (S.assign rfl (L 0 rfl rfl)) ?_
       refine U.done (nr rfl) ?_
       refine sqN ?_
       have ow296 := ow34.pick 0 rfl
       have ow297 := ow296.pick 1 rfl
       exact ⟨_, V31, rfl, ⟨decide (p1.imm = 3), rfl, (.refl _), ow297, h295⟩, (allCons (L 37 rfl rfl) (allCons (L 36 rfl rfl) (allCons (L 18 rfl rfl) (allCons (L 0 rfl rfl) (allCons (L 16 rfl rfl) (allCons (L 15 rfl rfl) allNil))))))⟩
     ·intro kk
      refine bcase (b := decide (p1.imm < 1)) (fun g298 => ?_) (fun g298 => ?_)
      ·skip
       refine U.x rfl rfl rfl rfl ((L 0 rfl rfl).trans (cB g298)) (by decide) ?_
       refine U.x rfl rfl rfl rfl ((L 1 rfl rfl).trans (cB g298)) (by decide) ?_
       refine U.x rfl rfl rfl rfl ((L 2 rfl rfl).trans (cB g298)) (by decide) ?_
       refine U.p rfl rfl (.inl rfl) (S.pickT rfl ((L 3 rfl rfl).trans (cB g298)) K) ?_
       exact kk [(37, .bool true), (36, .tuple #[]), (35, .tuple #[]), (34, .tuple #[])] _ ⟨.tuple #[], .tuple #[], .tuple #[], rfl, (by rw [g298, Bool.true_or])⟩
      ·skip
       refine U.p (v := .pointer (some ⟨b10, 4, none⟩)) rfl rfl (.inr ⟨_, _, _, rfl, rfl, ((L 0 rfl rfl).trans (cB g298))⟩) (S.fieldAddr rfl (L 28 rfl rfl) Try.underlying44 rfl ti3 rfl rfl) ?_
       refine U.k rfl rfl (.inr ⟨_, _, _, rfl, rfl, ((L 1 rfl rfl).trans (cB g298))⟩) (S.load rfl (L 0 rfl rfl) Try.underlying3 rfl ((ow34.own (k := 0) rfl).cell rfl)) nd ?_
       refine U.p rfl rfl (.inr ⟨_, _, _, rfl, rfl, ((L 2 rfl rfl).trans (cB g298))⟩) (S.gtr rfl (L 0 rfl rfl) K) ?_
       refine U.p rfl rfl (.inl rfl) (S.pickF rfl ((L 3 rfl rfl).trans (cB g298)) (L 0 rfl rfl)) ?_
       exact kk [(37, .bool (decide (3 < p1.imm))), (36, .bool (decide (3 < p1.imm))), (35, .int .i64 p1.imm), (34, .pointer (some ⟨b10, 4, none⟩))] _ ⟨.bool (decide (3 < p1.imm)), .int .i64 p1.imm, .pointer (some ⟨b10, 4, none⟩), rfl, (by rw [g298, Bool.false_or])⟩
    ·have h299 := ifF c282 h29
     refine WP.skip ?_
     refine sqN ?_
     have ow300 := ow34.pick 0 rfl
     have ow301 := ow300.pick 1 rfl
     exact ⟨_, V31, rfl, ⟨x27.2.1, rfl, (.refl _), ow301, h299⟩, (allCons (L 25 rfl rfl) (allCons (L 24 rfl rfl) (allCons (L 6 rfl rfl) (allCons (L 5 rfl rfl) (allCons (L 4 rfl rfl) (allCons (L 3 rfl rfl) allNil))))))⟩
 ·intro kk
  refine bcase (b := decide (p1.op < 1)) (fun g302 => ?_) (fun g302 => ?_)
  ·skip
   refine U.x rfl rfl rfl rfl ((L 0 rfl rfl).trans (cB g302)) (by decide) ?_
   refine U.x rfl rfl rfl rfl ((L 1 rfl rfl).trans (cB g302)) (by decide) ?_
   refine U.x rfl rfl rfl rfl ((L 2 rfl rfl).trans (cB g302)) (by decide) ?_
   refine U.p rfl rfl (.inl rfl) (S.pickT rfl ((L 3 rfl rfl).trans (cB g302)) K) ?_
   exact kk [(18, .bool true), (17, .tuple #[]), (16, .tuple #[]), (15, .tuple #[])] _ ⟨.tuple #[], .tuple #[], .tuple #[], rfl, (by rw [g302, Bool.true_or])⟩
  ·skip
   refine U.p (v := .pointer (some ⟨b10, 0, none⟩)) rfl rfl (.inr ⟨_, _, _, rfl, rfl, ((L 0 rfl rfl).trans (cB g302))⟩) (S.fieldAddr rfl (L 5 rfl rfl) Try.underlying44 rfl ti3 rfl rfl) ?_
   refine U.k rfl rfl (.inr ⟨_, _, _, rfl, rfl, ((L 1 rfl rfl).trans (cB g302))⟩) (S.load rfl (L 0 rfl rfl) Try.underlying3 rfl ((ow13.own (k := 0) rfl).cell rfl)) nd ?_
   refine U.p rfl rfl (.inr ⟨_, _, _, rfl, rfl, ((L 2 rfl rfl).trans (cB g302))⟩) (S.gtr rfl (L 0 rfl rfl) K) ?_
   refine U.p rfl rfl (.inl rfl) (S.pickF rfl ((L 3 rfl rfl).trans (cB g302)) (L 0 rfl rfl)) ?_
   exact kk [(18, .bool (decide (22 < p1.op))), (17, .bool (decide (22 < p1.op))), (16, .int .i64 p1.op), (15, .pointer (some ⟨b10, 0, none⟩))] _ ⟨.bool (decide (22 < p1.op)), .int .i64 p1.op, .pointer (some ⟨b10, 0, none⟩), rfl, (by rw [g302, Bool.false_or])⟩
theorem wk_ref08_Good (V : Vw) (Rs : List At) (p0 : TFunc) (v1 : Value) (f2 : Fz RT_TIns V v1 p0.code) (ow : Ow V (Rs)) (r : Bool) (h : ref08_Good p0 = some r) : ∃ v V', Cl Try.prog 0 17 #[.agg #[.string p0.name, .int .i64 p0.params, .int .i64 p0.regs, v1]] V.H v V'.H ∧ V.le V' ∧ (v = .bool r ∧ Ow V' (Rs)) := by
 refine Ct.of (Nat.zero_le _) Try.func17 rfl (nr rfl) ?_
 unfold ref08_Good at h
 refine WP.usreg rfl ?_
 refine O.box ow rfl rfl (.inl rfl) rfl (L 0 rfl rfl) (by simp [topV]) rfl nd (fun b3 V4 le5 ow6 => ?_)
 refine U.p rfl rfl (.inl rfl) (S.assign rfl K) ?_
 refine U.done (nr rfl) ?_
 refine WP.usreg rfl ?_
 refine U.p (v := .pointer (some ⟨b3, 3, none⟩)) rfl rfl (.inl rfl) (S.fieldAddr rfl (L 1 rfl rfl) Try.underlying38 rfl ti36 rfl rfl) ?_
 refine U.k rfl rfl (.inl rfl) (S.load rfl (L 0 rfl rfl) Try.underlying36 rfl ((ow6.own (k := 0) rfl).cell rfl)) nd ?_
 refine U.p rfl rfl (.inl rfl) (f2.1.len rfl (L 0 rfl rfl) Try.underlying36) ?_
 refine U.p rfl rfl (.inl rfl) (S.assign rfl (L 0 rfl rfl)) ?_
 refine U.done (nr rfl) ?_
 refine WP.seq ?_
 refine WP.usreg rfl ?_
 refine U.p rfl rfl (.inl rfl) (S.move rfl (L 0 rfl rfl)) ?_
 refine U.p rfl rfl (.inl rfl) (S.eqlI rfl (L 0 rfl rfl) K) ?_
 refine U.p rfl rfl (.inl rfl) (S.move rfl (L 0 rfl rfl)) ?_
 refine U.joinX 7 (fun e H => ∃ (u8 u9 u10 : Value), H = V4.H ∧ e = [(16, .bool ((decide ((p0.code.length : Int) = 0)) || (decide (p0.params < 0)))), (15, u8), (14, u9), (13, u10)]) ?_ ?_
 ·rintro _ _ ⟨u8, u9, u10, rfl, rfl⟩
  refine U.p rfl rfl (.inl rfl) (S.move rfl (L 0 rfl rfl)) ?_
  refine U.joinX 14 (fun e H => ∃ (u14 u15 u16 u17 u18 : Value), H = V4.H ∧ e = [(23, .bool (((decide ((p0.code.length : Int) = 0)) || (decide (p0.params < 0))) || (decide (p0.regs < p0.params)))), (22, u14), (21, u15), (20, u16), (19, u17), (18, u18)]) ?_ ?_
  ·rintro _ _ ⟨u14, u15, u16, u17, u18, rfl, rfl⟩
   refine U.done (nr rfl) ?_
   refine WP.cond _ (L 0 rfl rfl) rfl (fun c22 => ?_) (fun c22 => ?_)
   ·have h23 := ifT c22 h
    refine WP.usreg rfl ?_
    refine U.p rfl rfl (.inl rfl) (S.assign rfl K) ?_
    refine U.done (nr rfl) ?_
    refine WP.ret ?_
    refine sqR ?_
    refine fin.slot (.inr rfl) rfl (L 0 rfl rfl) ⟨V4, rfl, le5, ?_⟩
    have ow24 := ow6.drop 0 rfl
    have e25 := Option.some.inj h23
    subst e25
    exact ⟨rfl, ow24⟩
   ·have h26 := ifF c22 h
    refine WP.skip ?_
    refine sqN ?_
    refine WP.usreg rfl ?_
    refine U.p (v := .pointer (some ⟨b3, 3, none⟩)) rfl rfl (.inl rfl) (S.fieldAddr rfl (L 19 rfl rfl) Try.underlying38 rfl ti36 rfl rfl) ?_
    refine U.k rfl rfl (.inl rfl) (S.load rfl (L 0 rfl rfl) Try.underlying36 rfl ((ow6.own (k := 0) rfl).cell rfl)) nd ?_
    refine U.p rfl rfl (.inl rfl) (S.move rfl (L 16 rfl rfl)) ?_
    refine U.p rfl rfl (.inl rfl) (S.sub rfl (L 0 rfl rfl) K) ?_
    obtain ⟨x27, hx28, h29⟩ := bindS h26
    obtain ⟨b30, o31, c32, cs33, hv34, hf35, hr36, hc37⟩ := f2.at hx28
    obtain ⟨v38, rfl, f39⟩ := hr36
    refine U.p rfl rfl (.inl rfl) (S.index rfl ((L 2 rfl rfl).trans hv34) (L 0 rfl rfl) Try.underlying36 ti44 (ix_ge hx28) (ix_lt hx28)) ?_
    refine U.p (v := .pointer (some ⟨b30, o31 + Int.toNat (w64 ((p0.code.length : Int) - 1)) * 9, none⟩)) rfl rfl (.inl rfl) (S.fieldAddr rfl (L 0 rfl rfl) Try.underlying44 rfl ti3 rfl rfl) ?_
    refine U.k rfl rfl (.inl rfl) (S.load rfl (L 0 rfl rfl) Try.underlying3 rfl (le5.cell hf35 (hc37 0 _ rfl))) nd ?_
    refine U.p rfl rfl (.inl rfl) (S.assign rfl (L 0 rfl rfl)) ?_
    refine U.done (nr rfl) ?_
    refine WP.seq ?_
    refine WP.usreg rfl ?_
    refine U.p rfl rfl (.inl rfl) (S.move rfl (L 0 rfl rfl)) ?_
    refine U.p rfl rfl (.inl rfl) (S.neqI rfl (L 0 rfl rfl) K) ?_
    refine U.p rfl rfl (.inl rfl) (S.move rfl (L 0 rfl rfl)) ?_
    refine U.joinX 6 (fun e H => ∃ (u40 u41 : Value), H = V4.H ∧ e = [(36, .bool ((decide (x27.op ≠ 12)) && (decide (x27.op ≠ 15)))), (35, u40), (34, u41)]) ?_ ?_
    ·rintro _ _ ⟨u40, u41, rfl, rfl⟩
     refine U.p rfl rfl (.inl rfl) (S.move rfl (L 0 rfl rfl)) ?_
     refine U.joinX 10 (fun e H => ∃ (u45 u46 : Value), H = V4.H ∧ e = [(40, .bool (((decide (x27.op ≠ 12)) && (decide (x27.op ≠ 15))) && (decide (x27.op ≠ 16)))), (39, u45), (38, u46)]) ?_ ?_
     ·rintro _ _ ⟨u45, u46, rfl, rfl⟩
      refine U.done (nr rfl) ?_
      refine WP.cond _ (L 0 rfl rfl) rfl (fun c50 => ?_) (fun c50 => ?_)
      ·have h51 := ifT c50 h29
       refine WP.usreg rfl ?_
       refine U.p rfl rfl (.inl rfl) (S.assign rfl K) ?_
       refine U.done (nr rfl) ?_
       refine WP.ret ?_
       refine sqR ?_
       refine fin.slot (.inr rfl) rfl (L 0 rfl rfl) ⟨V4, rfl, le5, ?_⟩
       have ow52 := ow6.drop 0 rfl
       have e53 := Option.some.inj h51
       subst e53
       exact ⟨rfl, ow52⟩
      ·have h54 := ifF c50 h29
       refine WP.skip ?_
       refine sqN ?_
       refine WP.seq ?_
       refine WP.usreg rfl ?_
       refine U.p (v := .pointer (some ⟨b3, 3, none⟩)) rfl rfl (.inl rfl) (S.fieldAddr rfl (L 37 rfl rfl) Try.underlying38 rfl ti36 rfl rfl) ?_
       refine U.k rfl rfl (.inl rfl) (S.load rfl (L 0 rfl rfl) Try.underlying36 rfl ((ow6.own (k := 0) rfl).cell rfl)) nd ?_
       refine U.p rfl rfl (.inl rfl) (f2.1.len rfl (L 0 rfl rfl) Try.underlying36) ?_
       refine U.p rfl rfl (.inl rfl) (S.move rfl K) ?_
       refine U.done (nr rfl) ?_
       refine WP.blk ?_
       unfold ref08_Good_l1 at h54
       obtain ⟨n57, hn56⟩ := loopO_some.1 h54
       refine WP.loopI2 (fun n l V' => ∃ (x55 : Int), l = [(1, .pointer (some ⟨b3, 0, none⟩)), (42, v1), (43, .int .i64 (p0.code.length : Int)), (44, .int .i64 x55)] ∧ V4.le V' ∧ Ow V' (.pt b3 (.cells 0 [.string p0.name, .int .i64 p0.params, .int .i64 p0.regs, v1]) :: Rs) ∧ itO (fun s => ref08_Good_l1b p0 s) n x55 = some r) n57 _ ⟨0, rfl, .refl _, ow6, hn56⟩ (allCons (L 41 rfl rfl) (allCons (L 2 rfl rfl) (allCons (L 1 rfl rfl) (allCons (L 0 rfl rfl) allNil)))) ?_
       rintro _ _ V58 ⟨x55, rfl, le59, ow60, h64⟩
       obtain ⟨m61, q62, rfl, h65, e63⟩ := itS h64
       replace h65 : ref08_Good_l1b p0 x55 = some q62 := h65
       unfold ref08_Good_l1b at h65
       refine WP.usreg rfl ?_
       refine U.p rfl rfl (.inl rfl) (S.lss rfl (L 3 rfl rfl) (L 2 rfl rfl)) ?_
       refine U.done (nr rfl) ?_
       refine WP.seq ?_
       refine WP.cond _ (L 0 rfl rfl) rfl (fun c66 => ?_) (fun c66 => ?_)
       ·have h67 := ifT c66 h65
        refine WP.skip ?_
        refine sqN ?_
        refine WP.seq ?_
        refine WP.blk ?_
        refine WP.usreg rfl ?_
        obtain ⟨x68, hx69, h70⟩ := bindS h67
        obtain ⟨b71, o72, c73, cs74, hv75, hf76, hr77, hc78⟩ := f2.at hx69
        obtain ⟨v79, rfl, f80⟩ := hr77
        refine U.p rfl rfl (.inl rfl) (S.index rfl ((L 2 rfl rfl).trans hv75) (L 4 rfl rfl) Try.underlying36 ti44 (ix_ge hx69) (ix_lt hx69)) ?_
        refine U.k rfl rfl (.inl rfl) (S.loadN (cs := [.int .i64 x68.op, .int .i64 x68.d, .int .i64 x68.a, .int .i64 x68.b, .int .i64 x68.imm, v79, .int .i64 x68.what, .bool x68.volatile, .bool x68.final]) rfl (L 0 rfl rfl) Try.underlying44 rfl ti44 rfl (fun j v hj => (le5.trans le59).cell hf76 (hc78 j v hj))) nd ?_
        refine O.alloc ow60 rfl rfl (.inl rfl) rfl ti44 rfl rfl nd (fun b81 V82 le83 ow84 => ?_)
        refine O.store (k := 0) (cs := [.int .i64 x68.op, .int .i64 x68.d, .int .i64 x68.a, .int .i64 x68.b, .int .i64 x68.imm, v79, .int .i64 x68.what, .bool x68.volatile, .bool x68.final]) (c' := [.int .i64 x68.op, .int .i64 x68.d, .int .i64 x68.a, .int .i64 x68.b, .int .i64 x68.imm, v79, .int .i64 x68.what, .bool x68.volatile, .bool x68.final]) ow84 rfl rfl rfl (.inl rfl) rfl (L 0 rfl rfl) (L 1 rfl rfl) ti44 (by simp [topV]) rfl rfl (nr rfl) (by have q0 := f80.one; simp only [List.all_cons, List.all_nil, q0]; rfl) rfl nd (fun V86 le87 ow88 => ?_)
        refine U.done (nr rfl) ?_
        refine WP.usreg rfl ?_
        refine U.k rfl rfl (.inl rfl) (S.loadB rfl (L 4 rfl rfl) Try.underlying38 rfl ti38 (ow88.own (k := 1) rfl).get rfl) nd ?_
        refine U.k rfl rfl (.inl rfl) (S.loadB rfl (L 1 rfl rfl) Try.underlying44 rfl ti44 (ow88.own (k := 0) rfl).get rfl) nd ?_
        have f89 := f2.up (((le5.trans le59).trans le83).trans le87)
        have f90 := f80.up (((le5.trans le59).trans le83).trans le87)
        obtain ⟨x91, hx92, h93⟩ := bindS h70
        refine O.call (V := V86) rfl rfl (.inl rfl) rfl en21 (aC (L 1 rfl rfl) (aC (L 0 rfl rfl) aN)) (wk_ref08_ins V86 _ p0 x68 v1 v79 f89 f90 ow88 _ hx92) (fun _ _ _ _ => nd) (fun v94 V95 le96 hp97 => ?_)
        obtain ⟨rfl, ow98⟩ := hp97
        refine U.p rfl rfl (.inl rfl) (S.not rfl (L 0 rfl rfl)) ?_
        refine U.p rfl rfl (.inl rfl) (S.move rfl (L 0 rfl rfl)) ?_
        obtain ⟨y99, hy100, h101⟩ := bindS h93
        refine U.joinX 16 (fun e H => ∃ (u102 u103 u104 u105 u106 u107 u108 u109 u110 u111 : Value), ∃ V' : Vw, H = V'.H ∧ V95.le V' ∧ e = [(63, .bool y99), (62, u102), (61, u103), (60, u104), (59, u105), (58, u106), (57, u107), (56, u108), (55, u109), (54, u110), (53, u111)] ∧ Ow V' (.pt b81 (.cells 9 [.int .i64 x68.op, .int .i64 x68.d, .int .i64 x68.a, .int .i64 x68.b, .int .i64 x68.imm, v79, .int .i64 x68.what, .bool x68.volatile, .bool x68.final]) :: .pt b3 (.cells 0 [.string p0.name, .int .i64 p0.params, .int .i64 p0.regs, v1]) :: Rs)) ?_ ?_
        ·rintro _ _ ⟨u102, u103, u104, u105, u106, u107, u108, u109, u110, u111, V112, rfl, le113, rfl, ow114⟩
         refine U.done (nr rfl) ?_
         refine WP.cond _ (L 0 rfl rfl) rfl (fun c115 => ?_) (fun c115 => ?_)
         ·have h116 := ifT c115 h101
          refine WP.usreg rfl ?_
          refine U.p rfl rfl (.inl rfl) (S.assign rfl K) ?_
          refine U.done (nr rfl) ?_
          refine WP.ret ?_
          refine blkR (sqR (sqR (blkR (sqR ?_))))
          have h117 := exitS h116 e63
          refine fin.slot (.inr rfl) rfl (L 0 rfl rfl) ⟨V112, rfl, (((((le5.trans le59).trans le83).trans le87).trans le96).trans le113), ?_⟩
          have ow118 := ow114.drop 0 rfl
          have ow119 := ow118.drop 0 rfl
          have e120 := Option.some.inj h117
          subst e120
          exact ⟨rfl, ow119⟩
         ·have h121 := ifF c115 h101
          refine WP.skip ?_
          refine blkN (sqN ?_)
          refine WP.ureg rfl ?_
          refine U.p rfl rfl (.inl rfl) (S.add rfl (L 23 rfl rfl) K) ?_
          refine U.p rfl rfl (.inl rfl) (S.move rfl (L 0 rfl rfl)) ?_
          refine U.done (nr rfl) ?_
          refine sqN ?_
          have ow122 := ow114.drop 0 rfl
          exact ⟨_, V112, rfl, ⟨m61, Nat.lt_succ_self _, w64 (x55 + 1), rfl, ((((le59.trans le83).trans le87).trans le96).trans le113), ow122, backS h121 e63⟩, (allCons (L 22 rfl rfl) (allCons (L 23 rfl rfl) (allCons (L 24 rfl rfl) (allCons (L 0 rfl rfl) allNil))))⟩
        ·intro kk
         refine bcase (b := !x91) (fun g123 => ?_) (fun g123 => ?_)
         ·have h124 := ifT g123 hy100
          have k125 : x91 = false := nT g123
          refine U.x rfl rfl rfl rfl ((L 0 rfl rfl).trans (cB g123)) (by decide) ?_
          refine U.x rfl rfl rfl rfl ((L 1 rfl rfl).trans (cB g123)) (by decide) ?_
          refine U.x rfl rfl rfl rfl ((L 2 rfl rfl).trans (cB g123)) (by decide) ?_
          refine U.x rfl rfl rfl rfl ((L 3 rfl rfl).trans (cB g123)) (by decide) ?_
          refine U.z rfl rfl rfl rfl (L 0 rfl rfl) ?_
          refine U.z rfl rfl rfl rfl (L 1 rfl rfl) ?_
          refine U.z rfl rfl rfl rfl (L 2 rfl rfl) ?_
          refine U.z rfl rfl rfl rfl (L 3 rfl rfl) ?_
          refine U.z rfl rfl rfl rfl (L 4 rfl rfl) ?_
          refine U.x rfl rfl rfl rfl ((L 9 rfl rfl).trans (cB g123)) (by decide) ?_
          refine U.p rfl rfl (.inl rfl) (S.pickT rfl ((L 10 rfl rfl).trans (cB g123)) K) ?_
          have e126 := Option.some.inj h124
          subst e126
          exact kk [(63, .bool true), (62, .tuple #[]), (61, .tuple #[]), (60, .tuple #[]), (59, .tuple #[]), (58, .tuple #[]), (57, .tuple #[]), (56, .tuple #[]), (55, .tuple #[]), (54, .tuple #[]), (53, .tuple #[])] _ ⟨.tuple #[], .tuple #[], .tuple #[], .tuple #[], .tuple #[], .tuple #[], .tuple #[], .tuple #[], .tuple #[], .tuple #[], V95, rfl, (.refl _), rfl, ow98⟩
         ·have h127 := ifF g123 hy100
          have k128 : x91 = true := nF g123
          refine U.p (v := .pointer (some ⟨b81, 0, none⟩)) rfl rfl (.inr ⟨_, _, _, rfl, rfl, ((L 0 rfl rfl).trans (cB g123))⟩) (S.fieldAddr rfl (L 5 rfl rfl) Try.underlying44 rfl ti3 rfl rfl) ?_
          refine U.k rfl rfl (.inr ⟨_, _, _, rfl, rfl, ((L 1 rfl rfl).trans (cB g123))⟩) (S.load rfl (L 0 rfl rfl) Try.underlying3 rfl ((ow98.own (k := 0) rfl).cell rfl)) nd ?_
          refine U.p rfl rfl (.inr ⟨_, _, _, rfl, rfl, ((L 2 rfl rfl).trans (cB g123))⟩) (S.eqlI rfl (L 0 rfl rfl) K) ?_
          refine U.p rfl rfl (.inr ⟨_, _, _, rfl, rfl, ((L 3 rfl rfl).trans (cB g123))⟩) (S.move rfl (L 0 rfl rfl)) ?_
          obtain ⟨y129, hy130, h131⟩ := bindS h127
          refine U.joinX 15 (fun e H => ∃ (u132 u133 u134 u135 u136 : Value), ∃ V' : Vw, H = V'.H ∧ V95.le V' ∧ e = [(62, .bool y129), (61, u132), (60, u133), (59, u134), (58, u135), (57, u136)] ∧ Ow V' (.pt b81 (.cells 9 [.int .i64 x68.op, .int .i64 x68.d, .int .i64 x68.a, .int .i64 x68.b, .int .i64 x68.imm, v79, .int .i64 x68.what, .bool x68.volatile, .bool x68.final]) :: .pt b3 (.cells 0 [.string p0.name, .int .i64 p0.params, .int .i64 p0.regs, v1]) :: Rs)) ?_ ?_
          ·rintro _ _ ⟨u132, u133, u134, u135, u136, V137, rfl, le138, rfl, ow139⟩
           refine U.p rfl rfl (.inl rfl) (S.pickF rfl ((L 10 rfl rfl).trans (cB g123)) (L 0 rfl rfl)) ?_
           have e140 := Option.some.inj h131
           subst e140
           exact kk [(63, .bool y129), (62, .bool y129), (61, u132), (60, u133), (59, u134), (58, u135), (57, u136), (56, .bool (decide (x68.op = 11))), (55, .bool (decide (x68.op = 11))), (54, .int .i64 x68.op), (53, .pointer (some ⟨b81, 0, none⟩))] _ ⟨.bool y129, u132, u133, u134, u135, u136, .bool (decide (x68.op = 11)), .bool (decide (x68.op = 11)), .int .i64 x68.op, .pointer (some ⟨b81, 0, none⟩), V137, rfl, le138, rfl, ow139⟩
          ·intro kk
           refine bcase (b := decide (x68.op = 11)) (fun g141 => ?_) (fun g141 => ?_)
           ·have h142 := ifT g141 hy130
            refine U.k rfl rfl (.inr ⟨_, _, _, rfl, rfl, ((L 0 rfl rfl).trans (cB g141))⟩) (S.loadB rfl (L 13 rfl rfl) Try.underlying38 rfl ti38 (ow98.own (k := 1) rfl).get rfl) nd ?_
            refine U.p (v := .pointer (some ⟨b81, 4, none⟩)) rfl rfl (.inr ⟨_, _, _, rfl, rfl, ((L 1 rfl rfl).trans (cB g141))⟩) (S.fieldAddr rfl (L 10 rfl rfl) Try.underlying44 rfl ti3 rfl rfl) ?_
            refine U.k rfl rfl (.inr ⟨_, _, _, rfl, rfl, ((L 2 rfl rfl).trans (cB g141))⟩) (S.load rfl (L 0 rfl rfl) Try.underlying3 rfl ((ow98.own (k := 0) rfl).cell rfl)) nd ?_
            have f143 := f89.up le96
            obtain ⟨x144, hx145, h146⟩ := bindS h142
            refine O.call (V := V95) rfl rfl (.inr ⟨_, _, _, rfl, rfl, ((L 3 rfl rfl).trans (cB g141))⟩) rfl en22 (aC (L 2 rfl rfl) (aC (L 0 rfl rfl) aN)) (wk_ref08_count V95 _ p0 x68.imm v1 f143 ow98 _ hx145) (fun _ _ _ _ => nd) (fun v147 V148 le149 hp150 => ?_)
            obtain ⟨rfl, ow151⟩ := hp150
            refine U.p rfl rfl (.inr ⟨_, _, _, rfl, rfl, ((L 4 rfl rfl).trans (cB g141))⟩) (S.neqI rfl (L 0 rfl rfl) K) ?_
            refine U.p rfl rfl (.inr ⟨_, _, _, rfl, rfl, ((L 9 rfl rfl).trans (cB g123))⟩) (S.pickT rfl ((L 5 rfl rfl).trans (cB g141)) (L 0 rfl rfl)) ?_
            have e152 := Option.some.inj h146
            subst e152
            exact kk [(62, .bool (decide (x144 ≠ 1))), (61, .bool (decide (x144 ≠ 1))), (60, .int .i64 x144), (59, .int .i64 x68.imm), (58, .pointer (some ⟨b81, 4, none⟩)), (57, .agg #[.string p0.name, .int .i64 p0.params, .int .i64 p0.regs, v1])] _ ⟨.bool (decide (x144 ≠ 1)), .int .i64 x144, .int .i64 x68.imm, .pointer (some ⟨b81, 4, none⟩), .agg #[.string p0.name, .int .i64 p0.params, .int .i64 p0.regs, v1], V148, rfl, le149, rfl, ow151⟩
           ·have h153 := ifF g141 hy130
            refine U.x rfl rfl rfl rfl ((L 0 rfl rfl).trans (cB g141)) (by decide) ?_
            refine U.x rfl rfl rfl rfl ((L 1 rfl rfl).trans (cB g141)) (by decide) ?_
            refine U.x rfl rfl rfl rfl ((L 2 rfl rfl).trans (cB g141)) (by decide) ?_
            refine U.x rfl rfl rfl rfl ((L 3 rfl rfl).trans (cB g141)) (by decide) ?_
            refine U.x rfl rfl rfl rfl ((L 4 rfl rfl).trans (cB g141)) (by decide) ?_
            refine U.p rfl rfl (.inr ⟨_, _, _, rfl, rfl, ((L 9 rfl rfl).trans (cB g123))⟩) (S.pickF rfl ((L 5 rfl rfl).trans (cB g141)) K) ?_
            have e154 := Option.some.inj h153
            subst e154
            exact kk [(62, .bool false), (61, .tuple #[]), (60, .tuple #[]), (59, .tuple #[]), (58, .tuple #[]), (57, .tuple #[])] _ ⟨.tuple #[], .tuple #[], .tuple #[], .tuple #[], .tuple #[], V95, rfl, (.refl _), rfl, ow98⟩
       ·have h155 := ifF c66 h65
        refine WP.exit ?_
        refine sqE (sqE (blkE (sqN ?_)))
        have h156 := exitS h155 e63
        refine WP.usreg rfl ?_
        refine U.p rfl rfl (.inl rfl) (S.assign rfl K) ?_
        refine U.done (nr rfl) ?_
        refine WP.ret ?_
        refine fin.slot (.inr rfl) rfl (L 0 rfl rfl) ⟨V58, rfl, (le5.trans le59), ?_⟩
        have ow157 := ow60.drop 0 rfl
        have e158 := Option.some.inj h156
        subst e158
        exact ⟨rfl, ow157⟩
     ·intro kk
      refine bcase (b := (decide (x27.op ≠ 12)) && (decide (x27.op ≠ 15))) (fun g159 => ?_) (fun g159 => ?_)
      ·skip
       refine U.p rfl rfl (.inr ⟨_, _, _, rfl, rfl, ((L 0 rfl rfl).trans (cB g159))⟩) (S.move rfl (L 7 rfl rfl)) ?_
       refine U.p rfl rfl (.inr ⟨_, _, _, rfl, rfl, ((L 1 rfl rfl).trans (cB g159))⟩) (S.neqI rfl (L 0 rfl rfl) K) ?_
       refine U.p rfl rfl (.inl rfl) (S.pickT rfl ((L 2 rfl rfl).trans (cB g159)) (L 0 rfl rfl)) ?_
       exact kk [(40, .bool (decide (x27.op ≠ 16))), (39, .bool (decide (x27.op ≠ 16))), (38, .int .i64 x27.op)] _ ⟨.bool (decide (x27.op ≠ 16)), .int .i64 x27.op, rfl, (by rw [g159, Bool.true_and])⟩
      ·skip
       refine U.x rfl rfl rfl rfl ((L 0 rfl rfl).trans (cB g159)) (by decide) ?_
       refine U.x rfl rfl rfl rfl ((L 1 rfl rfl).trans (cB g159)) (by decide) ?_
       refine U.p rfl rfl (.inl rfl) (S.pickF rfl ((L 2 rfl rfl).trans (cB g159)) K) ?_
       exact kk [(40, .bool false), (39, .tuple #[]), (38, .tuple #[])] _ ⟨.tuple #[], .tuple #[], rfl, (by rw [g159, Bool.false_and])⟩
    ·intro kk
     refine bcase (b := decide (x27.op ≠ 12)) (fun g160 => ?_) (fun g160 => ?_)
     ·skip
      refine U.p rfl rfl (.inr ⟨_, _, _, rfl, rfl, ((L 0 rfl rfl).trans (cB g160))⟩) (S.move rfl (L 3 rfl rfl)) ?_
      refine U.p rfl rfl (.inr ⟨_, _, _, rfl, rfl, ((L 1 rfl rfl).trans (cB g160))⟩) (S.neqI rfl (L 0 rfl rfl) K) ?_
      refine U.p rfl rfl (.inl rfl) (S.pickT rfl ((L 2 rfl rfl).trans (cB g160)) (L 0 rfl rfl)) ?_
      exact kk [(36, .bool (decide (x27.op ≠ 15))), (35, .bool (decide (x27.op ≠ 15))), (34, .int .i64 x27.op)] _ ⟨.bool (decide (x27.op ≠ 15)), .int .i64 x27.op, rfl, (by rw [g160, Bool.true_and])⟩
     ·skip
      refine U.x rfl rfl rfl rfl ((L 0 rfl rfl).trans (cB g160)) (by decide) ?_
      refine U.x rfl rfl rfl rfl ((L 1 rfl rfl).trans (cB g160)) (by decide) ?_
      refine U.p rfl rfl (.inl rfl) (S.pickF rfl ((L 2 rfl rfl).trans (cB g160)) K) ?_
      exact kk [(36, .bool false), (35, .tuple #[]), (34, .tuple #[])] _ ⟨.tuple #[], .tuple #[], rfl, (by rw [g160, Bool.false_and])⟩
  ·intro kk
   refine bcase (b := (decide ((p0.code.length : Int) = 0)) || (decide (p0.params < 0))) (fun g161 => ?_) (fun g161 => ?_)
   ·skip
    refine U.x rfl rfl rfl rfl ((L 0 rfl rfl).trans (cB g161)) (by decide) ?_
    refine U.x rfl rfl rfl rfl ((L 1 rfl rfl).trans (cB g161)) (by decide) ?_
    refine U.x rfl rfl rfl rfl ((L 2 rfl rfl).trans (cB g161)) (by decide) ?_
    refine U.x rfl rfl rfl rfl ((L 3 rfl rfl).trans (cB g161)) (by decide) ?_
    refine U.x rfl rfl rfl rfl ((L 4 rfl rfl).trans (cB g161)) (by decide) ?_
    refine U.p rfl rfl (.inl rfl) (S.pickT rfl ((L 5 rfl rfl).trans (cB g161)) K) ?_
    exact kk [(23, .bool true), (22, .tuple #[]), (21, .tuple #[]), (20, .tuple #[]), (19, .tuple #[]), (18, .tuple #[])] _ ⟨.tuple #[], .tuple #[], .tuple #[], .tuple #[], .tuple #[], rfl, (by rw [g161, Bool.true_or])⟩
   ·skip
    refine U.p (v := .pointer (some ⟨b3, 1, none⟩)) rfl rfl (.inr ⟨_, _, _, rfl, rfl, ((L 0 rfl rfl).trans (cB g161))⟩) (S.fieldAddr rfl (L 13 rfl rfl) Try.underlying38 rfl ti3 rfl rfl) ?_
    refine U.k rfl rfl (.inr ⟨_, _, _, rfl, rfl, ((L 1 rfl rfl).trans (cB g161))⟩) (S.load rfl (L 0 rfl rfl) Try.underlying3 rfl ((ow6.own (k := 0) rfl).cell rfl)) nd ?_
    refine U.p (v := .pointer (some ⟨b3, 2, none⟩)) rfl rfl (.inr ⟨_, _, _, rfl, rfl, ((L 2 rfl rfl).trans (cB g161))⟩) (S.fieldAddr rfl (L 15 rfl rfl) Try.underlying38 rfl ti3 rfl rfl) ?_
    refine U.k rfl rfl (.inr ⟨_, _, _, rfl, rfl, ((L 3 rfl rfl).trans (cB g161))⟩) (S.load rfl (L 0 rfl rfl) Try.underlying3 rfl ((ow6.own (k := 0) rfl).cell rfl)) nd ?_
    refine U.p rfl rfl (.inr ⟨_, _, _, rfl, rfl, ((L 4 rfl rfl).trans (cB g161))⟩) (S.gtr rfl (L 2 rfl rfl) (L 0 rfl rfl)) ?_
    refine U.p rfl rfl (.inl rfl) (S.pickF rfl ((L 5 rfl rfl).trans (cB g161)) (L 0 rfl rfl)) ?_
    exact kk [(23, .bool (decide (p0.regs < p0.params))), (22, .bool (decide (p0.regs < p0.params))), (21, .int .i64 p0.regs), (20, .pointer (some ⟨b3, 2, none⟩)), (19, .int .i64 p0.params), (18, .pointer (some ⟨b3, 1, none⟩))] _ ⟨.bool (decide (p0.regs < p0.params)), .int .i64 p0.regs, .pointer (some ⟨b3, 2, none⟩), .int .i64 p0.params, .pointer (some ⟨b3, 1, none⟩), rfl, (by rw [g161, Bool.false_or])⟩
 ·intro kk
  refine bcase (b := decide ((p0.code.length : Int) = 0)) (fun g162 => ?_) (fun g162 => ?_)
  ·skip
   refine U.x rfl rfl rfl rfl ((L 0 rfl rfl).trans (cB g162)) (by decide) ?_
   refine U.x rfl rfl rfl rfl ((L 1 rfl rfl).trans (cB g162)) (by decide) ?_
   refine U.x rfl rfl rfl rfl ((L 2 rfl rfl).trans (cB g162)) (by decide) ?_
   refine U.p rfl rfl (.inl rfl) (S.pickT rfl ((L 3 rfl rfl).trans (cB g162)) K) ?_
   exact kk [(16, .bool true), (15, .tuple #[]), (14, .tuple #[]), (13, .tuple #[])] _ ⟨.tuple #[], .tuple #[], .tuple #[], rfl, (by rw [g162, Bool.true_or])⟩
  ·skip
   refine U.p (v := .pointer (some ⟨b3, 1, none⟩)) rfl rfl (.inr ⟨_, _, _, rfl, rfl, ((L 0 rfl rfl).trans (cB g162))⟩) (S.fieldAddr rfl (L 8 rfl rfl) Try.underlying38 rfl ti3 rfl rfl) ?_
   refine U.k rfl rfl (.inr ⟨_, _, _, rfl, rfl, ((L 1 rfl rfl).trans (cB g162))⟩) (S.load rfl (L 0 rfl rfl) Try.underlying3 rfl ((ow6.own (k := 0) rfl).cell rfl)) nd ?_
   refine U.p rfl rfl (.inr ⟨_, _, _, rfl, rfl, ((L 2 rfl rfl).trans (cB g162))⟩) (S.lss rfl (L 0 rfl rfl) K) ?_
   refine U.p rfl rfl (.inl rfl) (S.pickF rfl ((L 3 rfl rfl).trans (cB g162)) (L 0 rfl rfl)) ?_
   exact kk [(16, .bool (decide (p0.params < 0))), (15, .bool (decide (p0.params < 0))), (14, .int .i64 p0.params), (13, .pointer (some ⟨b3, 1, none⟩))] _ ⟨.bool (decide (p0.params < 0)), .int .i64 p0.params, .pointer (some ⟨b3, 1, none⟩), rfl, (by rw [g162, Bool.false_or])⟩
theorem wk_ref08_Whole (V : Vw) (Rs : List At) (p0 : TModule) (v1 : Value) (v3 : Value) (f2 : Fz RT_TFunc V v1 p0.funcs) (f4 : Fz (RT.int .i64) V v3 p0.threads) (ow : Ow V (Rs)) (r : Bool) (h : ref08_Whole p0 = some r) : ∃ v V', Cl Try.prog 0 9 #[.agg #[v1, v3]] V.H v V'.H ∧ V.le V' ∧ (v = .bool r ∧ Ow V' (Rs)) := by
 refine Ct.of (Nat.zero_le _) Try.func9 rfl (nr rfl) ?_
 unfold ref08_Whole at h
 refine WP.usreg rfl ?_
 refine O.box ow rfl rfl (.inl rfl) rfl (L 0 rfl rfl) (by simp [topV]) rfl nd (fun b5 V6 le7 ow8 => ?_)
 refine U.p rfl rfl (.inl rfl) (S.assign rfl K) ?_
 refine U.done (nr rfl) ?_
 refine WP.seq ?_
 refine WP.usreg rfl ?_
 refine U.p (v := .pointer (some ⟨b5, 0, none⟩)) rfl rfl (.inl rfl) (S.fieldAddr rfl (L 1 rfl rfl) Try.underlying25 rfl ti22 rfl rfl) ?_
 refine U.k rfl rfl (.inl rfl) (S.load rfl (L 0 rfl rfl) Try.underlying22 rfl ((ow8.own (k := 0) rfl).cell rfl)) nd ?_
 refine U.p rfl rfl (.inl rfl) (f2.1.len rfl (L 0 rfl rfl) Try.underlying22) ?_
 refine U.p rfl rfl (.inl rfl) (S.move rfl K) ?_
 refine U.done (nr rfl) ?_
 refine WP.blk ?_
 unfold ref08_Whole_l1 at h
 obtain ⟨n12, hn11⟩ := loopO_some.1 h
 refine WP.loopI2 (fun n l V' => ∃ (x10 : Int), l = [(1, .pointer (some ⟨b5, 0, none⟩)), (10, v1), (11, .int .i64 (p0.funcs.length : Int)), (12, .int .i64 x10)] ∧ V6.le V' ∧ Ow V' (.pt b5 (.cells 0 [v1, v3]) :: Rs) ∧ itO (fun s => ref08_Whole_l1b p0 s) n x10 = some r) n12 _ ⟨0, rfl, .refl _, ow8, hn11⟩ (allCons (L 5 rfl rfl) (allCons (L 2 rfl rfl) (allCons (L 1 rfl rfl) (allCons (L 0 rfl rfl) allNil)))) ?_
 rintro _ _ V13 ⟨x10, rfl, le14, ow15, h19⟩
 obtain ⟨m16, q17, rfl, h20, e18⟩ := itS h19
 replace h20 : ref08_Whole_l1b p0 x10 = some q17 := h20
 unfold ref08_Whole_l1b at h20
 refine WP.usreg rfl ?_
 refine U.p rfl rfl (.inl rfl) (S.lss rfl (L 3 rfl rfl) (L 2 rfl rfl)) ?_
 refine U.done (nr rfl) ?_
 refine WP.seq ?_
 refine WP.cond _ (L 0 rfl rfl) rfl (fun c21 => ?_) (fun c21 => ?_)
 ·have h22 := ifT c21 h20
  refine WP.skip ?_
  refine sqN ?_
  refine WP.seq ?_
  refine WP.blk ?_
  refine WP.usreg rfl ?_
  obtain ⟨x23, hx24, h25⟩ := bindS h22
  obtain ⟨b26, o27, c28, cs29, hv30, hf31, hr32, hc33⟩ := f2.at hx24
  obtain ⟨v34, rfl, f35⟩ := hr32
  refine U.p rfl rfl (.inl rfl) (S.index rfl ((L 2 rfl rfl).trans hv30) (L 4 rfl rfl) Try.underlying22 ti38 (ix_ge hx24) (ix_lt hx24)) ?_
  refine U.k rfl rfl (.inl rfl) (S.loadN (cs := [.string x23.name, .int .i64 x23.params, .int .i64 x23.regs, v34]) rfl (L 0 rfl rfl) Try.underlying38 rfl ti38 rfl (fun j v hj => (le7.trans le14).cell hf31 (hc33 j v hj))) nd ?_
  refine O.alloc ow15 rfl rfl (.inl rfl) rfl ti38 rfl rfl nd (fun b36 V37 le38 ow39 => ?_)
  refine O.store (k := 0) (cs := [.string x23.name, .int .i64 x23.params, .int .i64 x23.regs, v34]) (c' := [.string x23.name, .int .i64 x23.params, .int .i64 x23.regs, v34]) ow39 rfl rfl rfl (.inl rfl) rfl (L 0 rfl rfl) (L 1 rfl rfl) ti38 (by simp [topV]) rfl rfl (nr rfl) (by have q0 := f35.one; simp only [List.all_cons, List.all_nil, q0]; rfl) rfl nd (fun V41 le42 ow43 => ?_)
  refine U.done (nr rfl) ?_
  refine WP.seq ?_
  refine WP.usreg rfl ?_
  refine U.k rfl rfl (.inl rfl) (S.loadB rfl (L 0 rfl rfl) Try.underlying38 rfl ti38 (ow43.own (k := 0) rfl).get rfl) nd ?_
  have f44 := f35.up (((le7.trans le14).trans le38).trans le42)
  obtain ⟨x45, hx46, h47⟩ := bindS h25
  refine O.call (V := V41) rfl rfl (.inl rfl) rfl en17 (aC (L 0 rfl rfl) aN) (wk_ref08_Good V41 _ x23 v34 f44 ow43 _ hx46) (fun _ _ _ _ => nd) (fun v48 V49 le50 hp51 => ?_)
  obtain ⟨rfl, ow52⟩ := hp51
  refine U.p rfl rfl (.inl rfl) (S.not rfl (L 0 rfl rfl)) ?_
  refine U.done (nr rfl) ?_
  refine WP.cond _ (L 0 rfl rfl) rfl (fun c53 => ?_) (fun c53 => ?_)
  ·have h54 := ifT c53 h47
   have k55 : x45 = false := nT c53
   refine WP.usreg rfl ?_
   refine U.p rfl rfl (.inl rfl) (S.assign rfl K) ?_
   refine U.done (nr rfl) ?_
   refine WP.ret ?_
   refine sqR (blkR (sqR (sqR (blkR (sqR ?_)))))
   have h56 := exitS h54 e18
   refine fin.slot (.inr rfl) rfl (L 0 rfl rfl) ⟨V49, rfl, ((((le7.trans le14).trans le38).trans le42).trans le50), ?_⟩
   have ow57 := ow52.drop 0 rfl
   have ow58 := ow57.drop 0 rfl
   have e59 := Option.some.inj h56
   subst e59
   exact ⟨rfl, ow58⟩
  ·have h60 := ifF c53 h47
   have k61 : x45 = true := nF c53
   refine WP.skip ?_
   refine sqN ?_
   refine WP.usreg rfl ?_
   refine U.p (v := .pointer (some ⟨b36, 3, none⟩)) rfl rfl (.inl rfl) (S.fieldAddr rfl (L 3 rfl rfl) Try.underlying38 rfl ti36 rfl rfl) ?_
   refine U.k rfl rfl (.inl rfl) (S.load rfl (L 0 rfl rfl) Try.underlying36 rfl ((ow52.own (k := 0) rfl).cell rfl)) nd ?_
   refine U.p rfl rfl (.inl rfl) (f44.1.len rfl (L 0 rfl rfl) Try.underlying36) ?_
   refine U.p rfl rfl (.inl rfl) (S.move rfl K) ?_
   refine U.done (nr rfl) ?_
   refine WP.blk ?_
   have ow63 := ow52.drop 0 rfl
   unfold ref08_Whole_l2 at h60
   obtain ⟨n65, hn64⟩ := loopO_some.1 h60
   refine WP.loopI2 (fun n l V' => ∃ (x62 : Int), l = [(1, .pointer (some ⟨b5, 0, none⟩)), (10, v1), (11, .int .i64 (p0.funcs.length : Int)), (12, .int .i64 x10), (20, v34), (21, .int .i64 (x23.code.length : Int)), (22, .int .i64 x62)] ∧ V49.le V' ∧ Ow V' (.pt b5 (.cells 0 [v1, v3]) :: Rs) ∧ itO (fun s => ref08_Whole_l2b p0 x10 x23 s) n x62 = some q17) n65 _ ⟨0, rfl, .refl _, ow63, hn64⟩ (allCons (L 11 rfl rfl) (allCons (L 12 rfl rfl) (allCons (L 13 rfl rfl) (allCons (L 14 rfl rfl) (allCons (L 2 rfl rfl) (allCons (L 1 rfl rfl) (allCons (L 0 rfl rfl) allNil))))))) ?_
   rintro _ _ V66 ⟨x62, rfl, le67, ow68, h72⟩
   obtain ⟨m69, q70, rfl, h73, e71⟩ := itS h72
   replace h73 : ref08_Whole_l2b p0 x10 x23 x62 = some q70 := h73
   unfold ref08_Whole_l2b at h73
   refine WP.usreg rfl ?_
   refine U.p rfl rfl (.inl rfl) (S.lss rfl (L 6 rfl rfl) (L 5 rfl rfl)) ?_
   refine U.done (nr rfl) ?_
   refine WP.seq ?_
   refine WP.cond _ (L 0 rfl rfl) rfl (fun c74 => ?_) (fun c74 => ?_)
   ·have h75 := ifT c74 h73
    refine WP.skip ?_
    refine sqN ?_
    refine WP.seq ?_
    refine WP.blk ?_
    refine WP.usreg rfl ?_
    obtain ⟨x76, hx77, h78⟩ := bindS h75
    obtain ⟨b79, o80, c81, cs82, hv83, hf84, hr85, hc86⟩ := f44.at hx77
    obtain ⟨v87, rfl, f88⟩ := hr85
    refine U.p rfl rfl (.inl rfl) (S.index rfl ((L 5 rfl rfl).trans hv83) (L 7 rfl rfl) Try.underlying36 ti44 (ix_ge hx77) (ix_lt hx77)) ?_
    refine U.k rfl rfl (.inl rfl) (S.loadN (cs := [.int .i64 x76.op, .int .i64 x76.d, .int .i64 x76.a, .int .i64 x76.b, .int .i64 x76.imm, v87, .int .i64 x76.what, .bool x76.volatile, .bool x76.final]) rfl (L 0 rfl rfl) Try.underlying44 rfl ti44 rfl (fun j v hj => (le50.trans le67).cell hf84 (hc86 j v hj))) nd ?_
    refine O.alloc ow68 rfl rfl (.inl rfl) rfl ti44 rfl rfl nd (fun b89 V90 le91 ow92 => ?_)
    refine O.store (k := 0) (cs := [.int .i64 x76.op, .int .i64 x76.d, .int .i64 x76.a, .int .i64 x76.b, .int .i64 x76.imm, v87, .int .i64 x76.what, .bool x76.volatile, .bool x76.final]) (c' := [.int .i64 x76.op, .int .i64 x76.d, .int .i64 x76.a, .int .i64 x76.b, .int .i64 x76.imm, v87, .int .i64 x76.what, .bool x76.volatile, .bool x76.final]) ow92 rfl rfl rfl (.inl rfl) rfl (L 0 rfl rfl) (L 1 rfl rfl) ti44 (by simp [topV]) rfl rfl (nr rfl) (by have q0 := f88.one; simp only [List.all_cons, List.all_nil, q0]; rfl) rfl nd (fun V94 le95 ow96 => ?_)
    refine U.done (nr rfl) ?_
    refine WP.seqI (fun l V' => ∃ (x97 : Bool), l = [(1, .pointer (some ⟨b5, 0, none⟩)), (10, v1), (11, .int .i64 (p0.funcs.length : Int)), (12, .int .i64 x10), (20, v34), (21, .int .i64 (x23.code.length : Int)), (22, .int .i64 x62), (54, .bool x97)] ∧ V94.le V' ∧ Ow V' (.pt b5 (.cells 0 [v1, v3]) :: Rs) ∧ ref08_Whole_k1 x62 x97 = some q70) ?_ ?_
    ·rintro _ V98 ⟨x97, rfl, le99, ow100, h101⟩
     unfold ref08_Whole_k1 at h101
     refine WP.cond _ (L 7 rfl rfl) rfl (fun c102 => ?_) (fun c102 => ?_)
     ·have h103 := ifT c102 h101
      refine WP.usreg rfl ?_
      refine U.p rfl rfl (.inl rfl) (S.assign rfl K) ?_
      refine U.done (nr rfl) ?_
      refine WP.ret ?_
      refine blkR (sqR (sqR (blkR (blkR (sqR (sqR (blkR (sqR ?_))))))))
      have h104 := exitS h103 e71
      have h105 := exitS h104 e18
      refine fin.slot (.inr rfl) rfl (L 0 rfl rfl) ⟨V98, rfl, ((((((((le7.trans le14).trans le38).trans le42).trans le50).trans le67).trans le91).trans le95).trans le99), ?_⟩
      have ow106 := ow100.drop 0 rfl
      have e107 := Option.some.inj h105
      subst e107
      exact ⟨rfl, ow106⟩
     ·have h108 := ifF c102 h101
      refine WP.skip ?_
      refine blkN (sqN ?_)
      refine WP.ureg rfl ?_
      refine U.p rfl rfl (.inl rfl) (S.add rfl (L 6 rfl rfl) K) ?_
      refine U.p rfl rfl (.inl rfl) (S.move rfl (L 0 rfl rfl)) ?_
      refine U.done (nr rfl) ?_
      refine sqN ?_
      exact ⟨_, V98, rfl, ⟨m69, Nat.lt_succ_self _, w64 (x62 + 1), rfl, (((le67.trans le91).trans le95).trans le99), ow100, backS h108 e71⟩, (allCons (L 2 rfl rfl) (allCons (L 3 rfl rfl) (allCons (L 4 rfl rfl) (allCons (L 5 rfl rfl) (allCons (L 6 rfl rfl) (allCons (L 7 rfl rfl) (allCons (L 0 rfl rfl) allNil)))))))⟩
    ·skip
     refine WP.udreg rfl rfl rfl ?_
     refine U.p (v := .pointer (some ⟨b89, 0, none⟩)) rfl rfl (.inl rfl) (S.fieldAddr rfl (L 0 rfl rfl) Try.underlying44 rfl ti3 rfl rfl) ?_
     refine U.k rfl rfl (.inl rfl) (S.load rfl (L 0 rfl rfl) Try.underlying3 rfl ((ow96.own (k := 0) rfl).cell rfl)) (fun _ => (okH.nil (fun r h => by cases h; exact (ow96.own (k := 0) rfl).lt))) ?_
     refine U.p rfl rfl (.inl rfl) (S.eqlI rfl (L 0 rfl rfl) K) ?_
     refine U.p rfl rfl (.inl rfl) (S.move rfl (L 0 rfl rfl)) ?_
     refine bcase (b := decide (x76.op = 14)) (fun g109 => ?_) (fun g109 => ?_)
     ·have h110 := ifT g109 h78
      refine U.p (v := .pointer (some ⟨b89, 4, none⟩)) rfl rfl (.inr ⟨_, _, _, rfl, rfl, ((L 0 rfl rfl).trans (cB g109))⟩) (S.fieldAddr rfl (L 4 rfl rfl) Try.underlying44 rfl ti3 rfl rfl) ?_
      refine U.k rfl rfl (.inr ⟨_, _, _, rfl, rfl, ((L 1 rfl rfl).trans (cB g109))⟩) (S.load rfl (L 0 rfl rfl) Try.underlying3 rfl ((ow96.own (k := 0) rfl).cell rfl)) (fun _ => (okH.cons trivial (okH.nil (fun r h => by cases h; exact (ow96.own (k := 0) rfl).lt)))) ?_
      refine U.p rfl rfl (.inr ⟨_, _, _, rfl, rfl, ((L 2 rfl rfl).trans (cB g109))⟩) (S.lss rfl (L 0 rfl rfl) K) ?_
      refine U.p rfl rfl (.inr ⟨_, _, _, rfl, rfl, ((L 3 rfl rfl).trans (cB g109))⟩) (S.move rfl (L 0 rfl rfl)) ?_
      refine bcase (b := decide (x76.imm < 0)) (fun g111 => ?_) (fun g111 => ?_)
      ·have h112 := ifT g111 h110
       refine U.x rfl rfl rfl rfl ((L 0 rfl rfl).trans (cB g111)) (by decide) ?_
       refine U.x rfl rfl rfl rfl ((L 1 rfl rfl).trans (cB g111)) (by decide) ?_
       refine U.x rfl rfl rfl rfl ((L 2 rfl rfl).trans (cB g111)) (by decide) ?_
       refine U.x rfl rfl rfl rfl ((L 3 rfl rfl).trans (cB g111)) (by decide) ?_
       refine U.x rfl rfl rfl rfl ((L 4 rfl rfl).trans (cB g111)) (by decide) ?_
       refine U.x rfl rfl rfl rfl ((L 5 rfl rfl).trans (cB g111)) (by decide) ?_
       refine U.p rfl rfl (.inr ⟨_, _, _, rfl, rfl, ((L 10 rfl rfl).trans (cB g109))⟩) (S.pickT rfl ((L 6 rfl rfl).trans (cB g111)) K) ?_
       refine U.p rfl rfl (.inr ⟨_, _, _, rfl, rfl, ((L 11 rfl rfl).trans (cB g109))⟩) (S.move rfl (L 0 rfl rfl)) ?_
       refine U.x rfl rfl rfl rfl (L 0 rfl rfl) (by decide) ?_
       refine U.x rfl rfl rfl rfl (L 1 rfl rfl) (by decide) ?_
       refine U.x rfl rfl rfl rfl (L 2 rfl rfl) (by decide) ?_
       refine U.x rfl rfl rfl rfl (L 3 rfl rfl) (by decide) ?_
       refine U.x rfl rfl rfl rfl (L 4 rfl rfl) (by decide) ?_
       refine U.x rfl rfl rfl rfl (L 5 rfl rfl) (by decide) ?_
       refine U.x rfl rfl rfl rfl (L 6 rfl rfl) (by decide) ?_
       refine U.x rfl rfl rfl rfl (L 7 rfl rfl) (by decide) ?_
       refine U.x rfl rfl rfl rfl (L 8 rfl rfl) (by decide) ?_
       refine U.x rfl rfl rfl rfl (L 9 rfl rfl) (by decide) ?_
       refine U.x rfl rfl rfl rfl (L 10 rfl rfl) (by decide) ?_
       refine U.p rfl rfl (.inr ⟨_, _, _, rfl, rfl, ((L 23 rfl rfl).trans (cB g109))⟩) (S.pickT rfl (L 11 rfl rfl) K) ?_
       refine U.p rfl rfl (.inl rfl) (S.pickT rfl ((L 24 rfl rfl).trans (cB g109)) (L 0 rfl rfl)) ?_
       refine U.done (nr rfl) ?_
       refine sqN ?_
       have ow113 := ow96.drop 0 rfl
       exact ⟨_, V94, rfl, ⟨true, rfl, (.refl _), ow113, h112⟩, (allCons (L 33 rfl rfl) (allCons (L 34 rfl rfl) (allCons (L 35 rfl rfl) (allCons (L 36 rfl rfl) (allCons (L 37 rfl rfl) (allCons (L 38 rfl rfl) (allCons (L 39 rfl rfl) (allCons (L 0 rfl rfl) allNil))))))))⟩
      ·have h114 := ifF g111 h110
       refine U.p (v := .pointer (some ⟨b89, 4, none⟩)) rfl rfl (.inr ⟨_, _, _, rfl, rfl, ((L 0 rfl rfl).trans (cB g111))⟩) (S.fieldAddr rfl (L 8 rfl rfl) Try.underlying44 rfl ti3 rfl rfl) ?_
       refine U.k rfl rfl (.inr ⟨_, _, _, rfl, rfl, ((L 1 rfl rfl).trans (cB g111))⟩) (S.load rfl (L 0 rfl rfl) Try.underlying3 rfl ((ow96.own (k := 0) rfl).cell rfl)) (fun _ => (okH.cons trivial (okH.cons trivial (okH.nil (fun r h => by cases h; exact (ow96.own (k := 0) rfl).lt))))) ?_
       refine U.p (v := .pointer (some ⟨b5, 0, none⟩)) rfl rfl (.inr ⟨_, _, _, rfl, rfl, ((L 2 rfl rfl).trans (cB g111))⟩) (S.fieldAddr rfl (L 14 rfl rfl) Try.underlying25 rfl ti22 rfl rfl) ?_
       refine U.k rfl rfl (.inr ⟨_, _, _, rfl, rfl, ((L 3 rfl rfl).trans (cB g111))⟩) (S.load rfl (L 0 rfl rfl) Try.underlying22 rfl ((ow96.own (k := 1) rfl).cell rfl)) (fun _ => (okH.cons trivial (okH.cons trivial (okH.cons trivial (okH.nil (fun r h => by cases h; exact (ow96.own (k := 1) rfl).lt)))))) ?_
       refine U.p rfl rfl (.inr ⟨_, _, _, rfl, rfl, ((L 4 rfl rfl).trans (cB g111))⟩) (f2.1.len rfl (L 0 rfl rfl) Try.underlying22) ?_
       refine U.p rfl rfl (.inr ⟨_, _, _, rfl, rfl, ((L 5 rfl rfl).trans (cB g111))⟩) (S.geq rfl (L 3 rfl rfl) (L 0 rfl rfl)) ?_
       refine U.p rfl rfl (.inr ⟨_, _, _, rfl, rfl, ((L 10 rfl rfl).trans (cB g109))⟩) (S.pickF rfl ((L 6 rfl rfl).trans (cB g111)) (L 0 rfl rfl)) ?_
       refine U.p rfl rfl (.inr ⟨_, _, _, rfl, rfl, ((L 11 rfl rfl).trans (cB g109))⟩) (S.move rfl (L 0 rfl rfl)) ?_
       refine bcase (b := decide ((p0.funcs.length : Int) ≤ x76.imm)) (fun g115 => ?_) (fun g115 => ?_)
       ·have h116 := ifT g115 h114
        refine U.x rfl rfl rfl rfl ((L 0 rfl rfl).trans (cB g115)) (by decide) ?_
        refine U.x rfl rfl rfl rfl ((L 1 rfl rfl).trans (cB g115)) (by decide) ?_
        refine U.x rfl rfl rfl rfl ((L 2 rfl rfl).trans (cB g115)) (by decide) ?_
        refine U.x rfl rfl rfl rfl ((L 3 rfl rfl).trans (cB g115)) (by decide) ?_
        refine U.x rfl rfl rfl rfl ((L 4 rfl rfl).trans (cB g115)) (by decide) ?_
        refine U.x rfl rfl rfl rfl ((L 5 rfl rfl).trans (cB g115)) (by decide) ?_
        refine U.x rfl rfl rfl rfl ((L 6 rfl rfl).trans (cB g115)) (by decide) ?_
        refine U.x rfl rfl rfl rfl ((L 7 rfl rfl).trans (cB g115)) (by decide) ?_
        refine U.x rfl rfl rfl rfl ((L 8 rfl rfl).trans (cB g115)) (by decide) ?_
        refine U.x rfl rfl rfl rfl ((L 9 rfl rfl).trans (cB g115)) (by decide) ?_
        refine U.x rfl rfl rfl rfl ((L 10 rfl rfl).trans (cB g115)) (by decide) ?_
        refine U.p rfl rfl (.inr ⟨_, _, _, rfl, rfl, ((L 23 rfl rfl).trans (cB g109))⟩) (S.pickT rfl ((L 11 rfl rfl).trans (cB g115)) K) ?_
        refine U.p rfl rfl (.inl rfl) (S.pickT rfl ((L 24 rfl rfl).trans (cB g109)) (L 0 rfl rfl)) ?_
        refine U.done (nr rfl) ?_
        refine sqN ?_
        have ow117 := ow96.drop 0 rfl
        exact ⟨_, V94, rfl, ⟨true, rfl, (.refl _), ow117, h116⟩, (allCons (L 33 rfl rfl) (allCons (L 34 rfl rfl) (allCons (L 35 rfl rfl) (allCons (L 36 rfl rfl) (allCons (L 37 rfl rfl) (allCons (L 38 rfl rfl) (allCons (L 39 rfl rfl) (allCons (L 0 rfl rfl) allNil))))))))⟩
       ·have h118 := ifF g115 h114
        refine U.p (v := .pointer (some ⟨b89, 5, none⟩)) rfl rfl (.inr ⟨_, _, _, rfl, rfl, ((L 0 rfl rfl).trans (cB g115))⟩) (S.fieldAddr rfl (L 16 rfl rfl) Try.underlying44 rfl ti23 rfl rfl) ?_
        refine U.k rfl rfl (.inr ⟨_, _, _, rfl, rfl, ((L 1 rfl rfl).trans (cB g115))⟩) (S.load rfl (L 0 rfl rfl) Try.underlying23 rfl ((ow96.own (k := 0) rfl).cell rfl)) (fun _ => (okH.cons trivial (okH.cons trivial (okH.cons trivial (okH.cons trivial (okH.nil (fun r h => by cases h; exact (ow96.own (k := 0) rfl).lt))))))) ?_
        refine U.p rfl rfl (.inr ⟨_, _, _, rfl, rfl, ((L 2 rfl rfl).trans (cB g115))⟩) (f88.1.len rfl (L 0 rfl rfl) Try.underlying23) ?_
        refine U.p (v := .pointer (some ⟨b5, 0, none⟩)) rfl rfl (.inr ⟨_, _, _, rfl, rfl, ((L 3 rfl rfl).trans (cB g115))⟩) (S.fieldAddr rfl (L 23 rfl rfl) Try.underlying25 rfl ti22 rfl rfl) ?_
        refine U.k rfl rfl (.inr ⟨_, _, _, rfl, rfl, ((L 4 rfl rfl).trans (cB g115))⟩) (S.load rfl (L 0 rfl rfl) Try.underlying22 rfl ((ow96.own (k := 1) rfl).cell rfl)) (fun _ => (okH.cons trivial (okH.cons trivial (okH.cons trivial (okH.cons trivial (okH.cons trivial (okH.nil (fun r h => by cases h; exact (ow96.own (k := 1) rfl).lt)))))))) ?_
        refine U.p (v := .pointer (some ⟨b89, 4, none⟩)) rfl rfl (.inr ⟨_, _, _, rfl, rfl, ((L 5 rfl rfl).trans (cB g115))⟩) (S.fieldAddr rfl (L 21 rfl rfl) Try.underlying44 rfl ti3 rfl rfl) ?_
        refine U.k rfl rfl (.inr ⟨_, _, _, rfl, rfl, ((L 6 rfl rfl).trans (cB g115))⟩) (S.load rfl (L 0 rfl rfl) Try.underlying3 rfl ((ow96.own (k := 0) rfl).cell rfl)) (fun _ => (okH.cons trivial (okH.cons trivial (okH.cons trivial (okH.cons trivial (okH.cons trivial (okH.cons trivial (okH.nil (fun r h => by cases h; exact (ow96.own (k := 0) rfl).lt))))))))) ?_
        obtain ⟨x119, hx120, h121⟩ := bindS h118
        obtain ⟨b122, o123, c124, cs125, hv126, hf127, hr128, hc129⟩ := f2.at hx120
        obtain ⟨v130, rfl, f131⟩ := hr128
        refine U.p rfl rfl (.inr ⟨_, _, _, rfl, rfl, ((L 7 rfl rfl).trans (cB g115))⟩) (S.index rfl ((L 2 rfl rfl).trans hv126) (L 0 rfl rfl) Try.underlying22 ti38 (ix_ge hx120) (ix_lt hx120)) ?_
        refine U.p (v := .pointer (some ⟨b122, o123 + Int.toNat x76.imm * 4 + 1, none⟩)) rfl rfl (.inr ⟨_, _, _, rfl, rfl, ((L 8 rfl rfl).trans (cB g115))⟩) (S.fieldAddr rfl (L 0 rfl rfl) Try.underlying38 rfl ti3 rfl rfl) ?_
        refine U.k rfl rfl (.inr ⟨_, _, _, rfl, rfl, ((L 9 rfl rfl).trans (cB g115))⟩) (S.load rfl (L 0 rfl rfl) Try.underlying3 rfl ((((((((le7.trans le14).trans le38).trans le42).trans le50).trans le67).trans le91).trans le95).cell hf127 (hc129 1 _ rfl))) (fun _ => (okH.cons trivial (okH.cons trivial (okH.cons trivial (okH.cons trivial (okH.cons trivial (okH.cons trivial (okH.cons trivial (okH.nil (fun r h => by cases h; exact (V94.wf _ ((((((((le7.trans le14).trans le38).trans le42).trans le50).trans le67).trans le91).trans le95).sub _ hf127)))))))))))) ?_
        refine U.p rfl rfl (.inr ⟨_, _, _, rfl, rfl, ((L 10 rfl rfl).trans (cB g115))⟩) (S.neqI rfl (L 7 rfl rfl) (L 0 rfl rfl)) ?_
        refine U.p rfl rfl (.inr ⟨_, _, _, rfl, rfl, ((L 23 rfl rfl).trans (cB g109))⟩) (S.pickF rfl ((L 11 rfl rfl).trans (cB g115)) (L 0 rfl rfl)) ?_
        refine U.p rfl rfl (.inl rfl) (S.pickT rfl ((L 24 rfl rfl).trans (cB g109)) (L 0 rfl rfl)) ?_
        refine U.done (nr rfl) ?_
        refine sqN ?_
        have ow132 := ow96.drop 0 rfl
        exact ⟨_, V94, rfl, ⟨decide ((x76.args.length : Int) ≠ x119.params), rfl, (.refl _), ow132, h121⟩, (allCons (L 33 rfl rfl) (allCons (L 34 rfl rfl) (allCons (L 35 rfl rfl) (allCons (L 36 rfl rfl) (allCons (L 37 rfl rfl) (allCons (L 38 rfl rfl) (allCons (L 39 rfl rfl) (allCons (L 0 rfl rfl) allNil))))))))⟩
     ·have h133 := ifF g109 h78
      refine U.x rfl rfl rfl rfl ((L 0 rfl rfl).trans (cB g109)) (by decide) ?_
      refine U.x rfl rfl rfl rfl ((L 1 rfl rfl).trans (cB g109)) (by decide) ?_
      refine U.x rfl rfl rfl rfl ((L 2 rfl rfl).trans (cB g109)) (by decide) ?_
      refine U.x rfl rfl rfl rfl ((L 3 rfl rfl).trans (cB g109)) (by decide) ?_
      refine U.z rfl rfl rfl rfl (L 0 rfl rfl) ?_
      refine U.z rfl rfl rfl rfl (L 1 rfl rfl) ?_
      refine U.z rfl rfl rfl rfl (L 2 rfl rfl) ?_
      refine U.z rfl rfl rfl rfl (L 3 rfl rfl) ?_
      refine U.z rfl rfl rfl rfl (L 4 rfl rfl) ?_
      refine U.z rfl rfl rfl rfl (L 5 rfl rfl) ?_
      refine U.x rfl rfl rfl rfl ((L 10 rfl rfl).trans (cB g109)) (by decide) ?_
      refine U.x rfl rfl rfl rfl ((L 11 rfl rfl).trans (cB g109)) (by decide) ?_
      refine U.z rfl rfl rfl rfl (L 0 rfl rfl) ?_
      refine U.z rfl rfl rfl rfl (L 1 rfl rfl) ?_
      refine U.z rfl rfl rfl rfl (L 2 rfl rfl) ?_
      refine U.z rfl rfl rfl rfl (L 3 rfl rfl) ?_
      refine U.z rfl rfl rfl rfl (L 4 rfl rfl) ?_
      refine U.z rfl rfl rfl rfl (L 5 rfl rfl) ?_
      refine U.z rfl rfl rfl rfl (L 6 rfl rfl) ?_
      refine U.z rfl rfl rfl rfl (L 7 rfl rfl) ?_
      refine U.z rfl rfl rfl rfl (L 8 rfl rfl) ?_
      refine U.z rfl rfl rfl rfl (L 9 rfl rfl) ?_
      refine U.z rfl rfl rfl rfl (L 10 rfl rfl) ?_
      refine U.x rfl rfl rfl rfl ((L 23 rfl rfl).trans (cB g109)) (by decide) ?_
      refine U.p rfl rfl (.inl rfl) (S.pickF rfl ((L 24 rfl rfl).trans (cB g109)) K) ?_
      refine U.done (nr rfl) ?_
      refine sqN ?_
      have ow134 := ow96.drop 0 rfl
      exact ⟨_, V94, rfl, ⟨false, rfl, (.refl _), ow134, h133⟩, (allCons (L 33 rfl rfl) (allCons (L 34 rfl rfl) (allCons (L 35 rfl rfl) (allCons (L 36 rfl rfl) (allCons (L 37 rfl rfl) (allCons (L 38 rfl rfl) (allCons (L 39 rfl rfl) (allCons (L 0 rfl rfl) allNil))))))))⟩
   ·have h135 := ifF c74 h73
    refine WP.exit ?_
    refine sqE (sqE (blkE (blkN (sqN ?_))))
    have h136 := exitS h135 e71
    refine WP.ureg rfl ?_
    refine U.p rfl rfl (.inl rfl) (S.add rfl (L 4 rfl rfl) K) ?_
    refine U.p rfl rfl (.inl rfl) (S.move rfl (L 0 rfl rfl)) ?_
    refine U.done (nr rfl) ?_
    refine sqN ?_
    exact ⟨_, V66, rfl, ⟨m16, Nat.lt_succ_self _, w64 (x10 + 1), rfl, ((((le14.trans le38).trans le42).trans le50).trans le67), ow68, backS h136 e18⟩, (allCons (L 3 rfl rfl) (allCons (L 4 rfl rfl) (allCons (L 5 rfl rfl) (allCons (L 0 rfl rfl) allNil))))⟩
 ·have h137 := ifF c21 h20
  refine WP.exit ?_
  refine sqE (sqE (blkE (sqN ?_)))
  have h138 := exitS h137 e18
  refine WP.seq ?_
  refine WP.usreg rfl ?_
  refine U.p (v := .pointer (some ⟨b5, 1, none⟩)) rfl rfl (.inl rfl) (S.fieldAddr rfl (L 1 rfl rfl) Try.underlying25 rfl ti23 rfl rfl) ?_
  refine U.k rfl rfl (.inl rfl) (S.load rfl (L 0 rfl rfl) Try.underlying23 rfl ((ow15.own (k := 0) rfl).cell rfl)) nd ?_
  refine U.p rfl rfl (.inl rfl) (f4.1.len rfl (L 0 rfl rfl) Try.underlying23) ?_
  refine U.p rfl rfl (.inl rfl) (S.move rfl K) ?_
  refine U.done (nr rfl) ?_
  refine WP.blk ?_
  unfold ref08_Whole_l3 at h138
  obtain ⟨n141, hn140⟩ := loopO_some.1 h138
  refine WP.loopI2 (fun n l V' => ∃ (x139 : Int), l = [(1, .pointer (some ⟨b5, 0, none⟩)), (58, v3), (59, .int .i64 (p0.threads.length : Int)), (60, .int .i64 x139)] ∧ V13.le V' ∧ Ow V' (.pt b5 (.cells 0 [v1, v3]) :: Rs) ∧ itO (fun s => ref08_Whole_l3b p0 s) n x139 = some r) n141 _ ⟨0, rfl, .refl _, ow15, hn140⟩ (allCons (L 5 rfl rfl) (allCons (L 2 rfl rfl) (allCons (L 1 rfl rfl) (allCons (L 0 rfl rfl) allNil)))) ?_
  rintro _ _ V142 ⟨x139, rfl, le143, ow144, h148⟩
  obtain ⟨m145, q146, rfl, h149, e147⟩ := itS h148
  replace h149 : ref08_Whole_l3b p0 x139 = some q146 := h149
  unfold ref08_Whole_l3b at h149
  refine WP.usreg rfl ?_
  refine U.p rfl rfl (.inl rfl) (S.lss rfl (L 3 rfl rfl) (L 2 rfl rfl)) ?_
  refine U.done (nr rfl) ?_
  refine WP.seq ?_
  refine WP.cond _ (L 0 rfl rfl) rfl (fun c150 => ?_) (fun c150 => ?_)
  ·have h151 := ifT c150 h149
   refine WP.skip ?_
   refine sqN ?_
   refine WP.seq ?_
   refine WP.blk ?_
   refine WP.usreg rfl ?_
   obtain ⟨x152, hx153, h154⟩ := bindS h151
   obtain ⟨b155, o156, c157, cs158, hv159, hf160, hr161, hc162⟩ := f4.at hx153
   obtain rfl : cs158 = [.int .i64 x152] := hr161
   refine U.p rfl rfl (.inl rfl) (S.index rfl ((L 2 rfl rfl).trans hv159) (L 4 rfl rfl) Try.underlying23 ti3 (ix_ge hx153) (ix_lt hx153)) ?_
   refine U.k rfl rfl (.inl rfl) (S.load rfl (L 0 rfl rfl) Try.underlying3 rfl (((le7.trans le14).trans le143).cell hf160 (hc162 0 _ rfl))) nd ?_
   refine U.p rfl rfl (.inl rfl) (S.assign rfl (L 0 rfl rfl)) ?_
   refine U.done (nr rfl) ?_
   refine WP.usreg rfl ?_
   refine U.p rfl rfl (.inl rfl) (S.move rfl (L 0 rfl rfl)) ?_
   refine U.p rfl rfl (.inl rfl) (S.lss rfl (L 0 rfl rfl) K) ?_
   refine U.p rfl rfl (.inl rfl) (S.move rfl (L 0 rfl rfl)) ?_
   refine U.joinX 9 (fun e H => ∃ (u163 u164 u165 u166 u167 : Value), H = V142.H ∧ e = [(72, .bool ((decide (x152 < 0)) || (decide ((p0.funcs.length : Int) ≤ x152)))), (71, u163), (70, u164), (69, u165), (68, u166), (67, u167)]) ?_ ?_
   ·rintro _ _ ⟨u163, u164, u165, u166, u167, rfl, rfl⟩
    refine U.p rfl rfl (.inl rfl) (S.move rfl (L 0 rfl rfl)) ?_
    obtain ⟨y171, hy172, h173⟩ := bindS h154
    refine U.joinX 18 (fun e H => ∃ (u174 u175 u176 u177 u178 u179 u180 : Value), H = V142.H ∧ e = [(81, .bool y171), (80, u174), (79, u175), (78, u176), (77, u177), (76, u178), (75, u179), (74, u180)]) ?_ ?_
    ·rintro _ _ ⟨u174, u175, u176, u177, u178, u179, u180, rfl, rfl⟩
     refine U.done (nr rfl) ?_
     refine WP.cond _ (L 0 rfl rfl) rfl (fun c184 => ?_) (fun c184 => ?_)
     ·have h185 := ifT c184 h173
      refine WP.usreg rfl ?_
      refine U.p rfl rfl (.inl rfl) (S.assign rfl K) ?_
      refine U.done (nr rfl) ?_
      refine WP.ret ?_
      refine blkR (sqR (sqR (blkR (sqR ?_))))
      have h186 := exitS h185 e147
      refine fin.slot (.inr rfl) rfl (L 0 rfl rfl) ⟨V142, rfl, ((le7.trans le14).trans le143), ?_⟩
      have ow187 := ow144.drop 0 rfl
      have e188 := Option.some.inj h186
      subst e188
      exact ⟨rfl, ow187⟩
     ·have h189 := ifF c184 h173
      refine WP.skip ?_
      refine blkN (sqN ?_)
      refine WP.ureg rfl ?_
      refine U.p rfl rfl (.inl rfl) (S.add rfl (L 25 rfl rfl) K) ?_
      refine U.p rfl rfl (.inl rfl) (S.move rfl (L 0 rfl rfl)) ?_
      refine U.done (nr rfl) ?_
      refine sqN ?_
      exact ⟨_, V142, rfl, ⟨m145, Nat.lt_succ_self _, w64 (x139 + 1), rfl, le143, ow144, backS h189 e147⟩, (allCons (L 24 rfl rfl) (allCons (L 25 rfl rfl) (allCons (L 26 rfl rfl) (allCons (L 0 rfl rfl) allNil))))⟩
    ·intro kk
     refine bcase (b := (decide (x152 < 0)) || (decide ((p0.funcs.length : Int) ≤ x152))) (fun g190 => ?_) (fun g190 => ?_)
     ·have h191 := ifT g190 hy172
      refine U.x rfl rfl rfl rfl ((L 0 rfl rfl).trans (cB g190)) (by decide) ?_
      refine U.x rfl rfl rfl rfl ((L 1 rfl rfl).trans (cB g190)) (by decide) ?_
      refine U.x rfl rfl rfl rfl ((L 2 rfl rfl).trans (cB g190)) (by decide) ?_
      refine U.x rfl rfl rfl rfl ((L 3 rfl rfl).trans (cB g190)) (by decide) ?_
      refine U.x rfl rfl rfl rfl ((L 4 rfl rfl).trans (cB g190)) (by decide) ?_
      refine U.x rfl rfl rfl rfl ((L 5 rfl rfl).trans (cB g190)) (by decide) ?_
      refine U.x rfl rfl rfl rfl ((L 6 rfl rfl).trans (cB g190)) (by decide) ?_
      refine U.p rfl rfl (.inl rfl) (S.pickT rfl ((L 7 rfl rfl).trans (cB g190)) K) ?_
      have e192 := Option.some.inj h191
      subst e192
      exact kk [(81, .bool true), (80, .tuple #[]), (79, .tuple #[]), (78, .tuple #[]), (77, .tuple #[]), (76, .tuple #[]), (75, .tuple #[]), (74, .tuple #[])] _ ⟨.tuple #[], .tuple #[], .tuple #[], .tuple #[], .tuple #[], .tuple #[], .tuple #[], rfl, rfl⟩
     ·have h193 := ifF g190 hy172
      refine U.p (v := .pointer (some ⟨b5, 0, none⟩)) rfl rfl (.inr ⟨_, _, _, rfl, rfl, ((L 0 rfl rfl).trans (cB g190))⟩) (S.fieldAddr rfl (L 14 rfl rfl) Try.underlying25 rfl ti22 rfl rfl) ?_
      refine U.k rfl rfl (.inr ⟨_, _, _, rfl, rfl, ((L 1 rfl rfl).trans (cB g190))⟩) (S.load rfl (L 0 rfl rfl) Try.underlying22 rfl ((ow144.own (k := 0) rfl).cell rfl)) nd ?_
      refine U.p rfl rfl (.inr ⟨_, _, _, rfl, rfl, ((L 2 rfl rfl).trans (cB g190))⟩) (S.move rfl (L 12 rfl rfl)) ?_
      obtain ⟨x194, hx195, h196⟩ := bindS h193
      obtain ⟨b197, o198, c199, cs200, hv201, hf202, hr203, hc204⟩ := f2.at hx195
      obtain ⟨v205, rfl, f206⟩ := hr203
      refine U.p rfl rfl (.inr ⟨_, _, _, rfl, rfl, ((L 3 rfl rfl).trans (cB g190))⟩) (S.index rfl ((L 1 rfl rfl).trans hv201) (L 0 rfl rfl) Try.underlying22 ti38 (ix_ge hx195) (ix_lt hx195)) ?_
      refine U.p (v := .pointer (some ⟨b197, o198 + Int.toNat x152 * 4 + 1, none⟩)) rfl rfl (.inr ⟨_, _, _, rfl, rfl, ((L 4 rfl rfl).trans (cB g190))⟩) (S.fieldAddr rfl (L 0 rfl rfl) Try.underlying38 rfl ti3 rfl rfl) ?_
      refine U.k rfl rfl (.inr ⟨_, _, _, rfl, rfl, ((L 5 rfl rfl).trans (cB g190))⟩) (S.load rfl (L 0 rfl rfl) Try.underlying3 rfl (((le7.trans le14).trans le143).cell hf202 (hc204 1 _ rfl))) nd ?_
      refine U.p rfl rfl (.inr ⟨_, _, _, rfl, rfl, ((L 6 rfl rfl).trans (cB g190))⟩) (S.neqI rfl (L 0 rfl rfl) K) ?_
      refine U.p rfl rfl (.inl rfl) (S.pickF rfl ((L 7 rfl rfl).trans (cB g190)) (L 0 rfl rfl)) ?_
      have e207 := Option.some.inj h196
      subst e207
      exact kk [(81, .bool (decide (x194.params ≠ 0))), (80, .bool (decide (x194.params ≠ 0))), (79, .int .i64 x194.params), (78, .pointer (some ⟨b197, o198 + Int.toNat x152 * 4 + 1, none⟩)), (77, .pointer (some ⟨b197, o198 + Int.toNat x152 * 4, none⟩)), (76, .int .i64 x152), (75, v1), (74, .pointer (some ⟨b5, 0, none⟩))] _ ⟨.bool (decide (x194.params ≠ 0)), .int .i64 x194.params, .pointer (some ⟨b197, o198 + Int.toNat x152 * 4 + 1, none⟩), .pointer (some ⟨b197, o198 + Int.toNat x152 * 4, none⟩), .int .i64 x152, v1, .pointer (some ⟨b5, 0, none⟩), rfl, rfl⟩
   ·intro kk
    refine bcase (b := decide (x152 < 0)) (fun g208 => ?_) (fun g208 => ?_)
    ·skip
     refine U.x rfl rfl rfl rfl ((L 0 rfl rfl).trans (cB g208)) (by decide) ?_
     refine U.x rfl rfl rfl rfl ((L 1 rfl rfl).trans (cB g208)) (by decide) ?_
     refine U.x rfl rfl rfl rfl ((L 2 rfl rfl).trans (cB g208)) (by decide) ?_
     refine U.x rfl rfl rfl rfl ((L 3 rfl rfl).trans (cB g208)) (by decide) ?_
     refine U.x rfl rfl rfl rfl ((L 4 rfl rfl).trans (cB g208)) (by decide) ?_
     refine U.p rfl rfl (.inl rfl) (S.pickT rfl ((L 5 rfl rfl).trans (cB g208)) K) ?_
     exact kk [(72, .bool true), (71, .tuple #[]), (70, .tuple #[]), (69, .tuple #[]), (68, .tuple #[]), (67, .tuple #[])] _ ⟨.tuple #[], .tuple #[], .tuple #[], .tuple #[], .tuple #[], rfl, (by rw [g208, Bool.true_or])⟩
    ·skip
     refine U.p rfl rfl (.inr ⟨_, _, _, rfl, rfl, ((L 0 rfl rfl).trans (cB g208))⟩) (S.move rfl (L 3 rfl rfl)) ?_
     refine U.p (v := .pointer (some ⟨b5, 0, none⟩)) rfl rfl (.inr ⟨_, _, _, rfl, rfl, ((L 1 rfl rfl).trans (cB g208))⟩) (S.fieldAddr rfl (L 8 rfl rfl) Try.underlying25 rfl ti22 rfl rfl) ?_
     refine U.k rfl rfl (.inr ⟨_, _, _, rfl, rfl, ((L 2 rfl rfl).trans (cB g208))⟩) (S.load rfl (L 0 rfl rfl) Try.underlying22 rfl ((ow144.own (k := 0) rfl).cell rfl)) nd ?_
     refine U.p rfl rfl (.inr ⟨_, _, _, rfl, rfl, ((L 3 rfl rfl).trans (cB g208))⟩) (f2.1.len rfl (L 0 rfl rfl) Try.underlying22) ?_
     refine U.p rfl rfl (.inr ⟨_, _, _, rfl, rfl, ((L 4 rfl rfl).trans (cB g208))⟩) (S.geq rfl (L 3 rfl rfl) (L 0 rfl rfl)) ?_
     refine U.p rfl rfl (.inl rfl) (S.pickF rfl ((L 5 rfl rfl).trans (cB g208)) (L 0 rfl rfl)) ?_
     exact kk [(72, .bool (decide ((p0.funcs.length : Int) ≤ x152))), (71, .bool (decide ((p0.funcs.length : Int) ≤ x152))), (70, .int .i64 (p0.funcs.length : Int)), (69, v1), (68, .pointer (some ⟨b5, 0, none⟩)), (67, .int .i64 x152)] _ ⟨.bool (decide ((p0.funcs.length : Int) ≤ x152)), .int .i64 (p0.funcs.length : Int), v1, .pointer (some ⟨b5, 0, none⟩), .int .i64 x152, rfl, (by rw [g208, Bool.false_or])⟩
  ·have h209 := ifF c150 h149
   refine WP.exit ?_
   refine sqE (sqE (blkE (sqN ?_)))
   have h210 := exitS h209 e147
   refine WP.usreg rfl ?_
   refine U.p rfl rfl (.inl rfl) (S.assign rfl K) ?_
   refine U.done (nr rfl) ?_
   refine WP.ret ?_
   refine fin.slot (.inr rfl) rfl (L 0 rfl rfl) ⟨V142, rfl, ((le7.trans le14).trans le143), ?_⟩
   have ow211 := ow144.drop 0 rfl
   have e212 := Option.some.inj h210
   subst e212
   exact ⟨rfl, ow211⟩
theorem wk_law11_great (V : Vw) (Rs : List At) (p0 : TModule) (v1 : Value) (v3 : Value) (f2 : Fz RT_TFunc V v1 p0.funcs) (f4 : Fz (RT.int .i64) V v3 p0.threads) (ow : Ow V (Rs)) (r : Bool) (h : law11_great p0 = some r) : ∃ v V', Cl Try.prog 0 7 #[.agg #[v1, v3]] V.H v V'.H ∧ V.le V' ∧ (v = .bool r ∧ Ow V' (Rs)) := by
 refine Ct.of (Nat.zero_le _) Try.func7 rfl (nr rfl) ?_
 unfold law11_great at h
 refine WP.usreg rfl ?_
 refine O.box ow rfl rfl (.inl rfl) rfl (L 0 rfl rfl) (by simp [topV]) rfl nd (fun b5 V6 le7 ow8 => ?_)
 refine U.p rfl rfl (.inl rfl) (S.assign rfl K) ?_
 refine U.done (nr rfl) ?_
 refine WP.seq ?_
 refine WP.usreg rfl ?_
 refine U.p (v := .pointer (some ⟨b5, 0, none⟩)) rfl rfl (.inl rfl) (S.fieldAddr rfl (L 1 rfl rfl) Try.underlying25 rfl ti22 rfl rfl) ?_
 refine U.k rfl rfl (.inl rfl) (S.load rfl (L 0 rfl rfl) Try.underlying22 rfl ((ow8.own (k := 0) rfl).cell rfl)) nd ?_
 refine U.p rfl rfl (.inl rfl) (f2.1.len rfl (L 0 rfl rfl) Try.underlying22) ?_
 refine U.p rfl rfl (.inl rfl) (S.move rfl K) ?_
 refine U.done (nr rfl) ?_
 refine WP.blk ?_
 unfold law11_great_l1 at h
 obtain ⟨n12, hn11⟩ := loopO_some.1 h
 refine WP.loopI2 (fun n l V' => ∃ (x10 : Int), l = [(1, .pointer (some ⟨b5, 0, none⟩)), (6, v1), (7, .int .i64 (p0.funcs.length : Int)), (8, .int .i64 x10)] ∧ V6.le V' ∧ Ow V' (.pt b5 (.cells 0 [v1, v3]) :: Rs) ∧ itO (fun s => law11_great_l1b p0 s) n x10 = some r) n12 _ ⟨0, rfl, .refl _, ow8, hn11⟩ (allCons (L 5 rfl rfl) (allCons (L 2 rfl rfl) (allCons (L 1 rfl rfl) (allCons (L 0 rfl rfl) allNil)))) ?_
 rintro _ _ V13 ⟨x10, rfl, le14, ow15, h19⟩
 obtain ⟨m16, q17, rfl, h20, e18⟩ := itS h19
 replace h20 : law11_great_l1b p0 x10 = some q17 := h20
 unfold law11_great_l1b at h20
 refine WP.usreg rfl ?_
 refine U.p rfl rfl (.inl rfl) (S.lss rfl (L 3 rfl rfl) (L 2 rfl rfl)) ?_
 refine U.done (nr rfl) ?_
 refine WP.seq ?_
 refine WP.cond _ (L 0 rfl rfl) rfl (fun c21 => ?_) (fun c21 => ?_)
 ·have h22 := ifT c21 h20
  refine WP.skip ?_
  refine sqN ?_
  refine WP.seq ?_
  refine WP.blk ?_
  refine WP.usreg rfl ?_
  obtain ⟨x23, hx24, h25⟩ := bindS h22
  obtain ⟨b26, o27, c28, cs29, hv30, hf31, hr32, hc33⟩ := f2.at hx24
  obtain ⟨v34, rfl, f35⟩ := hr32
  refine U.p rfl rfl (.inl rfl) (S.index rfl ((L 2 rfl rfl).trans hv30) (L 4 rfl rfl) Try.underlying22 ti38 (ix_ge hx24) (ix_lt hx24)) ?_
  refine U.k rfl rfl (.inl rfl) (S.loadN (cs := [.string x23.name, .int .i64 x23.params, .int .i64 x23.regs, v34]) rfl (L 0 rfl rfl) Try.underlying38 rfl ti38 rfl (fun j v hj => (le7.trans le14).cell hf31 (hc33 j v hj))) nd ?_
  refine O.alloc ow15 rfl rfl (.inl rfl) rfl ti38 rfl rfl nd (fun b36 V37 le38 ow39 => ?_)
  refine O.store (k := 0) (cs := [.string x23.name, .int .i64 x23.params, .int .i64 x23.regs, v34]) (c' := [.string x23.name, .int .i64 x23.params, .int .i64 x23.regs, v34]) ow39 rfl rfl rfl (.inl rfl) rfl (L 0 rfl rfl) (L 1 rfl rfl) ti38 (by simp [topV]) rfl rfl (nr rfl) (by have q0 := f35.one; simp only [List.all_cons, List.all_nil, q0]; rfl) rfl nd (fun V41 le42 ow43 => ?_)
  refine U.done (nr rfl) ?_
  refine WP.usreg rfl ?_
  refine U.p (v := .pointer (some ⟨b36, 3, none⟩)) rfl rfl (.inl rfl) (S.fieldAddr rfl (L 0 rfl rfl) Try.underlying38 rfl ti36 rfl rfl) ?_
  refine U.k rfl rfl (.inl rfl) (S.load rfl (L 0 rfl rfl) Try.underlying36 rfl ((ow43.own (k := 0) rfl).cell rfl)) nd ?_
  refine U.p rfl rfl (.inl rfl) (f35.1.len rfl (L 0 rfl rfl) Try.underlying36) ?_
  refine U.p rfl rfl (.inl rfl) (S.gtr rfl (L 0 rfl rfl) K) ?_
  refine U.p rfl rfl (.inl rfl) (S.move rfl (L 0 rfl rfl)) ?_
  refine U.joinX 9 (fun e H => ∃ (u44 u45 u46 : Value), H = V41.H ∧ e = [(20, .bool ((decide (40 < (x23.code.length : Int))) || (decide (12 < x23.regs)))), (19, u44), (18, u45), (17, u46)]) ?_ ?_
  ·rintro _ _ ⟨u44, u45, u46, rfl, rfl⟩
   refine U.done (nr rfl) ?_
   refine WP.cond _ (L 0 rfl rfl) rfl (fun c50 => ?_) (fun c50 => ?_)
   ·have h51 := ifT c50 h25
    refine WP.usreg rfl ?_
    refine U.p rfl rfl (.inl rfl) (S.assign rfl K) ?_
    refine U.done (nr rfl) ?_
    refine WP.ret ?_
    refine blkR (sqR (sqR (blkR (sqR ?_))))
    have h52 := exitS h51 e18
    refine fin.slot (.inr rfl) rfl (L 0 rfl rfl) ⟨V41, rfl, (((le7.trans le14).trans le38).trans le42), ?_⟩
    have ow53 := ow43.drop 0 rfl
    have ow54 := ow53.drop 0 rfl
    have e55 := Option.some.inj h52
    subst e55
    exact ⟨rfl, ow54⟩
   ·have h56 := ifF c50 h25
    refine WP.skip ?_
    refine blkN (sqN ?_)
    refine WP.ureg rfl ?_
    refine U.p rfl rfl (.inl rfl) (S.add rfl (L 16 rfl rfl) K) ?_
    refine U.p rfl rfl (.inl rfl) (S.move rfl (L 0 rfl rfl)) ?_
    refine U.done (nr rfl) ?_
    refine sqN ?_
    have ow57 := ow43.drop 0 rfl
    exact ⟨_, V41, rfl, ⟨m16, Nat.lt_succ_self _, w64 (x10 + 1), rfl, ((le14.trans le38).trans le42), ow57, backS h56 e18⟩, (allCons (L 15 rfl rfl) (allCons (L 16 rfl rfl) (allCons (L 17 rfl rfl) (allCons (L 0 rfl rfl) allNil))))⟩
  ·intro kk
   refine bcase (b := decide (40 < (x23.code.length : Int))) (fun g58 => ?_) (fun g58 => ?_)
   ·skip
    refine U.x rfl rfl rfl rfl ((L 0 rfl rfl).trans (cB g58)) (by decide) ?_
    refine U.x rfl rfl rfl rfl ((L 1 rfl rfl).trans (cB g58)) (by decide) ?_
    refine U.x rfl rfl rfl rfl ((L 2 rfl rfl).trans (cB g58)) (by decide) ?_
    refine U.p rfl rfl (.inl rfl) (S.pickT rfl ((L 3 rfl rfl).trans (cB g58)) K) ?_
    exact kk [(20, .bool true), (19, .tuple #[]), (18, .tuple #[]), (17, .tuple #[])] _ ⟨.tuple #[], .tuple #[], .tuple #[], rfl, (by rw [g58, Bool.true_or])⟩
   ·skip
    refine U.p (v := .pointer (some ⟨b36, 2, none⟩)) rfl rfl (.inr ⟨_, _, _, rfl, rfl, ((L 0 rfl rfl).trans (cB g58))⟩) (S.fieldAddr rfl (L 5 rfl rfl) Try.underlying38 rfl ti3 rfl rfl) ?_
    refine U.k rfl rfl (.inr ⟨_, _, _, rfl, rfl, ((L 1 rfl rfl).trans (cB g58))⟩) (S.load rfl (L 0 rfl rfl) Try.underlying3 rfl ((ow43.own (k := 0) rfl).cell rfl)) nd ?_
    refine U.p rfl rfl (.inr ⟨_, _, _, rfl, rfl, ((L 2 rfl rfl).trans (cB g58))⟩) (S.gtr rfl (L 0 rfl rfl) K) ?_
    refine U.p rfl rfl (.inl rfl) (S.pickF rfl ((L 3 rfl rfl).trans (cB g58)) (L 0 rfl rfl)) ?_
    exact kk [(20, .bool (decide (12 < x23.regs))), (19, .bool (decide (12 < x23.regs))), (18, .int .i64 x23.regs), (17, .pointer (some ⟨b36, 2, none⟩))] _ ⟨.bool (decide (12 < x23.regs)), .int .i64 x23.regs, .pointer (some ⟨b36, 2, none⟩), rfl, (by rw [g58, Bool.false_or])⟩
 ·have h59 := ifF c21 h20
  refine WP.exit ?_
  refine sqE (sqE (blkE (sqN ?_)))
  have h60 := exitS h59 e18
  refine WP.usreg rfl ?_
  refine U.p (v := .pointer (some ⟨b5, 0, none⟩)) rfl rfl (.inl rfl) (S.fieldAddr rfl (L 1 rfl rfl) Try.underlying25 rfl ti22 rfl rfl) ?_
  refine U.k rfl rfl (.inl rfl) (S.load rfl (L 0 rfl rfl) Try.underlying22 rfl ((ow15.own (k := 0) rfl).cell rfl)) nd ?_
  refine U.p rfl rfl (.inl rfl) (f2.1.len rfl (L 0 rfl rfl) Try.underlying22) ?_
  refine U.p rfl rfl (.inl rfl) (S.gtr rfl (L 0 rfl rfl) K) ?_
  refine U.p rfl rfl (.inl rfl) (S.move rfl (L 0 rfl rfl)) ?_
  refine U.joinX 10 (fun e H => ∃ (u61 u62 u63 u64 : Value), H = V13.H ∧ e = [(31, .bool ((decide (6 < (p0.funcs.length : Int))) || (decide (4 < (p0.threads.length : Int))))), (30, u61), (29, u62), (28, u63), (27, u64)]) ?_ ?_
  ·rintro _ _ ⟨u61, u62, u63, u64, rfl, rfl⟩
   refine U.p rfl rfl (.inl rfl) (S.move rfl (L 0 rfl rfl)) ?_
   obtain ⟨y68, hy69, h70⟩ := bindS h60
   refine U.joinX 15 (fun e H => ∃ (u71 u72 u73 : Value), ∃ V' : Vw, H = V'.H ∧ V13.le V' ∧ e = [(36, .bool y68), (35, u71), (34, u72), (33, u73)] ∧ Ow V' (.pt b5 (.cells 0 [v1, v3]) :: Rs)) ?_ ?_
   ·rintro _ _ ⟨u71, u72, u73, V74, rfl, le75, rfl, ow76⟩
    refine U.p rfl rfl (.inl rfl) (S.assign rfl (L 0 rfl rfl)) ?_
    refine U.done (nr rfl) ?_
    refine WP.ret ?_
    refine fin.slot (.inr rfl) rfl (L 0 rfl rfl) ⟨V74, rfl, ((le7.trans le14).trans le75), ?_⟩
    have ow77 := ow76.drop 0 rfl
    have e78 := Option.some.inj h70
    subst e78
    exact ⟨rfl, ow77⟩
   ·intro kk
    refine bcase (b := (decide (6 < (p0.funcs.length : Int))) || (decide (4 < (p0.threads.length : Int)))) (fun g79 => ?_) (fun g79 => ?_)
    ·have h80 := ifT g79 hy69
     refine U.x rfl rfl rfl rfl ((L 0 rfl rfl).trans (cB g79)) (by decide) ?_
     refine U.x rfl rfl rfl rfl ((L 1 rfl rfl).trans (cB g79)) (by decide) ?_
     refine U.x rfl rfl rfl rfl ((L 2 rfl rfl).trans (cB g79)) (by decide) ?_
     refine U.p rfl rfl (.inl rfl) (S.pickT rfl ((L 3 rfl rfl).trans (cB g79)) K) ?_
     have e81 := Option.some.inj h80
     subst e81
     exact kk [(36, .bool true), (35, .tuple #[]), (34, .tuple #[]), (33, .tuple #[])] _ ⟨.tuple #[], .tuple #[], .tuple #[], V13, rfl, (.refl _), rfl, ow15⟩
    ·have h82 := ifF g79 hy69
     refine U.k rfl rfl (.inr ⟨_, _, _, rfl, rfl, ((L 0 rfl rfl).trans (cB g79))⟩) (S.loadB rfl (L 12 rfl rfl) Try.underlying25 rfl ti25 (ow15.own (k := 0) rfl).get rfl) nd ?_
     have f83 := f2.up (le7.trans le14)
     have f84 := f4.up (le7.trans le14)
     obtain ⟨x85, hx86, h87⟩ := bindS h82
     refine O.call (V := V13) rfl rfl (.inr ⟨_, _, _, rfl, rfl, ((L 1 rfl rfl).trans (cB g79))⟩) rfl en9 (aC (L 0 rfl rfl) aN) (wk_ref08_Whole V13 _ p0 v1 v3 f83 f84 ow15 _ hx86) (fun _ _ _ _ => nd) (fun v88 V89 le90 hp91 => ?_)
     obtain ⟨rfl, ow92⟩ := hp91
     refine U.p rfl rfl (.inr ⟨_, _, _, rfl, rfl, ((L 2 rfl rfl).trans (cB g79))⟩) (S.not rfl (L 0 rfl rfl)) ?_
     refine U.p rfl rfl (.inl rfl) (S.pickF rfl ((L 3 rfl rfl).trans (cB g79)) (L 0 rfl rfl)) ?_
     have e93 := Option.some.inj h87
     subst e93
     exact kk [(36, .bool (!x85)), (35, .bool (!x85)), (34, .bool x85), (33, .agg #[v1, v3])] _ ⟨.bool (!x85), .bool x85, .agg #[v1, v3], V89, rfl, le90, rfl, ow92⟩
  ·intro kk
   refine bcase (b := decide (6 < (p0.funcs.length : Int))) (fun g94 => ?_) (fun g94 => ?_)
   ·skip
    refine U.x rfl rfl rfl rfl ((L 0 rfl rfl).trans (cB g94)) (by decide) ?_
    refine U.x rfl rfl rfl rfl ((L 1 rfl rfl).trans (cB g94)) (by decide) ?_
    refine U.x rfl rfl rfl rfl ((L 2 rfl rfl).trans (cB g94)) (by decide) ?_
    refine U.x rfl rfl rfl rfl ((L 3 rfl rfl).trans (cB g94)) (by decide) ?_
    refine U.p rfl rfl (.inl rfl) (S.pickT rfl ((L 4 rfl rfl).trans (cB g94)) K) ?_
    exact kk [(31, .bool true), (30, .tuple #[]), (29, .tuple #[]), (28, .tuple #[]), (27, .tuple #[])] _ ⟨.tuple #[], .tuple #[], .tuple #[], .tuple #[], rfl, (by rw [g94, Bool.true_or])⟩
   ·skip
    refine U.p (v := .pointer (some ⟨b5, 1, none⟩)) rfl rfl (.inr ⟨_, _, _, rfl, rfl, ((L 0 rfl rfl).trans (cB g94))⟩) (S.fieldAddr rfl (L 6 rfl rfl) Try.underlying25 rfl ti23 rfl rfl) ?_
    refine U.k rfl rfl (.inr ⟨_, _, _, rfl, rfl, ((L 1 rfl rfl).trans (cB g94))⟩) (S.load rfl (L 0 rfl rfl) Try.underlying23 rfl ((ow15.own (k := 0) rfl).cell rfl)) nd ?_
    refine U.p rfl rfl (.inr ⟨_, _, _, rfl, rfl, ((L 2 rfl rfl).trans (cB g94))⟩) (f4.1.len rfl (L 0 rfl rfl) Try.underlying23) ?_
    refine U.p rfl rfl (.inr ⟨_, _, _, rfl, rfl, ((L 3 rfl rfl).trans (cB g94))⟩) (S.gtr rfl (L 0 rfl rfl) K) ?_
    refine U.p rfl rfl (.inl rfl) (S.pickF rfl ((L 4 rfl rfl).trans (cB g94)) (L 0 rfl rfl)) ?_
    exact kk [(31, .bool (decide (4 < (p0.threads.length : Int)))), (30, .bool (decide (4 < (p0.threads.length : Int)))), (29, .int .i64 (p0.threads.length : Int)), (28, v3), (27, .pointer (some ⟨b5, 1, none⟩))] _ ⟨.bool (decide (4 < (p0.threads.length : Int))), .int .i64 (p0.threads.length : Int), v3, .pointer (some ⟨b5, 1, none⟩), rfl, (by rw [g94, Bool.false_or])⟩
theorem wk_tidy_Module (V : Vw) (Rs : List At) (p0 : TModule) (p1 : Ttidy_Options) (v1 : Value) (v3 : Value) (f2 : Fz RT_TFunc V v1 p0.funcs) (f4 : Fz (RT.int .i64) V v3 p0.threads) (ow : Ow V (Rs)) (r : TModule) (h : tidy_Module p0 p1 = some r) : ∃ v V', Cl Try.prog 0 8 #[.agg #[v1, v3], .agg #[.bool p1.fold, .bool p1.copy, .bool p1.dead]] V.H v V'.H ∧ V.le V' ∧ (∃ (v5 : Value) (v7 : Value), v = .agg #[v5, v7] ∧ Fz RT_TFunc V' v5 r.funcs ∧ Fz (RT.int .i64) V' v7 r.threads ∧ Ow V' (Rs)) := by
 refine Ct.of (Nat.zero_le _) Try.func8 rfl (nr rfl) ?_
 unfold tidy_Module at h
 refine WP.usreg rfl ?_
 refine O.box ow rfl rfl (.inl rfl) rfl (L 0 rfl rfl) (by simp [topV]) rfl nd (fun b9 V10 le11 ow12 => ?_)
 refine O.box ow12 rfl rfl (.inl rfl) rfl (L 2 rfl rfl) (by simp [topV]) rfl nd (fun b14 V15 le16 ow17 => ?_)
 refine O.alloc ow17 rfl rfl (.inl rfl) rfl ti25 rfl rfl nd (fun b19 V20 le21 ow22 => ?_)
 refine U.done (nr rfl) ?_
 refine WP.usreg rfl ?_
 refine U.p (v := .pointer (some ⟨b9, 1, none⟩)) rfl rfl (.inl rfl) (S.fieldAddr rfl (L 2 rfl rfl) Try.underlying25 rfl ti23 rfl rfl) ?_
 refine U.k rfl rfl (.inl rfl) (S.load rfl (L 0 rfl rfl) Try.underlying23 rfl ((ow22.own (k := 2) rfl).cell rfl)) nd ?_
 have f24 := f4.up ((le11.trans le16).trans le21)
 obtain ⟨x25, hx26, h27⟩ := bindS h
 refine O.call (V := V20) rfl rfl (.inl rfl) rfl en16 (aC (L 0 rfl rfl) aN) (wk_slices_Clone_2 V20 _ p0.threads v3 f24 ow22 _ hx26) (fun _ _ _ _ => nd) (fun v28 V29 le30 hp31 => ?_)
 obtain ⟨_, rfl, ow32⟩ := hp31
 refine U.p (v := .agg #[.slice none 0 0, v28]) rfl rfl (.inl rfl) (S.build (vs := [v28]) rfl ti25 rfl pl25 (aC (L 0 rfl rfl) aN) (allC (ow32.osne (k := 0) rfl) allN) (fill1 rfl (ow32.oscells (k := 0) rfl) (nr rfl) rfl)) ?_
 refine O.alloc ow32 rfl rfl (.inl rfl) rfl ti25 rfl rfl nd (fun b35 V36 le37 ow38 => ?_)
 refine O.store (k := 0) (cs := [.slice none 0 0, v28]) (c' := [.slice none 0 0, v28]) ow38 rfl rfl rfl (.inl rfl) rfl (L 0 rfl rfl) (L 1 rfl rfl) ti25 (by simp [topV]) rfl rfl (nr rfl) (by have q0 := (ow38.osone (k := 1) rfl); simp only [List.all_cons, List.all_nil, q0]; rfl) rfl nd (fun V40 le41 ow42 => ?_)
 refine U.done (nr rfl) ?_
 refine WP.seq ?_
 refine WP.usreg rfl ?_
 refine U.p (v := .pointer (some ⟨b9, 0, none⟩)) rfl rfl (.inl rfl) (S.fieldAddr rfl (L 7 rfl rfl) Try.underlying25 rfl ti22 rfl rfl) ?_
 refine U.k rfl rfl (.inl rfl) (S.load rfl (L 0 rfl rfl) Try.underlying22 rfl ((ow42.own (k := 4) rfl).cell rfl)) nd ?_
 refine U.p rfl rfl (.inl rfl) (f2.1.len rfl (L 0 rfl rfl) Try.underlying22) ?_
 refine U.p rfl rfl (.inl rfl) (S.move rfl K) ?_
 refine U.done (nr rfl) ?_
 refine WP.blk ?_
 have ow47 := ow42.nil RT_TFunc
 have ow49 := ow47.drop 5 rfl
 have ow50 := ow49.pick 2 rfl
 have ow51 := ow50.pick 1 rfl
 have ow52 := ow51.pick 2 rfl
 have ow53 := ow52.pick 3 rfl
 have ow54 := ow53.pick 4 rfl
 unfold tidy_Module_l1 at h27
 obtain ⟨n56, hn55⟩ := loopO_some.1 h27
 refine WP.loopI2 (fun n l V' => ∃ (v44 : Value) (xs45 : List TFunc) (x46 : Int), l = [(3, .pointer (some ⟨b14, 0, none⟩)), (4, .pointer (some ⟨b19, 0, none⟩)), (5, .pointer (some ⟨b35, 0, none⟩)), (13, v1), (14, .int .i64 (p0.funcs.length : Int)), (15, .int .i64 x46)] ∧ V40.le V' ∧ Ow V' (.pt b14 (.cells 0 [.bool p1.fold, .bool p1.copy, .bool p1.dead]) :: .pt b19 (.cells 2 [.slice none 0 0, .slice none 0 0]) :: .pt b35 (.cells 2 [v44, v28]) :: .os RT_TFunc v44 xs45 :: .os (RT.int .i64) v28 x25 :: Rs) ∧ itO (fun s => tidy_Module_l1b p0 p1 x25 s.1 s.2) n (xs45, x46) = some r) n56 _ ⟨(.slice none 0 0), [], 0, rfl, .refl _, ow54, hn55⟩ (allCons (L 10 rfl rfl) (allCons (L 9 rfl rfl) (allCons (L 4 rfl rfl) (allCons (L 2 rfl rfl) (allCons (L 1 rfl rfl) (allCons (L 0 rfl rfl) allNil)))))) ?_
 rintro _ _ V57 ⟨v44, xs45, x46, rfl, le58, ow59, h63⟩
 obtain ⟨m60, q61, rfl, h64, e62⟩ := itS h63
 replace h64 : tidy_Module_l1b p0 p1 x25 xs45 x46 = some q61 := h64
 unfold tidy_Module_l1b at h64
 refine WP.usreg rfl ?_
 refine U.p rfl rfl (.inl rfl) (S.lss rfl (L 5 rfl rfl) (L 4 rfl rfl)) ?_
 refine U.done (nr rfl) ?_
 refine WP.seq ?_
 refine WP.cond _ (L 0 rfl rfl) rfl (fun c65 => ?_) (fun c65 => ?_)
 ·have h66 := ifT c65 h64
  refine WP.skip ?_
  refine sqN ?_
  refine WP.seq ?_
  refine WP.blk ?_
  refine WP.usreg rfl ?_
  obtain ⟨x67, hx68, h69⟩ := bindS h66
  obtain ⟨b70, o71, c72, cs73, hv74, hf75, hr76, hc77⟩ := f2.at hx68
  obtain ⟨v78, rfl, f79⟩ := hr76
  refine U.p rfl rfl (.inl rfl) (S.index rfl ((L 4 rfl rfl).trans hv74) (L 6 rfl rfl) Try.underlying22 ti38 (ix_ge hx68) (ix_lt hx68)) ?_
  refine U.k rfl rfl (.inl rfl) (S.loadN (cs := [.string x67.name, .int .i64 x67.params, .int .i64 x67.regs, v78]) rfl (L 0 rfl rfl) Try.underlying38 rfl ti38 rfl (fun j v hj => ((((((le11.trans le16).trans le21).trans le30).trans le37).trans le41).trans le58).cell hf75 (hc77 j v hj))) nd ?_
  refine O.alloc ow59 rfl rfl (.inl rfl) rfl ti38 rfl rfl nd (fun b80 V81 le82 ow83 => ?_)
  refine O.store (k := 0) (cs := [.string x67.name, .int .i64 x67.params, .int .i64 x67.regs, v78]) (c' := [.string x67.name, .int .i64 x67.params, .int .i64 x67.regs, v78]) ow83 rfl rfl rfl (.inl rfl) rfl (L 0 rfl rfl) (L 1 rfl rfl) ti38 (by simp [topV]) rfl rfl (nr rfl) (by have q0 := f79.one; simp only [List.all_cons, List.all_nil, q0]; rfl) rfl nd (fun V85 le86 ow87 => ?_)
  refine U.done (nr rfl) ?_
  refine WP.udreg rfl rfl rfl ?_
  refine U.p (v := .pointer (some ⟨b35, 0, none⟩)) rfl rfl (.inl rfl) (S.fieldAddr rfl (L 6 rfl rfl) Try.underlying25 rfl ti22 rfl rfl) ?_
  refine U.k rfl rfl (.inl rfl) (S.load rfl (L 0 rfl rfl) Try.underlying22 rfl ((ow87.own (k := 3) rfl).cell rfl)) (fun _ => (okH.nil (fun r h => by cases h; exact (ow87.own (k := 3) rfl).lt))) ?_
  refine U.k rfl rfl (.inl rfl) (S.loadB rfl (L 2 rfl rfl) Try.underlying38 rfl ti38 (ow87.own (k := 0) rfl).get rfl) (fun _ => (okH.cons trivial (okH.nil (fun r h => by cases h; exact (ow87.own (k := 0) rfl).lt)))) ?_
  refine U.k rfl rfl (.inl rfl) (S.loadB rfl (L 7 rfl rfl) Try.underlying27 rfl ti27 (ow87.own (k := 1) rfl).get rfl) (fun _ => (okH.cons trivial (okH.cons trivial (okH.nil (fun r h => by cases h; exact (ow87.own (k := 1) rfl).lt))))) ?_
  have f88 := f79.up ((((((((le11.trans le16).trans le21).trans le30).trans le37).trans le41).trans le58).trans le82).trans le86)
  obtain ⟨x89, hx90, h91⟩ := bindS h69
  refine O.call (V := V85) rfl rfl (.inl rfl) rfl en15 (aC (L 1 rfl rfl) (aC (L 0 rfl rfl) aN)) (wk_tidy_Func V85 _ x67 p1 v78 f88 ow87 _ hx90) (fun v92 V93 le94 hp95 => by obtain ⟨v97, rfl, f98, ow96⟩ := hp95; exact (fun _ => (okH.cons (Or.inl rfl) (okH.cons (Or.inl rfl) (okH.cons (Or.inr (((ow96.own (k := 3) rfl).get.trans (ow87.own (k := 3) rfl).get.symm))) (okH.nil (fun r h => nomatch h))))))) (fun v92 V93 le94 hp95 => ?_)
  obtain ⟨v97, rfl, f98, ow96⟩ := hp95
  refine O.lit (R := RT_TFunc) ow96 rfl rfl (.inl rfl) rfl Try.underlying22 ti38 rfl rfl rfl (nr rfl) rfl (aC (L 0 rfl rfl) aN) (.cons _ _ x89 _ (by simp [topV]) ⟨_, rfl, f98⟩ .nil) (fun _ => (fun _ => (okH.cons trivial (okH.cons trivial (okH.cons trivial (okH.cons trivial (okH.nil (fun r h => nomatch h)))))))) (fun v99 V100 le101 ow102 => ?_)
  obtain ⟨xs104, hx105, h106⟩ := bindS h91
  refine O.append (k := 5) ow102 rfl rfl rfl (.inl rfl) rfl (L 4 rfl rfl) (L 0 rfl rfl) Try.underlying22 ti38 rfl rfl (nr rfl) (ow102.src (k := 0) rfl Try.underlying22) hx105 (fun V1 hs => (fun _ => (okH.cons (Or.inl rfl) (okH.cons rfl (okH.cons (Or.inl rfl) (okH.cons (Or.inl rfl) (okH.cons (Or.inl rfl) (okH.nil (fun r h => nomatch h))))))))) (fun v107 V108 le109 ow110 => ?_)
  refine U.p (v := .pointer (some ⟨b35, 0, none⟩)) rfl rfl (.inl rfl) (S.fieldAddr rfl (L 13 rfl rfl) Try.underlying25 rfl ti22 rfl rfl) ?_
  refine O.store (k := 4) (cs := [v107]) (c' := [v107, v28]) ow110 rfl rfl rfl (.inl rfl) rfl (L 0 rfl rfl) (L 1 rfl rfl) ti22 (ow110.osne (k := 5) rfl) (by rw [ow110.oscells (k := 5) rfl]) rfl (nr rfl) (by have q0 := (ow110.osone (k := 5) rfl); simp only [List.all_cons, List.all_nil, q0]; rfl) rfl (fun _ => (okH.cons rfl (okH.cons (Or.inl rfl) (okH.cons rfl (okH.cons (Or.inl rfl) (okH.cons (Or.inl rfl) (okH.cons (Or.inl rfl) (okH.nil (fun r h => nomatch h))))))))) (fun V112 le113 ow114 => ?_)
  refine U.done (nr rfl) ?_
  refine blkN (sqN ?_)
  refine WP.ureg rfl ?_
  refine U.p rfl rfl (.inl rfl) (S.add rfl (L 17 rfl rfl) K) ?_
  refine U.p rfl rfl (.inl rfl) (S.move rfl (L 0 rfl rfl)) ?_
  refine U.done (nr rfl) ?_
  refine sqN ?_
  have ow115 := ow114.drop 0 rfl
  have ow116 := ow115.drop 0 rfl
  exact ⟨_, V112, rfl, ⟨m60, Nat.lt_succ_self _, v107, xs104, w64 (x46 + 1), rfl, ((((((le58.trans le82).trans le86).trans le94).trans le101).trans le109).trans le113), ow116, backS h106 e62⟩, (allCons (L 14 rfl rfl) (allCons (L 15 rfl rfl) (allCons (L 16 rfl rfl) (allCons (L 17 rfl rfl) (allCons (L 18 rfl rfl) (allCons (L 0 rfl rfl) allNil))))))⟩
 ·have h117 := ifF c65 h64
  refine WP.exit ?_
  refine sqE (sqE (blkE (sqN ?_)))
  have h118 := exitS h117 e62
  refine WP.usreg rfl ?_
  refine U.k rfl rfl (.inl rfl) (S.loadB rfl (L 3 rfl rfl) Try.underlying25 rfl ti25 (ow59.own (k := 2) rfl).get rfl) nd ?_
  refine O.store (k := 1) (cs := [v44, v28]) (c' := [v44, v28]) ow59 rfl rfl rfl (.inl rfl) rfl (L 3 rfl rfl) (L 0 rfl rfl) ti25 (by simp [topV]) rfl rfl (nr rfl) (by have q0 := (ow59.osone (k := 3) rfl); have q1 := (ow59.osone (k := 4) rfl); simp only [List.all_cons, List.all_nil, q0, q1]; rfl) rfl nd (fun V119 le120 ow121 => ?_)
  refine U.done (nr rfl) ?_
  refine WP.ret ?_
  obtain ⟨V122, eV126, le123, f124, ow125⟩ := ow121.osfz (k := 3) rfl
  rw [← eV126]
  obtain ⟨V128, eV132, le129, f130, ow131⟩ := ow125.osfz (k := 3) rfl
  rw [← eV132]
  have f134 := f124.up le129
  refine fin.cellN (.inr rfl) rfl (L 3 rfl rfl) Try.underlying25 rfl ti25 (ow131.own (k := 1) rfl).get rfl ⟨V128, rfl, (((((((((le11.trans le16).trans le21).trans le30).trans le37).trans le41).trans le58).trans le120).trans le123).trans le129), ?_⟩
  have ow135 := ow131.drop 0 rfl
  have ow136 := ow135.drop 0 rfl
  have ow137 := ow136.drop 0 rfl
  have e138 := Option.some.inj h118
  subst e138
  exact ⟨v44, v28, rfl, f134, f130, ow137⟩
theorem wk_rM_do (V : Vw) (Rs : List At) (p0 : TrM) (p1 : Int) (p2 : Int) (p3 : Int) (p4 : TIns) (b1 : Nat) (z2 : Nat) (v4 : Value) (v6 : Value) (v8 : Value) (v10 : Value) (v12 : Value) (v14 : Value) (f5 : Fz RT_TFunc V v4 p0.m.funcs) (f7 : Fz (RT.int .i64) V v6 p0.m.threads) (f9 : Fz (RT.int .i64) V v8 p0.reads) (f15 : Fz (RT.int .i64) V v14 p4.args) (ow : Ow V (.pt b1 (.cells z2 [v4, v6, .int .i64 p0.me, v8, .int .i64 p0.fuel, .int .i64 p0.used, v10, v12, .bool p0.over, .bool p0.ended, .int .i64 p0.most]) :: .om (RT.int .i64) false v10 p0.held :: .os RT_TAct v12 p0.acts :: Rs)) (r : TrM) (h : rM_do p0 p1 p2 p3 p4 = some r) : ∃ v V', Cl Try.prog 0 24 #[.pointer (some ⟨b1, 0, none⟩), .int .i64 p1, .int .i64 p2, .int .i64 p3, .agg #[.int .i64 p4.op, .int .i64 p4.d, .int .i64 p4.a, .int .i64 p4.b, .int .i64 p4.imm, v14, .int .i64 p4.what, .bool p4.volatile, .bool p4.final]] V.H v V'.H ∧ V.le V' ∧ (∃ (v16 : Value) (v18 : Value) (v20 : Value) (v22 : Value) (v24 : Value), Fz RT_TFunc V' v16 r.m.funcs ∧ Fz (RT.int .i64) V' v18 r.m.threads ∧ Fz (RT.int .i64) V' v20 r.reads ∧ Ow V' (.pt b1 (.cells z2 [v16, v18, .int .i64 r.me, v20, .int .i64 r.fuel, .int .i64 r.used, v22, v24, .bool r.over, .bool r.ended, .int .i64 r.most]) :: .om (RT.int .i64) false v22 r.held :: .os RT_TAct v24 r.acts :: Rs)) := by
 refine Ct.of (Nat.zero_le _) Try.func24 rfl (nr rfl) ?_
 unfold rM_do at h
 refine WP.usreg rfl ?_
 refine O.box ow rfl rfl (.inl rfl) rfl (L 4 rfl rfl) (by simp [topV]) rfl nd (fun b26 V27 le28 ow29 => ?_)
 refine U.done (nr rfl) ?_
 refine WP.udreg rfl rfl rfl ?_
 refine U.p rfl rfl (.inl rfl) (S.move rfl (L 1 rfl rfl)) ?_
 refine U.p rfl rfl (.inl rfl) (S.move rfl (L 2 rfl rfl)) ?_
 refine U.p rfl rfl (.inl rfl) (S.nilCheck rfl (L 0 rfl rfl)) ?_
 refine U.p (v := .pointer (some ⟨b1, 7, none⟩)) rfl rfl (.inl rfl) (S.fieldAddr rfl (L 0 rfl rfl) Try.underlying58 rfl ti31 rfl rfl) ?_
 refine U.k rfl rfl (.inl rfl) (S.load rfl (L 0 rfl rfl) Try.underlying31 rfl ((ow29.own (k := 1) rfl).cell rfl)) (fun _ => (okH.nil (fun r h => by cases h; exact (ow29.own (k := 1) rfl).lt))) ?_
 refine U.p rfl rfl (.inl rfl) (S.move rfl (L 7 rfl rfl)) ?_
 refine U.p rfl rfl (.inl rfl) (S.move rfl (L 9 rfl rfl)) ?_
 refine U.p rfl rfl (.inl rfl) (S.move rfl (L 11 rfl rfl)) ?_
 refine U.p (v := .pointer (some ⟨b26, 6, none⟩)) rfl rfl (.inl rfl) (S.fieldAddr rfl (L 8 rfl rfl) Try.underlying44 rfl ti3 rfl rfl) ?_
 refine U.k rfl rfl (.inl rfl) (S.load rfl (L 0 rfl rfl) Try.underlying3 rfl ((ow29.own (k := 0) rfl).cell rfl)) (fun _ => (okH.cons trivial (okH.nil (fun r h => by cases h; exact (ow29.own (k := 0) rfl).lt)))) ?_
 refine U.p (v := .pointer (some ⟨b26, 7, none⟩)) rfl rfl (.inl rfl) (S.fieldAddr rfl (L 10 rfl rfl) Try.underlying44 rfl ti4 rfl rfl) ?_
 refine U.k rfl rfl (.inl rfl) (S.load rfl (L 0 rfl rfl) Try.underlying4 rfl ((ow29.own (k := 0) rfl).cell rfl)) (fun _ => (okH.cons trivial (okH.cons trivial (okH.nil (fun r h => by cases h; exact (ow29.own (k := 0) rfl).lt))))) ?_
 refine U.p (v := .pointer (some ⟨b26, 8, none⟩)) rfl rfl (.inl rfl) (S.fieldAddr rfl (L 12 rfl rfl) Try.underlying44 rfl ti4 rfl rfl) ?_
 refine U.k rfl rfl (.inl rfl) (S.load rfl (L 0 rfl rfl) Try.underlying4 rfl ((ow29.own (k := 0) rfl).cell rfl)) (fun _ => (okH.cons trivial (okH.cons trivial (okH.cons trivial (okH.nil (fun r h => by cases h; exact (ow29.own (k := 0) rfl).lt)))))) ?_
 refine U.p (v := .agg #[.int .i64 p1, .int .i64 p2, .int .i64 p3, .int .i64 p4.what, .bool p4.volatile, .bool p4.final]) rfl rfl (.inl rfl) (S.build (vs := [.int .i64 p1, .int .i64 p2, .int .i64 p3, .int .i64 p4.what, .bool p4.volatile, .bool p4.final]) rfl ti51 rfl pl51 (aC (L 8 rfl rfl) (aC (L 7 rfl rfl) (aC (L 6 rfl rfl) (aC (L 4 rfl rfl) (aC (L 2 rfl rfl) (aC (L 0 rfl rfl) aN)))))) (allC (by simp [topV]) (allC (by simp [topV]) (allC (by simp [topV]) (allC (by simp [topV]) (allC (by simp [topV]) (allC (by simp [topV]) allN)))))) rfl) ?_
 refine O.lit (R := RT_TAct) ow29 rfl rfl (.inl rfl) rfl Try.underlying31 ti51 rfl rfl rfl (nr rfl) rfl (aC (L 0 rfl rfl) aN) (.cons _ _ (⟨p1, p2, p3, p4.what, p4.volatile, p4.final⟩ : TAct) _ (by simp [topV]) rfl .nil) (fun _ => (fun _ => (okH.cons trivial (okH.cons trivial (okH.cons trivial (okH.cons trivial (okH.nil (fun r h => nomatch h)))))))) (fun v31 V32 le33 ow34 => ?_)
 obtain ⟨xs36, hx37, h38⟩ := bindS h
 refine O.append (k := 4) ow34 rfl rfl rfl (.inl rfl) rfl (L 11 rfl rfl) (L 0 rfl rfl) Try.underlying31 ti51 rfl rfl (nr rfl) (ow34.src (k := 0) rfl Try.underlying31) hx37 (fun V1 hs => (fun _ => (okH.cons (Or.inl rfl) (okH.cons (Or.inl rfl) (okH.cons (Or.inl rfl) (okH.cons (Or.inl rfl) (okH.cons (Or.inl rfl) (okH.nil (fun r h => nomatch h))))))))) (fun v39 V40 le41 ow42 => ?_)
 refine U.p rfl rfl (.inl rfl) (S.nilCheck rfl (L 16 rfl rfl)) ?_
 refine U.p (v := .pointer (some ⟨b1, 7, none⟩)) rfl rfl (.inl rfl) (S.fieldAddr rfl (L 0 rfl rfl) Try.underlying58 rfl ti31 rfl rfl) ?_
 refine O.store (k := 2) (cs := [v39]) (c' := [v4, v6, .int .i64 p0.me, v8, .int .i64 p0.fuel, .int .i64 p0.used, v10, v39, .bool p0.over, .bool p0.ended, .int .i64 p0.most]) ow42 rfl rfl rfl (.inl rfl) rfl (L 0 rfl rfl) (L 2 rfl rfl) ti31 (ow42.osne (k := 4) rfl) (by rw [ow42.oscells (k := 4) rfl]) rfl (nr rfl) (by have q0 := (ow42.osone (k := 4) rfl); simp only [List.all_cons, List.all_nil, q0]; rfl) rfl (fun _ => (okH.cons rfl (okH.cons (Or.inl rfl) (okH.cons (Or.inl rfl) (okH.cons (Or.inl rfl) (okH.cons (Or.inl rfl) (okH.cons (Or.inl rfl) (okH.nil (fun r h => nomatch h))))))))) (fun V44 le45 ow46 => ?_)
 refine U.done (nr rfl) ?_
 have f47 := f5.up (((le28.trans le33).trans le41).trans le45)
 have f48 := f7.up (((le28.trans le33).trans le41).trans le45)
 have f49 := f9.up (((le28.trans le33).trans le41).trans le45)
 refine fin.slots' (.inl rfl) fsN rfl ⟨V44, rfl, (((le28.trans le33).trans le41).trans le45), ?_⟩
 have ow50 := ow46.drop 0 rfl
 have ow51 := ow50.drop 0 rfl
 have e52 := Option.some.inj h38
 subst e52
 exact ⟨v4, v6, v8, v10, v39, f47, f48, f49, ow51⟩
theorem wk_rM_trap (V : Vw) (Rs : List At) (p0 : TrM) (p1 : Int) (b1 : Nat) (z2 : Nat) (v4 : Value) (v6 : Value) (v8 : Value) (v10 : Value) (v12 : Value) (f5 : Fz RT_TFunc V v4 p0.m.funcs) (f7 : Fz (RT.int .i64) V v6 p0.m.threads) (f9 : Fz (RT.int .i64) V v8 p0.reads) (ow : Ow V (.pt b1 (.cells z2 [v4, v6, .int .i64 p0.me, v8, .int .i64 p0.fuel, .int .i64 p0.used, v10, v12, .bool p0.over, .bool p0.ended, .int .i64 p0.most]) :: .om (RT.int .i64) false v10 p0.held :: .os RT_TAct v12 p0.acts :: Rs)) (r : TrM) (h : rM_trap p0 p1 = some r) : ∃ v V', Cl Try.prog 0 35 #[.pointer (some ⟨b1, 0, none⟩), .int .i64 p1] V.H v V'.H ∧ V.le V' ∧ (∃ (v14 : Value) (v16 : Value) (v18 : Value) (v20 : Value) (v22 : Value), Fz RT_TFunc V' v14 r.m.funcs ∧ Fz (RT.int .i64) V' v16 r.m.threads ∧ Fz (RT.int .i64) V' v18 r.reads ∧ Ow V' (.pt b1 (.cells z2 [v14, v16, .int .i64 r.me, v18, .int .i64 r.fuel, .int .i64 r.used, v20, v22, .bool r.over, .bool r.ended, .int .i64 r.most]) :: .om (RT.int .i64) false v20 r.held :: .os RT_TAct v22 r.acts :: Rs)) := by
 refine Ct.of (Nat.zero_le _) Try.func35 rfl (nr rfl) ?_
 unfold rM_trap at h
 refine WP.usreg rfl ?_
 refine U.p rfl rfl (.inl rfl) (S.move rfl (L 0 rfl rfl)) ?_
 refine U.p rfl rfl (.inl rfl) (S.move rfl (L 2 rfl rfl)) ?_
 refine U.p (v := .agg #[.int .i64 0, .int .i64 0, .int .i64 0, .int .i64 0, .int .i64 0, .slice none 0 0, .int .i64 0, .bool false, .bool false]) rfl rfl (.inl rfl) (S.build (vs := []) rfl ti44 rfl pl44 aN allN rfl) ?_
 have ow24 := ow.pick 2 rfl
 have ow25 := ow24.pick 2 rfl
 have ow26 := ow25.pick 2 rfl
 obtain ⟨x27, hx28, h29⟩ := bindS h
 refine O.call (V := V) rfl rfl (.inl rfl) rfl en24 (aC (L 2 rfl rfl) (aC K (aC K (aC (L 1 rfl rfl) (aC (L 0 rfl rfl) aN))))) (wk_rM_do V _ p0 4 0 p1 (⟨0, 0, 0, 0, 0, [], 0, false, false⟩ : TIns) b1 z2 v4 v6 v8 v10 v12 (.slice none 0 0) f5 f7 f9 Fz.nil ow26 _ hx28) (fun _ _ _ _ => nd) (fun v30 V31 le32 hp33 => ?_)
 obtain ⟨v35, v37, v39, v41, v43, f36, f38, f40, ow34⟩ := hp33
 refine U.done (nr rfl) ?_
 refine WP.usreg rfl ?_
 refine U.p rfl rfl (.inl rfl) (S.move rfl (L 4 rfl rfl)) ?_
 refine U.p rfl rfl (.inl rfl) (S.nilCheck rfl (L 0 rfl rfl)) ?_
 refine U.p (v := .pointer (some ⟨b1, 8, none⟩)) rfl rfl (.inl rfl) (S.fieldAddr rfl (L 0 rfl rfl) Try.underlying58 rfl ti4 rfl rfl) ?_
 refine O.store (k := 0) (cs := [.bool true]) (c' := [v35, v37, .int .i64 x27.me, v39, .int .i64 x27.fuel, .int .i64 x27.used, v41, v43, .bool true, .bool x27.ended, .int .i64 x27.most]) ow34 rfl rfl rfl (.inl rfl) rfl (L 0 rfl rfl) K ti4 (by simp [topV]) rfl rfl (nr rfl) rfl rfl nd (fun V45 le46 ow47 => ?_)
 refine U.done (nr rfl) ?_
 refine WP.ureg rfl ?_
 refine U.p rfl rfl (.inl rfl) (S.move rfl (L 7 rfl rfl)) ?_
 refine U.p rfl rfl (.inl rfl) (S.nilCheck rfl (L 0 rfl rfl)) ?_
 refine U.p (v := .pointer (some ⟨b1, 9, none⟩)) rfl rfl (.inl rfl) (S.fieldAddr rfl (L 0 rfl rfl) Try.underlying58 rfl ti4 rfl rfl) ?_
 refine O.store (k := 0) (cs := [.bool true]) (c' := [v35, v37, .int .i64 x27.me, v39, .int .i64 x27.fuel, .int .i64 x27.used, v41, v43, .bool true, .bool true, .int .i64 x27.most]) ow47 rfl rfl rfl (.inl rfl) rfl (L 0 rfl rfl) K ti4 (by simp [topV]) rfl rfl (nr rfl) rfl rfl nd (fun V48 le49 ow50 => ?_)
 refine U.done (nr rfl) ?_
 have f51 := f36.up (le46.trans le49)
 have f52 := f38.up (le46.trans le49)
 have f53 := f40.up (le46.trans le49)
 refine fin.slots' (.inl rfl) fsN rfl ⟨V48, rfl, ((le32.trans le46).trans le49), ?_⟩
 have e54 := Option.some.inj h29
 subst e54
 exact ⟨v35, v37, v39, v41, v43, f51, f52, f53, ow50⟩
theorem wk_ref08_reckon (V : Vw) (Rs : List At) (p0 : Int) (p1 : Int) (p2 : Int) (ow : Ow V (Rs)) (r : Int) (h : ref08_reckon p0 p1 p2 = some r) : ∃ v V', Cl Try.prog 0 36 #[.int .i64 p0, .int .i64 p1, .int .i64 p2] V.H v V'.H ∧ V.le V' ∧ (v = .int .i64 r ∧ Ow V' (Rs)) := by
 refine Ct.of (Nat.zero_le _) Try.func36 rfl (nr rfl) ?_
 unfold ref08_reckon at h
 refine WP.usreg rfl ?_
 refine U.p rfl rfl (.inl rfl) (S.assign rfl K) ?_
 refine U.done (nr rfl) ?_
 refine WP.usreg rfl ?_
 refine U.p rfl rfl (.inl rfl) (S.move rfl (L 1 rfl rfl)) ?_
 refine U.p rfl rfl (.inl rfl) (S.eqlI rfl (L 0 rfl rfl) K) ?_
 refine U.p rfl rfl (.inl rfl) (S.move rfl (L 0 rfl rfl)) ?_
 refine U.joinX 7 (fun e H => ∃ (u1 u2 u3 : Value), H = V.H ∧ e = [(14, .bool ((decide (p0 = 7)) && (decide (p1 < p2)))), (13, u1), (12, u2), (11, u3)]) ?_ ?_
 ·rintro _ _ ⟨u1, u2, u3, rfl, rfl⟩
  refine U.p rfl rfl (.inl rfl) (S.move rfl (L 0 rfl rfl)) ?_
  refine U.joinX 16 (fun e H => ∃ (u7 u8 u9 u10 u11 u12 u13 : Value), H = V.H ∧ e = [(23, .bool (((decide (p0 = 7)) && (decide (p1 < p2))) || ((decide (p0 = 8)) && (decide (p1 = p2))))), (22, u7), (21, u8), (20, u9), (19, u10), (18, u11), (17, u12), (16, u13)]) ?_ ?_
  ·rintro _ _ ⟨u7, u8, u9, u10, u11, u12, u13, rfl, rfl⟩
   refine U.p rfl rfl (.inl rfl) (S.assign rfl (L 0 rfl rfl)) ?_
   refine U.done (nr rfl) ?_
   refine WP.seq ?_
   refine WP.usreg rfl ?_
   refine U.p rfl rfl (.inl rfl) (S.move rfl (L 0 rfl rfl)) ?_
   refine U.done (nr rfl) ?_
   refine WP.cond _ (L 0 rfl rfl) rfl (fun c17 => ?_) (fun c17 => ?_)
   ·have h18 := ifT c17 h
    refine WP.usreg rfl ?_
    refine U.p rfl rfl (.inl rfl) (S.assign rfl K) ?_
    refine U.done (nr rfl) ?_
    refine WP.ret ?_
    refine sqR ?_
    refine fin.slot (.inr rfl) rfl (L 0 rfl rfl) ⟨V, rfl, (.refl _), ?_⟩
    have e19 := Option.some.inj h18
    subst e19
    exact ⟨rfl, ow⟩
   ·have h20 := ifF c17 h
    refine WP.skip ?_
    refine sqN ?_
    refine WP.seq ?_
    refine WP.usreg rfl ?_
    refine U.p rfl rfl (.inl rfl) (S.move rfl (L 19 rfl rfl)) ?_
    refine U.done (nr rfl) ?_
    refine WP.blk ?_
    refine WP.usreg rfl ?_
    refine U.p rfl rfl (.inl rfl) (S.eqlI rfl (L 0 rfl rfl) K) ?_
    refine U.p rfl rfl (.inl rfl) (S.assign rfl (L 0 rfl rfl)) ?_
    refine U.done (nr rfl) ?_
    refine WP.cond _ (L 0 rfl rfl) rfl (fun c21 => ?_) (fun c21 => ?_)
    ·have h22 := ifT c21 h20
     refine WP.usreg rfl ?_
     refine U.p rfl rfl (.inl rfl) (S.move rfl (L 23 rfl rfl)) ?_
     refine U.p rfl rfl (.inl rfl) (S.move rfl (L 25 rfl rfl)) ?_
     refine U.p rfl rfl (.inl rfl) (S.add rfl (L 1 rfl rfl) (L 0 rfl rfl)) ?_
     refine U.p rfl rfl (.inl rfl) (S.assign rfl (L 0 rfl rfl)) ?_
     refine U.done (nr rfl) ?_
     refine WP.ret ?_
     refine blkR (sqR ?_)
     refine fin.slot (.inr rfl) rfl (L 0 rfl rfl) ⟨V, rfl, (.refl _), ?_⟩
     have e23 := Option.some.inj h22
     subst e23
     exact ⟨rfl, ow⟩
    ·have h24 := ifF c21 h20
     refine WP.usreg rfl ?_
     refine U.p rfl rfl (.inl rfl) (S.eqlI rfl (L 2 rfl rfl) K) ?_
     refine U.p rfl rfl (.inl rfl) (S.assign rfl (L 0 rfl rfl)) ?_
     refine U.done (nr rfl) ?_
     refine WP.cond _ (L 0 rfl rfl) rfl (fun c25 => ?_) (fun c25 => ?_)
     ·have h26 := ifT c25 h24
      refine WP.usreg rfl ?_
      refine U.p rfl rfl (.inl rfl) (S.move rfl (L 25 rfl rfl)) ?_
      refine U.p rfl rfl (.inl rfl) (S.move rfl (L 27 rfl rfl)) ?_
      refine U.p rfl rfl (.inl rfl) (S.sub rfl (L 1 rfl rfl) (L 0 rfl rfl)) ?_
      refine U.p rfl rfl (.inl rfl) (S.assign rfl (L 0 rfl rfl)) ?_
      refine U.done (nr rfl) ?_
      refine WP.ret ?_
      refine blkR (sqR ?_)
      refine fin.slot (.inr rfl) rfl (L 0 rfl rfl) ⟨V, rfl, (.refl _), ?_⟩
      have e27 := Option.some.inj h26
      subst e27
      exact ⟨rfl, ow⟩
     ·have h28 := ifF c25 h24
      refine WP.usreg rfl ?_
      refine U.p rfl rfl (.inl rfl) (S.eqlI rfl (L 4 rfl rfl) K) ?_
      refine U.p rfl rfl (.inl rfl) (S.assign rfl (L 0 rfl rfl)) ?_
      refine U.done (nr rfl) ?_
      refine WP.cond _ (L 0 rfl rfl) rfl (fun c29 => ?_) (fun c29 => ?_)
      ·have h30 := ifT c29 h28
       refine WP.usreg rfl ?_
       refine U.p rfl rfl (.inl rfl) (S.move rfl (L 27 rfl rfl)) ?_
       refine U.p rfl rfl (.inl rfl) (S.move rfl (L 29 rfl rfl)) ?_
       refine U.p rfl rfl (.inl rfl) (S.mul rfl (L 1 rfl rfl) (L 0 rfl rfl)) ?_
       refine U.p rfl rfl (.inl rfl) (S.assign rfl (L 0 rfl rfl)) ?_
       refine U.done (nr rfl) ?_
       refine WP.ret ?_
       refine blkR (sqR ?_)
       refine fin.slot (.inr rfl) rfl (L 0 rfl rfl) ⟨V, rfl, (.refl _), ?_⟩
       have e31 := Option.some.inj h30
       subst e31
       exact ⟨rfl, ow⟩
      ·have h32 := ifF c29 h28
       refine WP.usreg rfl ?_
       refine U.p rfl rfl (.inl rfl) (S.eqlI rfl (L 6 rfl rfl) K) ?_
       refine U.p rfl rfl (.inl rfl) (S.assign rfl (L 0 rfl rfl)) ?_
       refine U.done (nr rfl) ?_
       refine WP.cond _ (L 0 rfl rfl) rfl (fun c33 => ?_) (fun c33 => ?_)
       ·have h34 := ifT c33 h32
        refine WP.seq ?_
        refine WP.usreg rfl ?_
        refine U.p rfl rfl (.inl rfl) (S.move rfl (L 30 rfl rfl)) ?_
        refine U.p rfl rfl (.inl rfl) (S.eqlI rfl (L 0 rfl rfl) K) ?_
        refine U.done (nr rfl) ?_
        refine WP.cond _ (L 0 rfl rfl) rfl (fun c35 => ?_) (fun c35 => ?_)
        ·have h36 := ifT c35 h34
         refine WP.usreg rfl ?_
         refine U.p rfl rfl (.inl rfl) (S.assign rfl K) ?_
         refine U.done (nr rfl) ?_
         refine WP.ret ?_
         refine sqR (blkR (sqR ?_))
         refine fin.slot (.inr rfl) rfl (L 0 rfl rfl) ⟨V, rfl, (.refl _), ?_⟩
         have e37 := Option.some.inj h36
         subst e37
         exact ⟨rfl, ow⟩
        ·have h38 := ifF c35 h34
         refine WP.skip ?_
         refine sqN ?_
         refine WP.seq ?_
         refine WP.usreg rfl ?_
         refine U.p rfl rfl (.inl rfl) (S.move rfl (L 32 rfl rfl)) ?_
         refine U.p rfl rfl (.inl rfl) (S.eqlI rfl (L 0 rfl rfl) K) ?_
         refine U.done (nr rfl) ?_
         refine WP.cond _ (L 0 rfl rfl) rfl (fun c39 => ?_) (fun c39 => ?_)
         ·have h40 := ifT c39 h38
          refine WP.usreg rfl ?_
          refine U.p rfl rfl (.inl rfl) (S.move rfl (L 33 rfl rfl)) ?_
          refine U.p rfl rfl (.inl rfl) (S.sub rfl K (L 0 rfl rfl)) ?_
          refine U.p rfl rfl (.inl rfl) (S.assign rfl (L 0 rfl rfl)) ?_
          refine U.done (nr rfl) ?_
          refine WP.ret ?_
          refine sqR (blkR (sqR ?_))
          refine fin.slot (.inr rfl) rfl (L 0 rfl rfl) ⟨V, rfl, (.refl _), ?_⟩
          have e41 := Option.some.inj h40
          subst e41
          exact ⟨rfl, ow⟩
         ·have h42 := ifF c39 h38
          refine WP.skip ?_
          refine sqN ?_
          refine WP.usreg rfl ?_
          refine U.p rfl rfl (.inl rfl) (S.move rfl (L 33 rfl rfl)) ?_
          refine U.p rfl rfl (.inl rfl) (S.move rfl (L 35 rfl rfl)) ?_
          obtain ⟨x43, hx44, h45⟩ := bindS h42
          refine U.p rfl rfl (.inl rfl) (S.quo hx44 rfl (L 1 rfl rfl) (L 0 rfl rfl)) ?_
          refine U.p rfl rfl (.inl rfl) (S.assign rfl (L 0 rfl rfl)) ?_
          refine U.done (nr rfl) ?_
          refine WP.ret ?_
          refine blkR (sqR ?_)
          refine fin.slot (.inr rfl) rfl (L 0 rfl rfl) ⟨V, rfl, (.refl _), ?_⟩
          have e46 := Option.some.inj h45
          subst e46
          exact ⟨rfl, ow⟩
       ·have h47 := ifF c33 h32
        refine WP.skip ?_
        refine blkN (sqN ?_)
        refine WP.usreg rfl ?_
        refine U.p rfl rfl (.inl rfl) (S.assign rfl K) ?_
        refine U.done (nr rfl) ?_
        refine WP.ret ?_
        refine fin.slot (.inr rfl) rfl (L 0 rfl rfl) ⟨V, rfl, (.refl _), ?_⟩
        have e48 := Option.some.inj h47
        subst e48
        exact ⟨rfl, ow⟩
  ·intro kk
   refine bcase (b := (decide (p0 = 7)) && (decide (p1 < p2))) (fun g49 => ?_) (fun g49 => ?_)
   ·skip
    refine U.x rfl rfl rfl rfl ((L 0 rfl rfl).trans (cB g49)) (by decide) ?_
    refine U.x rfl rfl rfl rfl ((L 1 rfl rfl).trans (cB g49)) (by decide) ?_
    refine U.x rfl rfl rfl rfl ((L 2 rfl rfl).trans (cB g49)) (by decide) ?_
    refine U.z rfl rfl rfl rfl (L 0 rfl rfl) ?_
    refine U.z rfl rfl rfl rfl (L 1 rfl rfl) ?_
    refine U.z rfl rfl rfl rfl (L 2 rfl rfl) ?_
    refine U.x rfl rfl rfl rfl ((L 6 rfl rfl).trans (cB g49)) (by decide) ?_
    refine U.p rfl rfl (.inl rfl) (S.pickT rfl ((L 7 rfl rfl).trans (cB g49)) K) ?_
    exact kk [(23, .bool true), (22, .tuple #[]), (21, .tuple #[]), (20, .tuple #[]), (19, .tuple #[]), (18, .tuple #[]), (17, .tuple #[]), (16, .tuple #[])] _ ⟨.tuple #[], .tuple #[], .tuple #[], .tuple #[], .tuple #[], .tuple #[], .tuple #[], rfl, (by rw [g49, Bool.true_or])⟩
   ·skip
    refine U.p rfl rfl (.inr ⟨_, _, _, rfl, rfl, ((L 0 rfl rfl).trans (cB g49))⟩) (S.move rfl (L 9 rfl rfl)) ?_
    refine U.p rfl rfl (.inr ⟨_, _, _, rfl, rfl, ((L 1 rfl rfl).trans (cB g49))⟩) (S.eqlI rfl (L 0 rfl rfl) K) ?_
    refine U.p rfl rfl (.inr ⟨_, _, _, rfl, rfl, ((L 2 rfl rfl).trans (cB g49))⟩) (S.move rfl (L 0 rfl rfl)) ?_
    refine U.joinX 15 (fun e H => ∃ (u50 u51 u52 : Value), H = V.H ∧ e = [(22, .bool ((decide (p0 = 8)) && (decide (p1 = p2)))), (21, u50), (20, u51), (19, u52)]) ?_ ?_
    ·rintro _ _ ⟨u50, u51, u52, rfl, rfl⟩
     refine U.p rfl rfl (.inl rfl) (S.pickF rfl ((L 7 rfl rfl).trans (cB g49)) (L 0 rfl rfl)) ?_
     exact kk [(23, .bool ((decide (p0 = 8)) && (decide (p1 = p2)))), (22, .bool ((decide (p0 = 8)) && (decide (p1 = p2)))), (21, u50), (20, u51), (19, u52), (18, .bool (decide (p0 = 8))), (17, .bool (decide (p0 = 8))), (16, .int .i64 p0)] _ ⟨.bool ((decide (p0 = 8)) && (decide (p1 = p2))), u50, u51, u52, .bool (decide (p0 = 8)), .bool (decide (p0 = 8)), .int .i64 p0, rfl, (by rw [g49, Bool.false_or])⟩
    ·intro kk
     refine bcase (b := decide (p0 = 8)) (fun g56 => ?_) (fun g56 => ?_)
     ·skip
      refine U.p rfl rfl (.inr ⟨_, _, _, rfl, rfl, ((L 0 rfl rfl).trans (cB g56))⟩) (S.move rfl (L 13 rfl rfl)) ?_
      refine U.p rfl rfl (.inr ⟨_, _, _, rfl, rfl, ((L 1 rfl rfl).trans (cB g56))⟩) (S.move rfl (L 15 rfl rfl)) ?_
      refine U.p rfl rfl (.inr ⟨_, _, _, rfl, rfl, ((L 2 rfl rfl).trans (cB g56))⟩) (S.eqlI rfl (L 1 rfl rfl) (L 0 rfl rfl)) ?_
      refine U.p rfl rfl (.inr ⟨_, _, _, rfl, rfl, ((L 6 rfl rfl).trans (cB g49))⟩) (S.pickT rfl ((L 3 rfl rfl).trans (cB g56)) (L 0 rfl rfl)) ?_
      exact kk [(22, .bool (decide (p1 = p2))), (21, .bool (decide (p1 = p2))), (20, .int .i64 p2), (19, .int .i64 p1)] _ ⟨.bool (decide (p1 = p2)), .int .i64 p2, .int .i64 p1, rfl, (by rw [g56, Bool.true_and])⟩
     ·skip
      refine U.x rfl rfl rfl rfl ((L 0 rfl rfl).trans (cB g56)) (by decide) ?_
      refine U.x rfl rfl rfl rfl ((L 1 rfl rfl).trans (cB g56)) (by decide) ?_
      refine U.x rfl rfl rfl rfl ((L 2 rfl rfl).trans (cB g56)) (by decide) ?_
      refine U.p rfl rfl (.inr ⟨_, _, _, rfl, rfl, ((L 6 rfl rfl).trans (cB g49))⟩) (S.pickF rfl ((L 3 rfl rfl).trans (cB g56)) K) ?_
      exact kk [(22, .bool false), (21, .tuple #[]), (20, .tuple #[]), (19, .tuple #[])] _ ⟨.tuple #[], .tuple #[], .tuple #[], rfl, (by rw [g56, Bool.false_and])⟩
 ·intro kk
  refine bcase (b := decide (p0 = 7)) (fun g57 => ?_) (fun g57 => ?_)
  ·skip
   refine U.p rfl rfl (.inr ⟨_, _, _, rfl, rfl, ((L 0 rfl rfl).trans (cB g57))⟩) (S.move rfl (L 5 rfl rfl)) ?_
   refine U.p rfl rfl (.inr ⟨_, _, _, rfl, rfl, ((L 1 rfl rfl).trans (cB g57))⟩) (S.move rfl (L 7 rfl rfl)) ?_
   refine U.p rfl rfl (.inr ⟨_, _, _, rfl, rfl, ((L 2 rfl rfl).trans (cB g57))⟩) (S.lss rfl (L 1 rfl rfl) (L 0 rfl rfl)) ?_
   refine U.p rfl rfl (.inl rfl) (S.pickT rfl ((L 3 rfl rfl).trans (cB g57)) (L 0 rfl rfl)) ?_
   exact kk [(14, .bool (decide (p1 < p2))), (13, .bool (decide (p1 < p2))), (12, .int .i64 p2), (11, .int .i64 p1)] _ ⟨.bool (decide (p1 < p2)), .int .i64 p2, .int .i64 p1, rfl, (by rw [g57, Bool.true_and])⟩
  ·skip
   refine U.x rfl rfl rfl rfl ((L 0 rfl rfl).trans (cB g57)) (by decide) ?_
   refine U.x rfl rfl rfl rfl ((L 1 rfl rfl).trans (cB g57)) (by decide) ?_
   refine U.x rfl rfl rfl rfl ((L 2 rfl rfl).trans (cB g57)) (by decide) ?_
   refine U.p rfl rfl (.inl rfl) (S.pickF rfl ((L 3 rfl rfl).trans (cB g57)) K) ?_
   exact kk [(14, .bool false), (13, .tuple #[]), (12, .tuple #[]), (11, .tuple #[])] _ ⟨.tuple #[], .tuple #[], .tuple #[], rfl, (by rw [g57, Bool.false_and])⟩
theorem wk_rM_read (V : Vw) (Rs : List At) (p0 : TrM) (b1 : Nat) (z2 : Nat) (v4 : Value) (v6 : Value) (v8 : Value) (v10 : Value) (v12 : Value) (f5 : Fz RT_TFunc V v4 p0.m.funcs) (f7 : Fz (RT.int .i64) V v6 p0.m.threads) (f9 : Fz (RT.int .i64) V v8 p0.reads) (ow : Ow V (.pt b1 (.cells z2 [v4, v6, .int .i64 p0.me, v8, .int .i64 p0.fuel, .int .i64 p0.used, v10, v12, .bool p0.over, .bool p0.ended, .int .i64 p0.most]) :: .om (RT.int .i64) false v10 p0.held :: .os RT_TAct v12 p0.acts :: Rs)) (r : Int × Bool × TrM) (h : rM_read p0 = some r) : ∃ v V', Cl Try.prog 0 37 #[.pointer (some ⟨b1, 0, none⟩)] V.H v V'.H ∧ V.le V' ∧ (∃ (v14 : Value) (v16 : Value) (v18 : Value) (v20 : Value) (v22 : Value), v = .tuple #[.int .i64 r.1, .bool r.2.1] ∧ Fz RT_TFunc V' v14 r.2.2.m.funcs ∧ Fz (RT.int .i64) V' v16 r.2.2.m.threads ∧ Fz (RT.int .i64) V' v18 r.2.2.reads ∧ Ow V' (.pt b1 (.cells z2 [v14, v16, .int .i64 r.2.2.me, v18, .int .i64 r.2.2.fuel, .int .i64 r.2.2.used, v20, v22, .bool r.2.2.over, .bool r.2.2.ended, .int .i64 r.2.2.most]) :: .om (RT.int .i64) false v20 r.2.2.held :: .os RT_TAct v22 r.2.2.acts :: Rs)) := by
 refine Ct.of (Nat.zero_le _) Try.func37 rfl (nr rfl) ?_
 unfold rM_read at h
 refine WP.usreg rfl ?_
 refine U.p rfl rfl (.inl rfl) (S.assign rfl K) ?_
 refine U.p rfl rfl (.inl rfl) (S.assign rfl K) ?_
 refine U.done (nr rfl) ?_
 refine WP.seq ?_
 refine WP.usreg rfl ?_
 refine U.p rfl rfl (.inl rfl) (S.move rfl (L 2 rfl rfl)) ?_
 refine U.p rfl rfl (.inl rfl) (S.nilCheck rfl (L 0 rfl rfl)) ?_
 refine U.p (v := .pointer (some ⟨b1, 3, none⟩)) rfl rfl (.inl rfl) (S.fieldAddr rfl (L 0 rfl rfl) Try.underlying58 rfl ti23 rfl rfl) ?_
 refine U.k rfl rfl (.inl rfl) (S.load rfl (L 0 rfl rfl) Try.underlying23 rfl ((ow.own (k := 0) rfl).cell rfl)) nd ?_
 refine U.p rfl rfl (.inl rfl) (f9.1.len rfl (L 0 rfl rfl) Try.underlying23) ?_
 refine U.p rfl rfl (.inl rfl) (S.eqlI rfl (L 0 rfl rfl) K) ?_
 refine U.done (nr rfl) ?_
 refine WP.cond _ (L 0 rfl rfl) rfl (fun c24 => ?_) (fun c24 => ?_)
 ·have h25 := ifT c24 h
  refine WP.usreg rfl ?_
  refine U.p rfl rfl (.inl rfl) (S.move rfl (L 8 rfl rfl)) ?_
  refine U.p rfl rfl (.inl rfl) (S.nilCheck rfl (L 0 rfl rfl)) ?_
  refine U.p (v := .pointer (some ⟨b1, 8, none⟩)) rfl rfl (.inl rfl) (S.fieldAddr rfl (L 0 rfl rfl) Try.underlying58 rfl ti4 rfl rfl) ?_
  refine O.store (k := 0) (cs := [.bool true]) (c' := [v4, v6, .int .i64 p0.me, v8, .int .i64 p0.fuel, .int .i64 p0.used, v10, v12, .bool true, .bool p0.ended, .int .i64 p0.most]) ow rfl rfl rfl (.inl rfl) rfl (L 0 rfl rfl) K ti4 (by simp [topV]) rfl rfl (nr rfl) rfl rfl nd (fun V26 le27 ow28 => ?_)
  refine U.done (nr rfl) ?_
  refine WP.usreg rfl ?_
  refine U.p rfl rfl (.inl rfl) (S.assign rfl K) ?_
  refine U.p rfl rfl (.inl rfl) (S.assign rfl K) ?_
  refine U.done (nr rfl) ?_
  refine WP.ret ?_
  refine sqR ?_
  have f29 := f5.up le27
  have f30 := f7.up le27
  have f31 := f9.up le27
  refine fin.slots' (.inr rfl) (fsC (L 1 rfl rfl) (fsC (L 0 rfl rfl) fsN)) rfl ⟨V26, rfl, le27, ?_⟩
  have e32 := Option.some.inj h25
  subst e32
  exact ⟨v4, v6, v8, v10, v12, rfl, f29, f30, f31, ow28⟩
 ·have h33 := ifF c24 h
  refine WP.skip ?_
  refine sqN ?_
  refine WP.usreg rfl ?_
  refine U.p rfl rfl (.inl rfl) (S.move rfl (L 8 rfl rfl)) ?_
  refine U.p rfl rfl (.inl rfl) (S.nilCheck rfl (L 0 rfl rfl)) ?_
  refine U.p (v := .pointer (some ⟨b1, 3, none⟩)) rfl rfl (.inl rfl) (S.fieldAddr rfl (L 0 rfl rfl) Try.underlying58 rfl ti23 rfl rfl) ?_
  refine U.k rfl rfl (.inl rfl) (S.load rfl (L 0 rfl rfl) Try.underlying23 rfl ((ow.own (k := 0) rfl).cell rfl)) nd ?_
  obtain ⟨x34, hx35, h36⟩ := bindS h33
  obtain ⟨b37, o38, c39, cs40, hv41, hf42, hr43, hc44⟩ := f9.at hx35
  obtain rfl : cs40 = [.int .i64 x34] := hr43
  refine U.p rfl rfl (.inl rfl) (S.index rfl ((L 0 rfl rfl).trans hv41) K Try.underlying23 ti3 (ix_ge hx35) (ix_lt hx35)) ?_
  refine U.k rfl rfl (.inl rfl) (S.load rfl (L 0 rfl rfl) Try.underlying3 rfl (hc44 0 _ rfl)) nd ?_
  refine U.p rfl rfl (.inl rfl) (S.assign rfl (L 0 rfl rfl)) ?_
  refine U.done (nr rfl) ?_
  refine WP.usreg rfl ?_
  refine U.p rfl rfl (.inl rfl) (S.move rfl (L 15 rfl rfl)) ?_
  refine U.p rfl rfl (.inl rfl) (S.move rfl (L 16 rfl rfl)) ?_
  refine U.p rfl rfl (.inl rfl) (S.nilCheck rfl (L 0 rfl rfl)) ?_
  refine U.p (v := .pointer (some ⟨b1, 3, none⟩)) rfl rfl (.inl rfl) (S.fieldAddr rfl (L 0 rfl rfl) Try.underlying58 rfl ti23 rfl rfl) ?_
  refine U.k rfl rfl (.inl rfl) (S.load rfl (L 0 rfl rfl) Try.underlying23 rfl ((ow.own (k := 0) rfl).cell rfl)) nd ?_
  obtain ⟨xs45, hx46, h47⟩ := bindS h36
  refine O.subF f9 hx46 rfl rfl (.inl rfl) rfl (L 0 rfl rfl) Try.underlying23 ti3 ⟨.inr ⟨_, _, rfl, K⟩, .inl ⟨rfl, rfl⟩, .inl rfl⟩ (fun v48 f50 => ?_)
  refine U.p rfl rfl (.inl rfl) (S.nilCheck rfl (L 5 rfl rfl)) ?_
  refine U.p (v := .pointer (some ⟨b1, 3, none⟩)) rfl rfl (.inl rfl) (S.fieldAddr rfl (L 0 rfl rfl) Try.underlying58 rfl ti23 rfl rfl) ?_
  refine O.store (k := 0) (cs := [v48]) (c' := [v4, v6, .int .i64 p0.me, v48, .int .i64 p0.fuel, .int .i64 p0.used, v10, v12, .bool p0.over, .bool p0.ended, .int .i64 p0.most]) ow rfl rfl rfl (.inl rfl) rfl (L 0 rfl rfl) (L 2 rfl rfl) ti23 f50.ne (by rw [f50.cells]) rfl (nr rfl) (by have q0 := f50.one; simp only [List.all_cons, List.all_nil, q0]; rfl) rfl nd (fun V51 le52 ow53 => ?_)
  refine U.done (nr rfl) ?_
  refine WP.usreg rfl ?_
  refine U.p rfl rfl (.inl rfl) (S.move rfl (L 8 rfl rfl)) ?_
  refine U.p rfl rfl (.inl rfl) (S.assign rfl (L 0 rfl rfl)) ?_
  refine U.p rfl rfl (.inl rfl) (S.assign rfl K) ?_
  refine U.done (nr rfl) ?_
  refine WP.ret ?_
  have f54 := f5.up le52
  have f55 := f7.up le52
  have f56 := f50.up le52
  refine fin.slots' (.inr rfl) (fsC (L 1 rfl rfl) (fsC (L 0 rfl rfl) fsN)) rfl ⟨V51, rfl, le52, ?_⟩
  have e57 := Option.some.inj h47
  subst e57
  exact ⟨v4, v6, v48, v10, v12, rfl, f54, f55, f56, ow53⟩
theorem wk_ref08_find (V : Vw) (Rs : List At) (p0 : TFunc) (p1 : Int) (v1 : Value) (f2 : Fz RT_TIns V v1 p0.code) (ow : Ow V (Rs)) (r : Int) (h : ref08_find p0 p1 = some r) : ∃ v V', Cl Try.prog 0 38 #[.agg #[.string p0.name, .int .i64 p0.params, .int .i64 p0.regs, v1], .int .i64 p1] V.H v V'.H ∧ V.le V' ∧ (v = .int .i64 r ∧ Ow V' (Rs)) := by
 refine Ct.of (Nat.zero_le _) Try.func38 rfl (nr rfl) ?_
 unfold ref08_find at h
 refine WP.usreg rfl ?_
 refine O.box ow rfl rfl (.inl rfl) rfl (L 0 rfl rfl) (by simp [topV]) rfl nd (fun b3 V4 le5 ow6 => ?_)
 refine U.p rfl rfl (.inl rfl) (S.assign rfl K) ?_
 refine U.done (nr rfl) ?_
 refine WP.seq ?_
 refine WP.usreg rfl ?_
 refine U.p (v := .pointer (some ⟨b3, 3, none⟩)) rfl rfl (.inl rfl) (S.fieldAddr rfl (L 1 rfl rfl) Try.underlying38 rfl ti36 rfl rfl) ?_
 refine U.k rfl rfl (.inl rfl) (S.load rfl (L 0 rfl rfl) Try.underlying36 rfl ((ow6.own (k := 0) rfl).cell rfl)) nd ?_
 refine U.p rfl rfl (.inl rfl) (f2.1.len rfl (L 0 rfl rfl) Try.underlying36) ?_
 refine U.p rfl rfl (.inl rfl) (S.move rfl K) ?_
 refine U.done (nr rfl) ?_
 refine WP.blk ?_
 unfold ref08_find_l1 at h
 obtain ⟨n10, hn9⟩ := loopO_some.1 h
 refine WP.loopI2 (fun n l V' => ∃ (x8 : Int), l = [(1, .int .i64 p1), (2, .pointer (some ⟨b3, 0, none⟩)), (8, v1), (9, .int .i64 (p0.code.length : Int)), (10, .int .i64 x8)] ∧ V4.le V' ∧ Ow V' (.pt b3 (.cells 0 [.string p0.name, .int .i64 p0.params, .int .i64 p0.regs, v1]) :: Rs) ∧ itO (fun s => ref08_find_l1b p0 p1 s) n x8 = some r) n10 _ ⟨0, rfl, .refl _, ow6, hn9⟩ (allCons (L 7 rfl rfl) (allCons (L 5 rfl rfl) (allCons (L 2 rfl rfl) (allCons (L 1 rfl rfl) (allCons (L 0 rfl rfl) allNil))))) ?_
 rintro _ _ V11 ⟨x8, rfl, le12, ow13, h17⟩
 obtain ⟨m14, q15, rfl, h18, e16⟩ := itS h17
 replace h18 : ref08_find_l1b p0 p1 x8 = some q15 := h18
 unfold ref08_find_l1b at h18
 refine WP.usreg rfl ?_
 refine U.p rfl rfl (.inl rfl) (S.lss rfl (L 4 rfl rfl) (L 3 rfl rfl)) ?_
 refine U.done (nr rfl) ?_
 refine WP.seq ?_
 refine WP.cond _ (L 0 rfl rfl) rfl (fun c19 => ?_) (fun c19 => ?_)
 ·have h20 := ifT c19 h18
  refine WP.skip ?_
  refine sqN ?_
  refine WP.seq ?_
  refine WP.blk ?_
  refine WP.usreg rfl ?_
  refine U.p rfl rfl (.inl rfl) (S.move rfl (L 5 rfl rfl)) ?_
  obtain ⟨x21, hx22, h23⟩ := bindS h20
  obtain ⟨b24, o25, c26, cs27, hv28, hf29, hr30, hc31⟩ := f2.at hx22
  obtain ⟨v32, rfl, f33⟩ := hr30
  refine U.p rfl rfl (.inl rfl) (S.index rfl ((L 4 rfl rfl).trans hv28) (L 6 rfl rfl) Try.underlying36 ti44 (ix_ge hx22) (ix_lt hx22)) ?_
  refine U.k rfl rfl (.inl rfl) (S.loadN (cs := [.int .i64 x21.op, .int .i64 x21.d, .int .i64 x21.a, .int .i64 x21.b, .int .i64 x21.imm, v32, .int .i64 x21.what, .bool x21.volatile, .bool x21.final]) rfl (L 0 rfl rfl) Try.underlying44 rfl ti44 rfl (fun j v hj => (le5.trans le12).cell hf29 (hc31 j v hj))) nd ?_
  refine O.alloc ow13 rfl rfl (.inl rfl) rfl ti44 rfl rfl nd (fun b34 V35 le36 ow37 => ?_)
  refine U.p rfl rfl (.inl rfl) (S.assign rfl (L 3 rfl rfl)) ?_
  refine O.store (k := 0) (cs := [.int .i64 x21.op, .int .i64 x21.d, .int .i64 x21.a, .int .i64 x21.b, .int .i64 x21.imm, v32, .int .i64 x21.what, .bool x21.volatile, .bool x21.final]) (c' := [.int .i64 x21.op, .int .i64 x21.d, .int .i64 x21.a, .int .i64 x21.b, .int .i64 x21.imm, v32, .int .i64 x21.what, .bool x21.volatile, .bool x21.final]) ow37 rfl rfl rfl (.inl rfl) rfl (L 1 rfl rfl) (L 2 rfl rfl) ti44 (by simp [topV]) rfl rfl (nr rfl) (by have q0 := f33.one; simp only [List.all_cons, List.all_nil, q0]; rfl) rfl nd (fun V39 le40 ow41 => ?_)
  refine U.done (nr rfl) ?_
  refine WP.usreg rfl ?_
  refine U.p (v := .pointer (some ⟨b34, 0, none⟩)) rfl rfl (.inl rfl) (S.fieldAddr rfl (L 1 rfl rfl) Try.underlying44 rfl ti3 rfl rfl) ?_
  refine U.k rfl rfl (.inl rfl) (S.load rfl (L 0 rfl rfl) Try.underlying3 rfl ((ow41.own (k := 0) rfl).cell rfl)) nd ?_
  refine U.p rfl rfl (.inl rfl) (S.eqlI rfl (L 0 rfl rfl) K) ?_
  refine U.p rfl rfl (.inl rfl) (S.move rfl (L 0 rfl rfl)) ?_
  refine U.joinX 9 (fun e H => ∃ (u42 u43 u44 u45 : Value), H = V39.H ∧ e = [(23, .bool ((decide (x21.op = 11)) && (decide (x21.imm = p1)))), (22, u42), (21, u43), (20, u44), (19, u45)]) ?_ ?_
  ·rintro _ _ ⟨u42, u43, u44, u45, rfl, rfl⟩
   refine U.done (nr rfl) ?_
   refine WP.cond _ (L 0 rfl rfl) rfl (fun c49 => ?_) (fun c49 => ?_)
   ·have h50 := ifT c49 h23
    refine WP.usreg rfl ?_
    refine U.p rfl rfl (.inl rfl) (S.move rfl (L 9 rfl rfl)) ?_
    refine U.p rfl rfl (.inl rfl) (S.assign rfl (L 0 rfl rfl)) ?_
    refine U.done (nr rfl) ?_
    refine WP.ret ?_
    refine blkR (sqR (sqR (blkR (sqR ?_))))
    have h51 := exitS h50 e16
    refine fin.slot (.inr rfl) rfl (L 0 rfl rfl) ⟨V39, rfl, (((le5.trans le12).trans le36).trans le40), ?_⟩
    have ow52 := ow41.drop 0 rfl
    have ow53 := ow52.drop 0 rfl
    have e54 := Option.some.inj h51
    subst e54
    exact ⟨rfl, ow53⟩
   ·have h55 := ifF c49 h23
    refine WP.skip ?_
    refine blkN (sqN ?_)
    refine WP.ureg rfl ?_
    refine U.p rfl rfl (.inl rfl) (S.add rfl (L 19 rfl rfl) K) ?_
    refine U.p rfl rfl (.inl rfl) (S.move rfl (L 0 rfl rfl)) ?_
    refine U.done (nr rfl) ?_
    refine sqN ?_
    have ow56 := ow41.drop 0 rfl
    exact ⟨_, V39, rfl, ⟨m14, Nat.lt_succ_self _, w64 (x8 + 1), rfl, ((le12.trans le36).trans le40), ow56, backS h55 e16⟩, (allCons (L 17 rfl rfl) (allCons (L 18 rfl rfl) (allCons (L 19 rfl rfl) (allCons (L 20 rfl rfl) (allCons (L 0 rfl rfl) allNil)))))⟩
  ·intro kk
   refine bcase (b := decide (x21.op = 11)) (fun g57 => ?_) (fun g57 => ?_)
   ·skip
    refine U.p (v := .pointer (some ⟨b34, 4, none⟩)) rfl rfl (.inr ⟨_, _, _, rfl, rfl, ((L 0 rfl rfl).trans (cB g57))⟩) (S.fieldAddr rfl (L 5 rfl rfl) Try.underlying44 rfl ti3 rfl rfl) ?_
    refine U.k rfl rfl (.inr ⟨_, _, _, rfl, rfl, ((L 1 rfl rfl).trans (cB g57))⟩) (S.load rfl (L 0 rfl rfl) Try.underlying3 rfl ((ow41.own (k := 0) rfl).cell rfl)) nd ?_
    refine U.p rfl rfl (.inr ⟨_, _, _, rfl, rfl, ((L 2 rfl rfl).trans (cB g57))⟩) (S.move rfl (L 12 rfl rfl)) ?_
    refine U.p rfl rfl (.inr ⟨_, _, _, rfl, rfl, ((L 3 rfl rfl).trans (cB g57))⟩) (S.eqlI rfl (L 1 rfl rfl) (L 0 rfl rfl)) ?_
    refine U.p rfl rfl (.inl rfl) (S.pickT rfl ((L 4 rfl rfl).trans (cB g57)) (L 0 rfl rfl)) ?_
    exact kk [(23, .bool (decide (x21.imm = p1))), (22, .bool (decide (x21.imm = p1))), (21, .int .i64 p1), (20, .int .i64 x21.imm), (19, .pointer (some ⟨b34, 4, none⟩))] _ ⟨.bool (decide (x21.imm = p1)), .int .i64 p1, .int .i64 x21.imm, .pointer (some ⟨b34, 4, none⟩), rfl, (by rw [g57, Bool.true_and])⟩
   ·skip
    refine U.x rfl rfl rfl rfl ((L 0 rfl rfl).trans (cB g57)) (by decide) ?_
    refine U.x rfl rfl rfl rfl ((L 1 rfl rfl).trans (cB g57)) (by decide) ?_
    refine U.x rfl rfl rfl rfl ((L 2 rfl rfl).trans (cB g57)) (by decide) ?_
    refine U.x rfl rfl rfl rfl ((L 3 rfl rfl).trans (cB g57)) (by decide) ?_
    refine U.p rfl rfl (.inl rfl) (S.pickF rfl ((L 4 rfl rfl).trans (cB g57)) K) ?_
    exact kk [(23, .bool false), (22, .tuple #[]), (21, .tuple #[]), (20, .tuple #[]), (19, .tuple #[])] _ ⟨.tuple #[], .tuple #[], .tuple #[], .tuple #[], rfl, (by rw [g57, Bool.false_and])⟩
 ·have h58 := ifF c19 h18
  refine WP.exit ?_
  refine sqE (sqE (blkE (sqN ?_)))
  have h59 := exitS h58 e16
  refine WP.usreg rfl ?_
  refine U.p (v := .pointer (some ⟨b3, 3, none⟩)) rfl rfl (.inl rfl) (S.fieldAddr rfl (L 2 rfl rfl) Try.underlying38 rfl ti36 rfl rfl) ?_
  refine U.k rfl rfl (.inl rfl) (S.load rfl (L 0 rfl rfl) Try.underlying36 rfl ((ow13.own (k := 0) rfl).cell rfl)) nd ?_
  refine U.p rfl rfl (.inl rfl) (f2.1.len rfl (L 0 rfl rfl) Try.underlying36) ?_
  refine U.p rfl rfl (.inl rfl) (S.assign rfl (L 0 rfl rfl)) ?_
  refine U.done (nr rfl) ?_
  refine WP.ret ?_
  refine fin.slot (.inr rfl) rfl (L 0 rfl rfl) ⟨V11, rfl, (le5.trans le12), ?_⟩
  have ow60 := ow13.drop 0 rfl
  have e61 := Option.some.inj h59
  subst e61
  exact ⟨rfl, ow60⟩
end Go.Vm.G11
