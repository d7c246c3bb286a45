/-
  What the functions compute is what the plain ones say, for all inputs at which those answer.
-/
import Derived.Test.YtdnnbobadopkeaaDoorEWG15w
set_option linter.unusedSimpArgs false
set_option linter.unusedVariables false
namespace Go.Vm.G15w
open Go Go.Proofs
set_option maxHeartbeats 4000000
set_option maxRecDepth 10000
theorem wk_image_Encode (V : Vw) (Rs : List At) (gl : Glb V) (p0 : TImage) (v1 : Value) (v3 : Value) (v5 : Value) (f2 : Fz (RT.int .u32) V v1 p0.code) (f4 : Fz RT_TNote V v3 p0.notes) (f6 : Fz (RT.int .i64) V v5 p0.threads) (ow : Ow V (Rs)) (r : ByteArray × Int) (h : image_Encode p0 = some r) : ∃ v V', Cl Tryd.prog NG 10 #[.agg #[v1, v3, v5]] V.H v V'.H ∧ V.le V' ∧ (v = .tuple #[.string r.1, .int .i64 r.2] ∧ Ow V' (Rs)) := by
 refine Ct.of gl.lo Tryd.func10 Z (nr Z) ?_
 unfold image_Encode at h
 refine WP.usreg Z ?_
 refine O.box ow Z Z (.inl Z) Z (L 0 Z Z) (by simp [topV]) Z nd (fun b7 V8 le9 ow10 => ?_)
 refine U.p Z Z (.inl Z) (S.assign Z K) ?_
 refine U.p Z Z (.inl Z) (S.assign Z K) ?_
 refine U.done (nr Z) ?_
 refine WP.seq ?_
 refine WP.usreg Z ?_
 refine U.k Z Z (.inl Z) (S.loadB Z (L 2 Z Z) Tryd.underlying27 Z ti27 (ow10.own (k := 0) Z).get Z) nd ?_
 have f12 := f2.up le9
 have f13 := f4.up le9
 have f14 := f6.up le9
 obtain ⟨x15, hx16, h17⟩ := bindS h
 refine O.call (V := V8) Z Z (.inl Z) Z en13 (aC (L 0 Z Z) aN) (wk_image_Good V8 _ (gl.up le9) p0 v1 v3 v5 f12 f13 f14 ow10 _ hx16) (fun _ _ _ _ => nd) (fun v18 V19 le20 hp21 => ?_)
 obtain ⟨rfl, ow22⟩ := hp21
 refine U.p Z Z (.inl Z) (S.not Z (L 0 Z Z)) ?_
 refine U.done (nr Z) ?_
 refine WP.cond _ (L 0 Z Z) Z (fun c23 => ?_) (fun c23 => ?_)
 ·have h24 := ifT c23 h17
  have k25 : x15 = false := nT c23
  refine WP.usreg Z ?_
  refine U.p Z Z (.inl Z) (S.assign Z K) ?_
  refine U.p Z Z (.inl Z) (S.assign Z K) ?_
  refine U.done (nr Z) ?_
  refine WP.ret ?_
  refine sqR ?_
  refine fin.slots' (.inr Z) (fsC (L 1 Z Z) (fsC (L 0 Z Z) fsN)) Z ⟨V19, Z, (le9.trans le20), ?_⟩
  have ow26 := ow22.drop 0 Z
  have e27 := Option.some.inj h24
  subst e27
  exact ⟨rfl, ow26⟩
 ·have h28 := ifF c23 h17
  have k29 : x15 = true := nF c23
  refine WP.skip ?_
  refine sqN ?_
  refine WP.usreg Z ?_
  refine O.lit (R := (RT.int .u8)) ow22 Z Z (.inl Z) Z Tryd.underlying46 ti5 Z Z Z (nr Z) Z (aC K (aC K (aC K (aC K aN)))) (.cons _ _ 84 _ (by simp [topV]) Z (.cons _ _ 66 _ (by simp [topV]) Z (.cons _ _ 76 _ (by simp [topV]) Z (.cons _ _ 49 _ (by simp [topV]) Z .nil)))) (fun _ => nd) (fun v30 V31 le32 ow33 => ?_)
  refine O.mark (k := 0) ow33 Z (List.cons_ne_nil _ _) Z Z (.inl Z) Z (L 0 Z Z) Tryd.underlying46 Tryd.underlying5 nd ?_
  refine U.p (v := .pointer (some ⟨b7, 2, none⟩)) Z Z (.inl Z) (S.fieldAddr Z (L 7 Z Z) Tryd.underlying27 Z ti25 Z Z) ?_
  refine U.k Z Z (.inl Z) (S.load Z (L 0 Z Z) Tryd.underlying25 Z ((ow33.own (k := 1) Z).cell Z)) nd ?_
  refine U.p Z Z (.inl Z) (f14.1.len Z (L 0 Z Z) Tryd.underlying25) ?_
  refine U.p Z Z (.inl Z) (S.conv Z (L 0 Z Z) Tryd.underlying3 Tryd.underlying5) ?_
  refine O.lit (R := (RT.int .u8)) ow33 Z Z (.inl Z) Z Tryd.underlying46 ti5 Z Z Z (nr Z) Z (aC (L 0 Z Z) aN) (.cons _ _ (IntKind.wrap .u8 (p0.threads.length : Int)) _ (by simp [topV]) Z .nil) (fun _ => nd) (fun v35 V36 le37 ow38 => ?_)
  obtain ⟨xs40, hx41, h42⟩ := bindS h28
  refine O.append (k := 1) ow38 Z Z Z (.inl Z) Z (L 5 Z Z) (L 0 Z Z) Tryd.underlying46 ti5 Z Z (nr Z) (ow38.src (k := 0) Z Tryd.underlying46) hx41 (fun _ _ => nd) (fun v43 V44 le45 ow46 => ?_)
  refine U.p Z Z (.inl Z) (S.assign Z (L 0 Z Z)) ?_
  refine U.done (nr Z) ?_
  refine WP.usreg Z ?_
  refine U.p Z Z (.inl Z) (S.move Z (L 0 Z Z)) ?_
  refine U.p (v := .pointer (some ⟨b7, 0, none⟩)) Z Z (.inl Z) (S.fieldAddr Z (L 15 Z Z) Tryd.underlying27 Z ti23 Z Z) ?_
  refine U.k Z Z (.inl Z) (S.load Z (L 0 Z Z) Tryd.underlying23 Z ((ow46.own (k := 2) Z).cell Z)) nd ?_
  refine U.p Z Z (.inl Z) (f12.1.len Z (L 0 Z Z) Tryd.underlying23) ?_
  refine U.p Z Z (.inl Z) (S.conv Z (L 0 Z Z) Tryd.underlying3 Tryd.underlying39) ?_
  obtain ⟨x48, hx49, h50⟩ := bindS h42
  refine O.call (V := V44) Z Z (.inl Z) Z en20 (aC (L 0 Z Z) aN) (wk_image_four V44 _ (gl.up ((((le9.trans le20).trans le32).trans le37).trans le45)) (IntKind.wrap .u32 (p0.code.length : Int)) ow46 _ hx49) (fun _ _ _ _ => nd) (fun v51 V52 le53 hp54 => ?_)
  obtain ⟨_, rfl, ow55⟩ := hp54
  obtain ⟨xs58, hx59, h60⟩ := bindS h50
  refine O.append (k := 2) ow55 Z Z Z (.inl Z) Z (L 5 Z Z) (L 0 Z Z) Tryd.underlying46 ti5 Z Z (nr Z) (ow55.src (k := 0) Z Tryd.underlying46) hx59 (fun _ _ => nd) (fun v61 V62 le63 ow64 => ?_)
  refine U.p Z Z (.inl Z) (S.assign Z (L 0 Z Z)) ?_
  refine U.done (nr Z) ?_
  refine WP.seq ?_
  refine WP.usreg Z ?_
  refine U.p (v := .pointer (some ⟨b7, 2, none⟩)) Z Z (.inl Z) (S.fieldAddr Z (L 22 Z Z) Tryd.underlying27 Z ti25 Z Z) ?_
  refine U.k Z Z (.inl Z) (S.load Z (L 0 Z Z) Tryd.underlying25 Z ((ow64.own (k := 3) Z).cell Z)) nd ?_
  refine U.p Z Z (.inl Z) (f14.1.len Z (L 0 Z Z) Tryd.underlying25) ?_
  refine U.p Z Z (.inl Z) (S.move Z K) ?_
  refine U.done (nr Z) ?_
  refine WP.blk ?_
  have ow70 := ow64.drop 0 Z
  have ow71 := ow70.drop 0 Z
  have ow72 := ow71.pick 0 Z
  have ow73 := ow72.pick 1 Z
  unfold image_Encode_l1 at h60
  obtain ⟨n75, hn74⟩ := loopO_some.1 h60
  refine WP.loopI2 (fun n l V' => ∃ (v67 : Value) (xs68 : List Int) (x69 : Int), l = [(1, .pointer (some ⟨b7, 0, none⟩)), (4, v67), (28, v5), (29, .int .i64 (p0.threads.length : Int)), (30, .int .i64 x69)] ∧ V62.le V' ∧ Ow V' (.pt b7 (.cells 0 [v1, v3, v5]) :: .os (RT.int .u8) v67 xs68 :: Rs) ∧ itO (fun s => image_Encode_l1b p0 s.1 s.2) n (xs68, x69) = some r) n75 _ ⟨v61, xs58, 0, Z, .refl _, ow73, hn74⟩ (allCons (L 26 Z Z) (allCons (L 4 Z Z) (allCons (L 2 Z Z) (allCons (L 1 Z Z) (allCons (L 0 Z Z) allNil))))) ?_
  rintro _ _ V76 ⟨v67, xs68, x69, rfl, le77, ow78, h82⟩
  obtain ⟨m79, q80, rfl, h83, e81⟩ := itS h82
  replace h83 : image_Encode_l1b p0 xs68 x69 = some q80 := h83
  unfold image_Encode_l1b at h83
  refine WP.usreg Z ?_
  refine U.p Z Z (.inl Z) (S.lss Z (L 4 Z Z) (L 3 Z Z)) ?_
  refine U.done (nr Z) ?_
  refine WP.seq ?_
  refine WP.cond _ (L 0 Z Z) Z (fun c84 => ?_) (fun c84 => ?_)
  ·have h85 := ifT c84 h83
   refine WP.skip ?_
   refine sqN ?_
   refine WP.seq ?_
   refine WP.blk ?_
   refine WP.usreg Z ?_
   obtain ⟨x86, hx87, h88⟩ := bindS h85
   obtain ⟨b89, o90, c91, cs92, hv93, hf94, hr95, hc96⟩ := f14.at hx87
   obtain rfl : cs92 = [.int .i64 x86] := hr95
   refine U.p Z Z (.inl Z) (S.index Z ((L 3 Z Z).trans hv93) (L 5 Z Z) Tryd.underlying25 ti3 (ix_ge hx87) (ix_lt hx87)) ?_
   refine U.k Z Z (.inl Z) (S.load Z (L 0 Z Z) Tryd.underlying3 Z (((((((le20.trans le32).trans le37).trans le45).trans le53).trans le63).trans le77).cell hf94 (hc96 0 _ Z))) nd ?_
   refine U.p Z Z (.inl Z) (S.assign Z (L 0 Z Z)) ?_
   refine U.done (nr Z) ?_
   refine WP.ureg Z ?_
   refine U.p Z Z (.inl Z) (S.move Z (L 5 Z Z)) ?_
   refine U.p Z Z (.inl Z) (S.move Z (L 1 Z Z)) ?_
   refine U.p Z Z (.inl Z) (S.conv Z (L 0 Z Z) Tryd.underlying3 Tryd.underlying39) ?_
   obtain ⟨x97, hx98, h99⟩ := bindS h88
   refine O.call (V := V76) Z Z (.inl Z) Z en20 (aC (L 0 Z Z) aN) (wk_image_four V76 _ (gl.up (((((((le9.trans le20).trans le32).trans le37).trans le45).trans le53).trans le63).trans le77)) (IntKind.wrap .u32 x86) ow78 _ hx98) (fun _ _ _ _ => nd) (fun v100 V101 le102 hp103 => ?_)
   obtain ⟨_, rfl, ow104⟩ := hp103
   obtain ⟨xs107, hx108, h109⟩ := bindS h99
   refine O.append (k := 2) ow104 Z Z Z (.inl Z) Z (L 3 Z Z) (L 0 Z Z) Tryd.underlying46 ti5 Z Z (nr Z) (ow104.src (k := 0) Z Tryd.underlying46) hx108 (fun _ _ => nd) (fun v110 V111 le112 ow113 => ?_)
   refine U.p Z Z (.inl Z) (S.assign Z (L 0 Z Z)) ?_
   refine U.done (nr Z) ?_
   refine blkN (sqN ?_)
   refine WP.ureg Z ?_
   refine U.p Z Z (.inl Z) (S.add Z (L 14 Z Z) K) ?_
   refine U.p Z Z (.inl Z) (S.move Z (L 0 Z Z)) ?_
   refine U.done (nr Z) ?_
   refine sqN ?_
   have ow115 := ow113.drop 0 Z
   exact ⟨_, V111, Z, ⟨m79, Nat.lt_succ_self _, v110, xs107, w64 (x69 + 1), Z, ((le77.trans le102).trans le112), ow115, backS h109 e81⟩, (allCons (L 12 Z Z) (allCons (L 2 Z Z) (allCons (L 14 Z Z) (allCons (L 15 Z Z) (allCons (L 0 Z Z) allNil)))))⟩
  ·have h116 := ifF c84 h83
   refine WP.exit ?_
   refine sqE (sqE (blkE (sqN ?_)))
   have h117 := exitS h116 e81
   refine WP.seq ?_
   refine WP.usreg Z ?_
   refine U.p (v := .pointer (some ⟨b7, 0, none⟩)) Z Z (.inl Z) (S.fieldAddr Z (L 1 Z Z) Tryd.underlying27 Z ti23 Z Z) ?_
   refine U.k Z Z (.inl Z) (S.load Z (L 0 Z Z) Tryd.underlying23 Z ((ow78.own (k := 0) Z).cell Z)) nd ?_
   refine U.p Z Z (.inl Z) (f12.1.len Z (L 0 Z Z) Tryd.underlying23) ?_
   refine U.p Z Z (.inl Z) (S.move Z K) ?_
   refine U.done (nr Z) ?_
   refine WP.blk ?_
   unfold image_Encode_l2 at h117
   obtain ⟨n123, hn122⟩ := loopO_some.1 h117
   refine WP.loopI2 (fun n l V' => ∃ (v119 : Value) (xs120 : List Int) (x121 : Int), l = [(1, .pointer (some ⟨b7, 0, none⟩)), (4, v119), (41, v1), (42, .int .i64 (p0.code.length : Int)), (43, .int .i64 x121)] ∧ V76.le V' ∧ Ow V' (.pt b7 (.cells 0 [v1, v3, v5]) :: .os (RT.int .u8) v119 xs120 :: Rs) ∧ itO (fun s => image_Encode_l2b p0 s.1 s.2) n (xs120, x121) = some r) n123 _ ⟨v67, xs68, 0, Z, .refl _, ow78, hn122⟩ (allCons (L 5 Z Z) (allCons (L 6 Z Z) (allCons (L 2 Z Z) (allCons (L 1 Z Z) (allCons (L 0 Z Z) allNil))))) ?_
   rintro _ _ V124 ⟨v119, xs120, x121, rfl, le125, ow126, h130⟩
   obtain ⟨m127, q128, rfl, h131, e129⟩ := itS h130
   replace h131 : image_Encode_l2b p0 xs120 x121 = some q128 := h131
   unfold image_Encode_l2b at h131
   refine WP.usreg Z ?_
   refine U.p Z Z (.inl Z) (S.lss Z (L 4 Z Z) (L 3 Z Z)) ?_
   refine U.done (nr Z) ?_
   refine WP.seq ?_
   refine WP.cond _ (L 0 Z Z) Z (fun c132 => ?_) (fun c132 => ?_)
   ·have h133 := ifT c132 h131
    refine WP.skip ?_
    refine sqN ?_
    refine WP.seq ?_
    refine WP.blk ?_
    refine WP.usreg Z ?_
    refine U.p Z Z (.inl Z) (S.move Z (L 5 Z Z)) ?_
    obtain ⟨x134, hx135, h136⟩ := bindS h133
    obtain ⟨b137, o138, c139, cs140, hv141, hf142, hr143, hc144⟩ := f12.at hx135
    obtain rfl : cs140 = [.int .u32 x134] := hr143
    refine U.p Z Z (.inl Z) (S.index Z ((L 4 Z Z).trans hv141) (L 6 Z Z) Tryd.underlying23 ti39 (ix_ge hx135) (ix_lt hx135)) ?_
    refine U.k Z Z (.inl Z) (S.load Z (L 0 Z Z) Tryd.underlying39 Z ((((((((le20.trans le32).trans le37).trans le45).trans le53).trans le63).trans le77).trans le125).cell hf142 (hc144 0 _ Z))) nd ?_
    refine U.p Z Z (.inl Z) (S.assign Z (L 2 Z Z)) ?_
    refine U.p Z Z (.inl Z) (S.assign Z (L 1 Z Z)) ?_
    refine U.done (nr Z) ?_
    refine WP.udreg Z Z Z ?_
    refine U.p Z Z (.inl Z) (S.move Z (L 7 Z Z)) ?_
    refine U.p Z Z (.inl Z) (S.move Z (L 1 Z Z)) ?_
    obtain ⟨x145, hx146, h147⟩ := bindS h136
    refine O.call (V := V124) Z Z (.inl Z) Z en20 (aC (L 0 Z Z) aN) (wk_image_four V124 _ (gl.up ((((((((le9.trans le20).trans le32).trans le37).trans le45).trans le53).trans le63).trans le77).trans le125)) x134 ow126 _ hx146) (fun v148 V149 le150 hp151 => by obtain ⟨_, rfl, ow152⟩ := hp151; exact (fun _ => (okH.nil (fun r h => nomatch h)))) (fun v148 V149 le150 hp151 => ?_)
    obtain ⟨_, rfl, ow152⟩ := hp151
    obtain ⟨xs155, hx156, h157⟩ := bindS h147
    refine O.append (k := 2) ow152 Z Z Z (.inl Z) Z (L 2 Z Z) (L 0 Z Z) Tryd.underlying46 ti5 Z Z (nr Z) (ow152.src (k := 0) Z Tryd.underlying46) hx156 (fun V1 hs => (fun _ => (okH.cons Z (okH.nil (fun r h => nomatch h))))) (fun v158 V159 le160 ow161 => ?_)
    refine U.p (v := .pointer (some ⟨b7, 1, none⟩)) Z Z (.inl Z) (S.fieldAddr Z (L 10 Z Z) Tryd.underlying27 Z ti24 Z Z) ?_
    refine U.k Z Z (.inl Z) (S.load Z (L 0 Z Z) Tryd.underlying24 Z ((ow161.own (k := 1) Z).cell Z)) (fun _ => (okH.cons (Or.inr (Or.inl ((ow161.own (k := 1) Z).get.trans (ow152.own (k := 1) Z).get.symm))) (okH.cons (Or.inr (Or.inl ((ow152.own (k := 1) Z).get.trans (ow126.own (k := 0) Z).get.symm))) (okH.nil (fun r h => by cases h; exact (ow161.own (k := 1) Z).lt))))) ?_
    refine U.p Z Z (.inl Z) (S.move Z (L 7 Z Z)) ?_
    obtain ⟨x163, hx164, h165⟩ := bindS h157
    obtain ⟨b166, o167, c168, cs169, hv170, hf171, hr172, hc173⟩ := f13.at hx164
    obtain rfl : cs169 = [.int .i64 x163.role, .int .i64 x163.what, .bool x163.volatile, .bool x163.final] := hr172
    refine U.p Z Z (.inl Z) (S.index Z ((L 1 Z Z).trans hv170) (L 0 Z Z) Tryd.underlying24 ti42 (ix_ge hx164) (ix_lt hx164)) ?_
    refine U.k Z Z (.inl Z) (S.loadN (cs := [.int .i64 x163.role, .int .i64 x163.what, .bool x163.volatile, .bool x163.final]) Z (L 0 Z Z) Tryd.underlying42 Z ti42 Z (fun j v hj => (((((((((le20.trans le32).trans le37).trans le45).trans le53).trans le63).trans le77).trans le125).trans le150).trans le160).cell hf171 (hc173 j v hj))) (fun _ => (okH.cons trivial (okH.cons (Or.inr (Or.inl (le160.get _ (((((((((le20.trans le32).trans le37).trans le45).trans le53).trans le63).trans le77).trans le125).trans le150).sub _ hf171)))) (okH.cons (Or.inr (Or.inl (le150.get _ ((((((((le20.trans le32).trans le37).trans le45).trans le53).trans le63).trans le77).trans le125).sub _ hf171)))) (okH.nil (fun r h => by cases h; exact (V159.wf _ ((((((((((le20.trans le32).trans le37).trans le45).trans le53).trans le63).trans le77).trans le125).trans le150).trans le160).sub _ hf171)))))))) ?_
    obtain ⟨x174, hx175, h176⟩ := bindS h165
    refine O.call (V := V159) Z Z (.inl Z) Z en21 (aC (L 0 Z Z) aN) (wk_image_note V159 _ (gl.up ((((((((((le9.trans le20).trans le32).trans le37).trans le45).trans le53).trans le63).trans le77).trans le125).trans le150).trans le160)) x163 ow161 _ hx175) (fun v177 V178 le179 hp180 => by obtain ⟨rfl, ow181⟩ := hp180; exact (fun _ => (okH.cons (Or.inl Z) (okH.cons (Or.inl Z) (okH.cons Z (okH.cons Z (okH.nil (fun r h => nomatch h)))))))) (fun v177 V178 le179 hp180 => ?_)
    obtain ⟨rfl, ow181⟩ := hp180
    refine O.litX (R := (RT.int .u8)) ow181 Z Z (.inl Z) Z Tryd.underlying46 ti5 Z Z Z (nr Z) Z (aC (L 0 Z Z) aN) (.cons _ _ x174 _ (by simp [topV]) Z .nil) (fun _ => (fun _ => (okH.cons trivial (okH.cons trivial (okH.cons trivial (okH.cons trivial (okH.cons trivial (okH.nil (fun r h => nomatch h))))))))) (fun v182 V183 le184 hb186 ow185 => ?_)
    obtain ⟨xs188, hx189, h190⟩ := bindS h176
    refine O.append (k := 3) ow185 Z Z Z (.inl Z) Z (L 7 Z Z) (L 0 Z Z) Tryd.underlying46 ti5 Z Z (nr Z) (ow185.src (k := 0) Z Tryd.underlying46) hx189 (fun V1 hs => (fun _ => (okH.cons (Or.inl Z) (okH.cons Z (okH.cons (Or.inl Z) (okH.cons (Or.inl Z) (okH.cons Z (okH.cons Z (okH.nil (fun r h => nomatch h)))))))))) (fun v191 V192 le193 ow194 => ?_)
    refine U.p Z Z (.inl Z) (S.assign Z (L 0 Z Z)) ?_
    refine U.done (nr Z) ?_
    refine blkN (sqN ?_)
    refine WP.ureg Z ?_
    refine U.p Z Z (.inl Z) (S.add Z (L 23 Z Z) K) ?_
    refine U.p Z Z (.inl Z) (S.move Z (L 0 Z Z)) ?_
    refine U.done (nr Z) ?_
    refine sqN ?_
    have ow196 := ow194.drop 0 Z
    have ow197 := ow196.drop 0 Z
    exact ⟨_, V192, Z, ⟨m127, Nat.lt_succ_self _, v191, xs188, w64 (x121 + 1), Z, (((((le125.trans le150).trans le160).trans le179).trans le184).trans le193), ow197, backS h190 e129⟩, (allCons (L 21 Z Z) (allCons (L 2 Z Z) (allCons (L 23 Z Z) (allCons (L 24 Z Z) (allCons (L 0 Z Z) allNil)))))⟩
   ·have h198 := ifF c132 h131
    refine WP.exit ?_
    refine sqE (sqE (blkE (sqN ?_)))
    have h199 := exitS h198 e129
    refine WP.usreg Z ?_
    refine U.p Z Z (.inl Z) (S.move Z (L 2 Z Z)) ?_
    obtain ⟨V200, eV204, le201, f202, ow203⟩ := ow126.osfz (k := 1) Z
    rw [← eV204]
    obtain ⟨sx206, hx207, h208⟩ := bindS h199
    refine O.strF f202 hx207 Z Z (.inl Z) Z (L 0 Z Z) Tryd.underlying46 Tryd.underlying5 Tryd.underlying9 ?_
    refine U.p Z Z (.inl Z) (S.assign Z (L 0 Z Z)) ?_
    refine U.p Z Z (.inl Z) (S.assign Z K) ?_
    refine U.done (nr Z) ?_
    refine WP.ret ?_
    refine fin.slots' (.inr Z) (fsC (L 1 Z Z) (fsC (L 0 Z Z) fsN)) Z ⟨V200, Z, (((((((((le9.trans le20).trans le32).trans le37).trans le45).trans le53).trans le63).trans le77).trans le125).trans le201), ?_⟩
    have ow209 := ow203.drop 0 Z
    have e210 := Option.some.inj h208
    subst e210
    exact ⟨rfl, ow209⟩
theorem wk_law15_alive (V : Vw) (Rs : List At) (gl : Glb V) (ow : Ow V (Rs)) (r : Bool) (h : law15_alive = some r) : ∃ v V', Cl Tryd.prog NG 6 #[] V.H v V'.H ∧ V.le V' ∧ (v = .bool r ∧ Ow V' (Rs)) := by
 refine Ct.of gl.lo Tryd.func6 Z (nr Z) ?_
 unfold law15_alive at h
 refine WP.usreg Z ?_
 refine U.p Z Z (.inl Z) (S.assign Z K) ?_
 refine U.done (nr Z) ?_
 refine WP.usreg Z ?_
 obtain ⟨x1, hx2, h3⟩ := bindS h
 refine O.call (V := V) Z Z (.inl Z) Z en7 (aC K aN) (wk_image_Decode V _ gl ByteArray.empty ow _ hx2) (fun _ _ _ _ => nd) (fun v4 V5 le6 hp7 => ?_)
 obtain ⟨v9, v11, v13, rfl, f10, f12, f14, ow8⟩ := hp7
 refine U.p Z Z (.inl Z) (S.move Z (L 0 Z Z)) ?_
 refine U.p Z Z (.inl Z) (S.extract Z (L 0 Z Z) Z (nr Z)) ?_
 refine U.p Z Z (.inl Z) (S.extract Z (L 1 Z Z) Z (nr Z)) ?_
 refine O.alloc ow8 Z Z (.inl Z) Z ti27 Z Z nd (fun b15 V16 le17 ow18 => ?_)
 refine O.store (k := 0) (cs := [v9, v11, v13]) (c' := [v9, v11, v13]) ow18 Z Z Z (.inl Z) Z (L 0 Z Z) (L 2 Z Z) ti27 (by simp [topV]) Z Z (nr Z) (by have q0 := f10.one; have q1 := f12.one; have q2 := f14.one; simp only [List.all_cons, List.all_nil, q0, q1, q2]; rfl) Z nd (fun V20 le21 ow22 => ?_)
 refine U.p Z Z (.inl Z) (S.assign Z (L 1 Z Z)) ?_
 refine U.done (nr Z) ?_
 refine WP.usreg Z ?_
 refine O.lit (R := (RT.int .u32)) ow22 Z Z (.inl Z) Z Tryd.underlying23 ti39 Z Z Z (nr Z) Z (aC K aN) (.cons _ _ 266338304 _ (by simp [topV]) Z .nil) (fun _ => nd) (fun v23 V24 le25 ow26 => ?_)
 obtain ⟨xs28, hx29, h30⟩ := bindS h3
 refine O.make (R := RT_TNote) (z0 := (⟨0, 0, false, false⟩ : TNote)) ow26 Z Z (.inl Z) Z K K Tryd.underlying24 ti42 Z Z Z (nr Z) Z hx29 (fun _ => nd) (fun v31 V32 le33 ow34 => ?_)
 refine O.lit (R := (RT.int .i64)) ow34 Z Z (.inl Z) Z Tryd.underlying25 ti3 Z Z Z (nr Z) Z (aC K aN) (.cons _ _ 0 _ (by simp [topV]) Z .nil) (fun _ => nd) (fun v36 V37 le38 ow39 => ?_)
 refine U.p (v := .agg #[v23, v31, v36]) Z Z (.inl Z) (S.build (vs := [v23, v31, v36]) Z ti27 Z pl27 (aC (L 2 Z Z) (aC (L 1 Z Z) (aC (L 0 Z Z) aN))) (allC (ow39.osne (k := 2) Z) (allC (ow39.osne (k := 1) Z) (allC (ow39.osne (k := 0) Z) allN))) (fill1 Z (ow39.oscells (k := 2) Z) (nr Z) (fill1 Z (ow39.oscells (k := 1) Z) (nr Z) (fill1 Z (ow39.oscells (k := 0) Z) (nr Z) Z)))) ?_
 obtain ⟨V41, eV45, le42, f43, ow44⟩ := ow39.osfz (k := 2) Z
 rw [← eV45]
 obtain ⟨V47, eV51, le48, f49, ow50⟩ := ow44.osfz (k := 1) Z
 rw [← eV51]
 have f53 := f43.up le48
 obtain ⟨V54, eV58, le55, f56, ow57⟩ := ow50.osfz (k := 0) Z
 rw [← eV58]
 have f60 := f53.up le55
 have f61 := f49.up le55
 obtain ⟨x62, hx63, h64⟩ := bindS h30
 refine O.call (V := V54) Z Z (.inl Z) Z en10 (aC (L 0 Z Z) aN) (wk_image_Encode V54 _ (gl.up ((((((((le6.trans le17).trans le21).trans le25).trans le33).trans le38).trans le42).trans le48).trans le55)) (⟨[266338304], xs28, [0]⟩ : TImage) v23 v31 v36 f60 f61 f56 ow57 _ hx63) (fun _ _ _ _ => nd) (fun v65 V66 le67 hp68 => ?_)
 obtain ⟨rfl, ow69⟩ := hp68
 refine U.p Z Z (.inl Z) (S.move Z (L 0 Z Z)) ?_
 refine U.p Z Z (.inl Z) (S.extract Z (L 0 Z Z) Z (nr Z)) ?_
 refine U.p Z Z (.inl Z) (S.extract Z (L 1 Z Z) Z (nr Z)) ?_
 refine U.p Z Z (.inl Z) (S.assign Z (L 1 Z Z)) ?_
 refine U.p Z Z (.inl Z) (S.assign Z (L 1 Z Z)) ?_
 refine U.done (nr Z) ?_
 refine WP.usreg Z ?_
 refine U.p Z Z (.inl Z) (S.move Z (L 10 Z Z)) ?_
 refine U.p Z Z (.inl Z) (S.eqlI Z (L 0 Z Z) K) ?_
 refine U.p Z Z (.inl Z) (S.move Z (L 0 Z Z)) ?_
 refine U.joinX 6 (fun e H => ∃ (u70 u71 : Value), H = V66.H ∧ e = [(22, .bool ((decide (x1.2 = 4)) && (decide (x62.2 = 0)))), (21, u70), (20, u71)]) ?_ ?_
 ·rintro _ _ ⟨u70, u71, rfl, rfl⟩
  refine U.p Z Z (.inl Z) (S.move Z (L 0 Z Z)) ?_
  refine U.joinX 11 (fun e H => ∃ (u75 u76 u77 : Value), H = V66.H ∧ e = [(27, .bool (((decide (x1.2 = 4)) && (decide (x62.2 = 0))) && (decide ((x62.1.size : Int) = 18)))), (26, u75), (25, u76), (24, u77)]) ?_ ?_
  ·rintro _ _ ⟨u75, u76, u77, rfl, rfl⟩
   refine U.p Z Z (.inl Z) (S.assign Z (L 0 Z Z)) ?_
   refine U.done (nr Z) ?_
   refine WP.ret ?_
   refine fin.slot (.inr Z) Z (L 0 Z Z) ⟨V66, Z, (((((((((le6.trans le17).trans le21).trans le25).trans le33).trans le38).trans le42).trans le48).trans le55).trans le67), ?_⟩
   have ow81 := ow69.drop 0 Z
   have e82 := Option.some.inj h64
   subst e82
   exact ⟨rfl, ow81⟩
  ·intro kk
   refine bcase (b := (decide (x1.2 = 4)) && (decide (x62.2 = 0))) (fun g83 => ?_) (fun g83 => ?_)
   ·skip
    refine U.p Z Z (.inr ⟨_, _, _, Z, Z, ((L 0 Z Z).trans (cB g83))⟩) (S.move Z (L 8 Z Z)) ?_
    refine U.p Z Z (.inr ⟨_, _, _, Z, Z, ((L 1 Z Z).trans (cB g83))⟩) (S.lenStr Z (L 0 Z Z) Tryd.underlying9) ?_
    refine U.p Z Z (.inr ⟨_, _, _, Z, Z, ((L 2 Z Z).trans (cB g83))⟩) (S.eqlI Z (L 0 Z Z) K) ?_
    refine U.p Z Z (.inl Z) (S.pickT Z ((L 3 Z Z).trans (cB g83)) (L 0 Z Z)) ?_
    exact kk [(27, .bool (decide ((x62.1.size : Int) = 18))), (26, .bool (decide ((x62.1.size : Int) = 18))), (25, .int .i64 (x62.1.size : Int)), (24, .string x62.1)] _ ⟨.bool (decide ((x62.1.size : Int) = 18)), .int .i64 (x62.1.size : Int), .string x62.1, Z, (by rw [g83, Bool.true_and])⟩
   ·skip
    refine U.x Z Z Z Z ((L 0 Z Z).trans (cB g83)) (by decide) ?_
    refine U.x Z Z Z Z ((L 1 Z Z).trans (cB g83)) (by decide) ?_
    refine U.x Z Z Z Z ((L 2 Z Z).trans (cB g83)) (by decide) ?_
    refine U.p Z Z (.inl Z) (S.pickF Z ((L 3 Z Z).trans (cB g83)) K) ?_
    exact kk [(27, .bool false), (26, .tuple #[]), (25, .tuple #[]), (24, .tuple #[])] _ ⟨.tuple #[], .tuple #[], .tuple #[], Z, (by rw [g83, Bool.false_and])⟩
 ·intro kk
  refine bcase (b := decide (x1.2 = 4)) (fun g84 => ?_) (fun g84 => ?_)
  ·skip
   refine U.p Z Z (.inr ⟨_, _, _, Z, Z, ((L 0 Z Z).trans (cB g84))⟩) (S.move Z (L 3 Z Z)) ?_
   refine U.p Z Z (.inr ⟨_, _, _, Z, Z, ((L 1 Z Z).trans (cB g84))⟩) (S.eqlI Z (L 0 Z Z) K) ?_
   refine U.p Z Z (.inl Z) (S.pickT Z ((L 2 Z Z).trans (cB g84)) (L 0 Z Z)) ?_
   exact kk [(22, .bool (decide (x62.2 = 0))), (21, .bool (decide (x62.2 = 0))), (20, .int .i64 x62.2)] _ ⟨.bool (decide (x62.2 = 0)), .int .i64 x62.2, Z, (by rw [g84, Bool.true_and])⟩
  ·skip
   refine U.x Z Z Z Z ((L 0 Z Z).trans (cB g84)) (by decide) ?_
   refine U.x Z Z Z Z ((L 1 Z Z).trans (cB g84)) (by decide) ?_
   refine U.p Z Z (.inl Z) (S.pickF Z ((L 2 Z Z).trans (cB g84)) K) ?_
   exact kk [(22, .bool false), (21, .tuple #[]), (20, .tuple #[])] _ ⟨.tuple #[], .tuple #[], Z, (by rw [g84, Bool.false_and])⟩
theorem wk_law15_great (V : Vw) (Rs : List At) (gl : Glb V) (p0 : TImage) (v1 : Value) (v3 : Value) (v5 : Value) (f2 : Fz (RT.int .u32) V v1 p0.code) (f4 : Fz RT_TNote V v3 p0.notes) (f6 : Fz (RT.int .i64) V v5 p0.threads) (ow : Ow V (Rs)) (r : Bool) (h : law15_great p0 = some r) : ∃ v V', Cl Tryd.prog NG 11 #[.agg #[v1, v3, v5]] V.H v V'.H ∧ V.le V' ∧ (v = .bool r ∧ Ow V' (Rs)) := by
 refine Ct.of gl.lo Tryd.func11 Z (nr Z) ?_
 unfold law15_great at h
 refine WP.usreg Z ?_
 refine O.box ow Z Z (.inl Z) Z (L 0 Z Z) (by simp [topV]) Z nd (fun b7 V8 le9 ow10 => ?_)
 refine U.p Z Z (.inl Z) (S.assign Z K) ?_
 refine U.done (nr Z) ?_
 refine WP.usreg Z ?_
 refine U.p (v := .pointer (some ⟨b7, 0, none⟩)) Z Z (.inl Z) (S.fieldAddr Z (L 1 Z Z) Tryd.underlying27 Z ti23 Z Z) ?_
 refine U.k Z Z (.inl Z) (S.load Z (L 0 Z Z) Tryd.underlying23 Z ((ow10.own (k := 0) Z).cell Z)) nd ?_
 refine U.p Z Z (.inl Z) (f2.1.len Z (L 0 Z Z) Tryd.underlying23) ?_
 refine U.p Z Z (.inl Z) (S.gtr Z (L 0 Z Z) K) ?_
 refine U.p Z Z (.inl Z) (S.move Z (L 0 Z Z)) ?_
 refine U.joinX 10 (fun e H => ∃ (u12 u13 u14 u15 : Value), H = V8.H ∧ e = [(12, .bool ((decide (200 < (p0.code.length : Int))) || (decide (200 < (p0.notes.length : Int))))), (11, u12), (10, u13), (9, u14), (8, u15)]) ?_ ?_
 ·rintro _ _ ⟨u12, u13, u14, u15, rfl, rfl⟩
  refine U.p Z Z (.inl Z) (S.move Z (L 0 Z Z)) ?_
  refine U.joinX 16 (fun e H => ∃ (u19 u20 u21 u22 : Value), H = V8.H ∧ e = [(18, .bool (((decide (200 < (p0.code.length : Int))) || (decide (200 < (p0.notes.length : Int)))) || (decide (20 < (p0.threads.length : Int))))), (17, u19), (16, u20), (15, u21), (14, u22)]) ?_ ?_
  ·rintro _ _ ⟨u19, u20, u21, u22, rfl, rfl⟩
   refine U.p Z Z (.inl Z) (S.assign Z (L 0 Z Z)) ?_
   refine U.done (nr Z) ?_
   refine WP.ret ?_
   refine fin.slot (.inr Z) Z (L 0 Z Z) ⟨V8, Z, le9, ?_⟩
   have ow26 := ow10.drop 0 Z
   have e27 := Option.some.inj h
   subst e27
   exact ⟨rfl, ow26⟩
  ·intro kk
   refine bcase (b := (decide (200 < (p0.code.length : Int))) || (decide (200 < (p0.notes.length : Int)))) (fun g28 => ?_) (fun g28 => ?_)
   ·skip
    refine U.x Z Z Z Z ((L 0 Z Z).trans (cB g28)) (by decide) ?_
    refine U.x Z Z Z Z ((L 1 Z Z).trans (cB g28)) (by decide) ?_
    refine U.x Z Z Z Z ((L 2 Z Z).trans (cB g28)) (by decide) ?_
    refine U.x Z Z Z Z ((L 3 Z Z).trans (cB g28)) (by decide) ?_
    refine U.p Z Z (.inl Z) (S.pickT Z ((L 4 Z Z).trans (cB g28)) K) ?_
    exact kk [(18, .bool true), (17, .tuple #[]), (16, .tuple #[]), (15, .tuple #[]), (14, .tuple #[])] _ ⟨.tuple #[], .tuple #[], .tuple #[], .tuple #[], Z, (by rw [g28, Bool.true_or])⟩
   ·skip
    refine U.p (v := .pointer (some ⟨b7, 2, none⟩)) Z Z (.inr ⟨_, _, _, Z, Z, ((L 0 Z Z).trans (cB g28))⟩) (S.fieldAddr Z (L 12 Z Z) Tryd.underlying27 Z ti25 Z Z) ?_
    refine U.k Z Z (.inr ⟨_, _, _, Z, Z, ((L 1 Z Z).trans (cB g28))⟩) (S.load Z (L 0 Z Z) Tryd.underlying25 Z ((ow10.own (k := 0) Z).cell Z)) nd ?_
    refine U.p Z Z (.inr ⟨_, _, _, Z, Z, ((L 2 Z Z).trans (cB g28))⟩) (f6.1.len Z (L 0 Z Z) Tryd.underlying25) ?_
    refine U.p Z Z (.inr ⟨_, _, _, Z, Z, ((L 3 Z Z).trans (cB g28))⟩) (S.gtr Z (L 0 Z Z) K) ?_
    refine U.p Z Z (.inl Z) (S.pickF Z ((L 4 Z Z).trans (cB g28)) (L 0 Z Z)) ?_
    exact kk [(18, .bool (decide (20 < (p0.threads.length : Int)))), (17, .bool (decide (20 < (p0.threads.length : Int)))), (16, .int .i64 (p0.threads.length : Int)), (15, v5), (14, .pointer (some ⟨b7, 2, none⟩))] _ ⟨.bool (decide (20 < (p0.threads.length : Int))), .int .i64 (p0.threads.length : Int), v5, .pointer (some ⟨b7, 2, none⟩), Z, (by rw [g28, Bool.false_or])⟩
 ·intro kk
  refine bcase (b := decide (200 < (p0.code.length : Int))) (fun g29 => ?_) (fun g29 => ?_)
  ·skip
   refine U.x Z Z Z Z ((L 0 Z Z).trans (cB g29)) (by decide) ?_
   refine U.x Z Z Z Z ((L 1 Z Z).trans (cB g29)) (by decide) ?_
   refine U.x Z Z Z Z ((L 2 Z Z).trans (cB g29)) (by decide) ?_
   refine U.x Z Z Z Z ((L 3 Z Z).trans (cB g29)) (by decide) ?_
   refine U.p Z Z (.inl Z) (S.pickT Z ((L 4 Z Z).trans (cB g29)) K) ?_
   exact kk [(12, .bool true), (11, .tuple #[]), (10, .tuple #[]), (9, .tuple #[]), (8, .tuple #[])] _ ⟨.tuple #[], .tuple #[], .tuple #[], .tuple #[], Z, (by rw [g29, Bool.true_or])⟩
  ·skip
   refine U.p (v := .pointer (some ⟨b7, 1, none⟩)) Z Z (.inr ⟨_, _, _, Z, Z, ((L 0 Z Z).trans (cB g29))⟩) (S.fieldAddr Z (L 6 Z Z) Tryd.underlying27 Z ti24 Z Z) ?_
   refine U.k Z Z (.inr ⟨_, _, _, Z, Z, ((L 1 Z Z).trans (cB g29))⟩) (S.load Z (L 0 Z Z) Tryd.underlying24 Z ((ow10.own (k := 0) Z).cell Z)) nd ?_
   refine U.p Z Z (.inr ⟨_, _, _, Z, Z, ((L 2 Z Z).trans (cB g29))⟩) (f4.1.len Z (L 0 Z Z) Tryd.underlying24) ?_
   refine U.p Z Z (.inr ⟨_, _, _, Z, Z, ((L 3 Z Z).trans (cB g29))⟩) (S.gtr Z (L 0 Z Z) K) ?_
   refine U.p Z Z (.inl Z) (S.pickF Z ((L 4 Z Z).trans (cB g29)) (L 0 Z Z)) ?_
   exact kk [(12, .bool (decide (200 < (p0.notes.length : Int)))), (11, .bool (decide (200 < (p0.notes.length : Int)))), (10, .int .i64 (p0.notes.length : Int)), (9, v3), (8, .pointer (some ⟨b7, 1, none⟩))] _ ⟨.bool (decide (200 < (p0.notes.length : Int))), .int .i64 (p0.notes.length : Int), v3, .pointer (some ⟨b7, 1, none⟩), Z, (by rw [g29, Bool.false_or])⟩
theorem wk_ref02_ext (V : Vw) (Rs : List At) (gl : Glb V) (p0 : Int) (ow : Ow V (Rs)) (r : Int) (h : ref02_ext p0 = some r) : ∃ v V', Cl Tryd.prog NG 45 #[.int .u32 p0] V.H v V'.H ∧ V.le V' ∧ (v = .int .u32 r ∧ Ow V' (Rs)) := by
 refine Ct.of gl.lo Tryd.func45 Z (nr Z) ?_
 unfold ref02_ext at h
 refine WP.usreg Z ?_
 refine U.p Z Z (.inl Z) (S.assign Z K) ?_
 refine U.done (nr Z) ?_
 refine WP.usreg Z ?_
 refine U.p Z Z (.inl Z) (S.move Z (L 1 Z Z)) ?_
 refine U.p Z Z (.inl Z) (S.mul Z K (L 0 Z Z)) ?_
 refine U.p Z Z (.inl Z) (S.add Z K (L 0 Z Z)) ?_
 refine U.p Z Z (.inl Z) (S.assign Z (L 0 Z Z)) ?_
 refine U.done (nr Z) ?_
 refine WP.ret ?_
 refine fin.slot (.inr Z) Z (L 0 Z Z) ⟨V, Z, (.refl _), ?_⟩
 have e1 := Option.some.inj h
 subst e1
 exact ⟨rfl, ow⟩
theorem wk_ref02_Of (V : Vw) (Rs : List At) (gl : Glb V) (p0 : Int) (ow : Ow V (Rs)) (r : Tref02_Has × Bool) (h : ref02_Of p0 = some r) : ∃ v V', Cl Tryd.prog NG 32 #[.int .i64 p0] V.H v V'.H ∧ V.le V' ∧ (v = .tuple #[.agg #[.string r.1.name, .bool r.1.d, .bool r.1.a, .bool r.1.b, .int .i64 r.1.imm, .int .u32 r.1.word], .bool r.2] ∧ Ow V' (Rs)) := by
 refine Ct.of gl.lo Tryd.func32 Z (nr Z) ?_
 unfold ref02_Of at h
 refine WP.usreg Z ?_
 refine O.alloc ow Z Z (.inl Z) Z ti70 Z Z nd (fun b1 V2 le3 ow4 => ?_)
 refine U.p Z Z (.inl Z) (S.assign Z K) ?_
 refine U.done (nr Z) ?_
 refine WP.seq ?_
 refine WP.usreg Z ?_
 refine U.p Z Z (.inl Z) (S.move Z (L 2 Z Z)) ?_
 refine U.done (nr Z) ?_
 refine WP.blk ?_
 refine WP.usreg Z ?_
 refine U.p Z Z (.inl Z) (S.eqlI Z (L 0 Z Z) K) ?_
 refine U.p Z Z (.inl Z) (S.assign Z (L 0 Z Z)) ?_
 refine U.done (nr Z) ?_
 refine WP.cond _ (L 0 Z Z) Z (fun c6 => ?_) (fun c6 => ?_)
 ·have h7 := ifT c6 h
  refine WP.usreg Z ?_
  refine U.p (v := .agg #[.string str2, .bool true, .bool true, .bool false, .int .i64 4, .int .u32 3892314112]) Z Z (.inl Z) (S.build (vs := [.string str2, .bool true, .bool true, .bool false, .int .i64 4, .int .u32 3892314112]) Z ti70 Z pl70 (aC K (aC K (aC K (aC K (aC K (aC K aN)))))) (allC (by simp [topV]) (allC (by simp [topV]) (allC (by simp [topV]) (allC (by simp [topV]) (allC (by simp [topV]) (allC (by simp [topV]) allN)))))) Z) ?_
  refine O.store (k := 0) (cs := [.string str2, .bool true, .bool true, .bool false, .int .i64 4, .int .u32 3892314112]) (c' := [.string str2, .bool true, .bool true, .bool false, .int .i64 4, .int .u32 3892314112]) ow4 Z Z Z (.inl Z) Z (L 5 Z Z) (L 0 Z Z) ti70 (by simp [topV]) Z Z (nr Z) Z Z nd (fun V8 le9 ow10 => ?_)
  refine U.p Z Z (.inl Z) (S.assign Z K) ?_
  refine U.done (nr Z) ?_
  refine WP.ret ?_
  refine blkR (sqR ?_)
  refine fin.mix (.inr Z) (resA (L 6 Z Z) Tryd.underlying70 Z ti70 (ow10.own (k := 0) Z).get Z (resT (L 0 Z Z) res0)) Z ⟨V8, Z, (le3.trans le9), ?_⟩
  have ow11 := ow10.drop 0 Z
  have e12 := Option.some.inj h7
  subst e12
  exact ⟨rfl, ow11⟩
 ·have h13 := ifF c6 h
  refine WP.usreg Z ?_
  refine U.p Z Z (.inl Z) (S.eqlI Z (L 2 Z Z) K) ?_
  refine U.p Z Z (.inl Z) (S.assign Z (L 0 Z Z)) ?_
  refine U.done (nr Z) ?_
  refine WP.cond _ (L 0 Z Z) Z (fun c14 => ?_) (fun c14 => ?_)
  ·have h15 := ifT c14 h13
   refine WP.usreg Z ?_
   refine U.p (v := .agg #[.string str4, .bool true, .bool true, .bool false, .int .i64 4, .int .u32 4160749568]) Z Z (.inl Z) (S.build (vs := [.string str4, .bool true, .bool true, .bool false, .int .i64 4, .int .u32 4160749568]) Z ti70 Z pl70 (aC K (aC K (aC K (aC K (aC K (aC K aN)))))) (allC (by simp [topV]) (allC (by simp [topV]) (allC (by simp [topV]) (allC (by simp [topV]) (allC (by simp [topV]) (allC (by simp [topV]) allN)))))) Z) ?_
   refine O.store (k := 0) (cs := [.string str4, .bool true, .bool true, .bool false, .int .i64 4, .int .u32 4160749568]) (c' := [.string str4, .bool true, .bool true, .bool false, .int .i64 4, .int .u32 4160749568]) ow4 Z Z Z (.inl Z) Z (L 7 Z Z) (L 0 Z Z) ti70 (by simp [topV]) Z Z (nr Z) Z Z nd (fun V16 le17 ow18 => ?_)
   refine U.p Z Z (.inl Z) (S.assign Z K) ?_
   refine U.done (nr Z) ?_
   refine WP.ret ?_
   refine blkR (sqR ?_)
   refine fin.mix (.inr Z) (resA (L 8 Z Z) Tryd.underlying70 Z ti70 (ow18.own (k := 0) Z).get Z (resT (L 0 Z Z) res0)) Z ⟨V16, Z, (le3.trans le17), ?_⟩
   have ow19 := ow18.drop 0 Z
   have e20 := Option.some.inj h15
   subst e20
   exact ⟨rfl, ow19⟩
  ·have h21 := ifF c14 h13
   refine WP.usreg Z ?_
   refine U.p Z Z (.inl Z) (S.eqlI Z (L 4 Z Z) K) ?_
   refine U.p Z Z (.inl Z) (S.assign Z (L 0 Z Z)) ?_
   refine U.done (nr Z) ?_
   refine WP.cond _ (L 0 Z Z) Z (fun c22 => ?_) (fun c22 => ?_)
   ·have h23 := ifT c22 h21
    refine WP.usreg Z ?_
    refine U.p (v := .agg #[.string str5, .bool true, .bool true, .bool false, .int .i64 16, .int .u32 939524096]) Z Z (.inl Z) (S.build (vs := [.string str5, .bool true, .bool true, .bool false, .int .i64 16, .int .u32 939524096]) Z ti70 Z pl70 (aC K (aC K (aC K (aC K (aC K (aC K aN)))))) (allC (by simp [topV]) (allC (by simp [topV]) (allC (by simp [topV]) (allC (by simp [topV]) (allC (by simp [topV]) (allC (by simp [topV]) allN)))))) Z) ?_
    refine O.store (k := 0) (cs := [.string str5, .bool true, .bool true, .bool false, .int .i64 16, .int .u32 939524096]) (c' := [.string str5, .bool true, .bool true, .bool false, .int .i64 16, .int .u32 939524096]) ow4 Z Z Z (.inl Z) Z (L 9 Z Z) (L 0 Z Z) ti70 (by simp [topV]) Z Z (nr Z) Z Z nd (fun V24 le25 ow26 => ?_)
    refine U.p Z Z (.inl Z) (S.assign Z K) ?_
    refine U.done (nr Z) ?_
    refine WP.ret ?_
    refine blkR (sqR ?_)
    refine fin.mix (.inr Z) (resA (L 10 Z Z) Tryd.underlying70 Z ti70 (ow26.own (k := 0) Z).get Z (resT (L 0 Z Z) res0)) Z ⟨V24, Z, (le3.trans le25), ?_⟩
    have ow27 := ow26.drop 0 Z
    have e28 := Option.some.inj h23
    subst e28
    exact ⟨rfl, ow27⟩
   ·have h29 := ifF c22 h21
    refine WP.usreg Z ?_
    refine U.p Z Z (.inl Z) (S.eqlI Z (L 6 Z Z) K) ?_
    refine U.p Z Z (.inl Z) (S.assign Z (L 0 Z Z)) ?_
    refine U.done (nr Z) ?_
    refine WP.cond _ (L 0 Z Z) Z (fun c30 => ?_) (fun c30 => ?_)
    ·have h31 := ifT c30 h29
     refine WP.usreg Z ?_
     obtain ⟨x32, hx33, h34⟩ := bindS h31
     refine O.call (V := V2) Z Z (.inl Z) Z en45 (aC K aN) (wk_ref02_ext V2 _ (gl.up le3) 266 ow4 _ hx33) (fun _ _ _ _ => nd) (fun v35 V36 le37 hp38 => ?_)
     obtain ⟨rfl, ow39⟩ := hp38
     refine U.p (v := .agg #[.string str7, .bool true, .bool true, .bool true, .int .i64 0, .int .u32 x32]) Z Z (.inl Z) (S.build (vs := [.string str7, .bool true, .bool true, .bool true, .int .i64 0, .int .u32 x32]) Z ti70 Z pl70 (aC K (aC K (aC K (aC K (aC K (aC (L 0 Z Z) aN)))))) (allC (by simp [topV]) (allC (by simp [topV]) (allC (by simp [topV]) (allC (by simp [topV]) (allC (by simp [topV]) (allC (by simp [topV]) allN)))))) Z) ?_
     refine O.store (k := 0) (cs := [.string str7, .bool true, .bool true, .bool true, .int .i64 0, .int .u32 x32]) (c' := [.string str7, .bool true, .bool true, .bool true, .int .i64 0, .int .u32 x32]) ow39 Z Z Z (.inl Z) Z (L 12 Z Z) (L 0 Z Z) ti70 (by simp [topV]) Z Z (nr Z) Z Z nd (fun V40 le41 ow42 => ?_)
     refine U.p Z Z (.inl Z) (S.assign Z K) ?_
     refine U.done (nr Z) ?_
     refine WP.ret ?_
     refine blkR (sqR ?_)
     refine fin.mix (.inr Z) (resA (L 13 Z Z) Tryd.underlying70 Z ti70 (ow42.own (k := 0) Z).get Z (resT (L 0 Z Z) res0)) Z ⟨V40, Z, ((le3.trans le37).trans le41), ?_⟩
     have ow43 := ow42.drop 0 Z
     have e44 := Option.some.inj h34
     subst e44
     exact ⟨rfl, ow43⟩
    ·have h45 := ifF c30 h29
     refine WP.usreg Z ?_
     refine U.p Z Z (.inl Z) (S.eqlI Z (L 8 Z Z) K) ?_
     refine U.p Z Z (.inl Z) (S.assign Z (L 0 Z Z)) ?_
     refine U.done (nr Z) ?_
     refine WP.cond _ (L 0 Z Z) Z (fun c46 => ?_) (fun c46 => ?_)
     ·have h47 := ifT c46 h45
      refine WP.usreg Z ?_
      obtain ⟨x48, hx49, h50⟩ := bindS h47
      refine O.call (V := V2) Z Z (.inl Z) Z en45 (aC K aN) (wk_ref02_ext V2 _ (gl.up le3) 40 ow4 _ hx49) (fun _ _ _ _ => nd) (fun v51 V52 le53 hp54 => ?_)
      obtain ⟨rfl, ow55⟩ := hp54
      refine U.p (v := .agg #[.string str9, .bool true, .bool true, .bool true, .int .i64 0, .int .u32 x48]) Z Z (.inl Z) (S.build (vs := [.string str9, .bool true, .bool true, .bool true, .int .i64 0, .int .u32 x48]) Z ti70 Z pl70 (aC K (aC K (aC K (aC K (aC K (aC (L 0 Z Z) aN)))))) (allC (by simp [topV]) (allC (by simp [topV]) (allC (by simp [topV]) (allC (by simp [topV]) (allC (by simp [topV]) (allC (by simp [topV]) allN)))))) Z) ?_
      refine O.store (k := 0) (cs := [.string str9, .bool true, .bool true, .bool true, .int .i64 0, .int .u32 x48]) (c' := [.string str9, .bool true, .bool true, .bool true, .int .i64 0, .int .u32 x48]) ow55 Z Z Z (.inl Z) Z (L 14 Z Z) (L 0 Z Z) ti70 (by simp [topV]) Z Z (nr Z) Z Z nd (fun V56 le57 ow58 => ?_)
      refine U.p Z Z (.inl Z) (S.assign Z K) ?_
      refine U.done (nr Z) ?_
      refine WP.ret ?_
      refine blkR (sqR ?_)
      refine fin.mix (.inr Z) (resA (L 15 Z Z) Tryd.underlying70 Z ti70 (ow58.own (k := 0) Z).get Z (resT (L 0 Z Z) res0)) Z ⟨V56, Z, ((le3.trans le53).trans le57), ?_⟩
      have ow59 := ow58.drop 0 Z
      have e60 := Option.some.inj h50
      subst e60
      exact ⟨rfl, ow59⟩
     ·have h61 := ifF c46 h45
      refine WP.usreg Z ?_
      refine U.p Z Z (.inl Z) (S.eqlI Z (L 10 Z Z) K) ?_
      refine U.p Z Z (.inl Z) (S.assign Z (L 0 Z Z)) ?_
      refine U.done (nr Z) ?_
      refine WP.cond _ (L 0 Z Z) Z (fun c62 => ?_) (fun c62 => ?_)
      ·have h63 := ifT c62 h61
       refine WP.usreg Z ?_
       obtain ⟨x64, hx65, h66⟩ := bindS h63
       refine O.call (V := V2) Z Z (.inl Z) Z en45 (aC K aN) (wk_ref02_ext V2 _ (gl.up le3) 233 ow4 _ hx65) (fun _ _ _ _ => nd) (fun v67 V68 le69 hp70 => ?_)
       obtain ⟨rfl, ow71⟩ := hp70
       refine U.p (v := .agg #[.string str10, .bool true, .bool true, .bool true, .int .i64 0, .int .u32 x64]) Z Z (.inl Z) (S.build (vs := [.string str10, .bool true, .bool true, .bool true, .int .i64 0, .int .u32 x64]) Z ti70 Z pl70 (aC K (aC K (aC K (aC K (aC K (aC (L 0 Z Z) aN)))))) (allC (by simp [topV]) (allC (by simp [topV]) (allC (by simp [topV]) (allC (by simp [topV]) (allC (by simp [topV]) (allC (by simp [topV]) allN)))))) Z) ?_
       refine O.store (k := 0) (cs := [.string str10, .bool true, .bool true, .bool true, .int .i64 0, .int .u32 x64]) (c' := [.string str10, .bool true, .bool true, .bool true, .int .i64 0, .int .u32 x64]) ow71 Z Z Z (.inl Z) Z (L 16 Z Z) (L 0 Z Z) ti70 (by simp [topV]) Z Z (nr Z) Z Z nd (fun V72 le73 ow74 => ?_)
       refine U.p Z Z (.inl Z) (S.assign Z K) ?_
       refine U.done (nr Z) ?_
       refine WP.ret ?_
       refine blkR (sqR ?_)
       refine fin.mix (.inr Z) (resA (L 17 Z Z) Tryd.underlying70 Z ti70 (ow74.own (k := 0) Z).get Z (resT (L 0 Z Z) res0)) Z ⟨V72, Z, ((le3.trans le69).trans le73), ?_⟩
       have ow75 := ow74.drop 0 Z
       have e76 := Option.some.inj h66
       subst e76
       exact ⟨rfl, ow75⟩
      ·have h77 := ifF c62 h61
       refine WP.usreg Z ?_
       refine U.p Z Z (.inl Z) (S.eqlI Z (L 12 Z Z) K) ?_
       refine U.p Z Z (.inl Z) (S.assign Z (L 0 Z Z)) ?_
       refine U.done (nr Z) ?_
       refine WP.cond _ (L 0 Z Z) Z (fun c78 => ?_) (fun c78 => ?_)
       ·have h79 := ifT c78 h77
        refine WP.usreg Z ?_
        obtain ⟨x80, hx81, h82⟩ := bindS h79
        refine O.call (V := V2) Z Z (.inl Z) Z en45 (aC K aN) (wk_ref02_ext V2 _ (gl.up le3) 489 ow4 _ hx81) (fun _ _ _ _ => nd) (fun v83 V84 le85 hp86 => ?_)
        obtain ⟨rfl, ow87⟩ := hp86
        refine U.p (v := .agg #[.string str11, .bool true, .bool true, .bool true, .int .i64 0, .int .u32 x80]) Z Z (.inl Z) (S.build (vs := [.string str11, .bool true, .bool true, .bool true, .int .i64 0, .int .u32 x80]) Z ti70 Z pl70 (aC K (aC K (aC K (aC K (aC K (aC (L 0 Z Z) aN)))))) (allC (by simp [topV]) (allC (by simp [topV]) (allC (by simp [topV]) (allC (by simp [topV]) (allC (by simp [topV]) (allC (by simp [topV]) allN)))))) Z) ?_
        refine O.store (k := 0) (cs := [.string str11, .bool true, .bool true, .bool true, .int .i64 0, .int .u32 x80]) (c' := [.string str11, .bool true, .bool true, .bool true, .int .i64 0, .int .u32 x80]) ow87 Z Z Z (.inl Z) Z (L 18 Z Z) (L 0 Z Z) ti70 (by simp [topV]) Z Z (nr Z) Z Z nd (fun V88 le89 ow90 => ?_)
        refine U.p Z Z (.inl Z) (S.assign Z K) ?_
        refine U.done (nr Z) ?_
        refine WP.ret ?_
        refine blkR (sqR ?_)
        refine fin.mix (.inr Z) (resA (L 19 Z Z) Tryd.underlying70 Z ti70 (ow90.own (k := 0) Z).get Z (resT (L 0 Z Z) res0)) Z ⟨V88, Z, ((le3.trans le85).trans le89), ?_⟩
        have ow91 := ow90.drop 0 Z
        have e92 := Option.some.inj h82
        subst e92
        exact ⟨rfl, ow91⟩
       ·have h93 := ifF c78 h77
        refine WP.usreg Z ?_
        refine U.p Z Z (.inl Z) (S.eqlI Z (L 14 Z Z) K) ?_
        refine U.p Z Z (.inl Z) (S.assign Z (L 0 Z Z)) ?_
        refine U.done (nr Z) ?_
        refine WP.cond _ (L 0 Z Z) Z (fun c94 => ?_) (fun c94 => ?_)
        ·have h95 := ifT c94 h93
         refine WP.usreg Z ?_
         obtain ⟨x96, hx97, h98⟩ := bindS h95
         refine O.call (V := V2) Z Z (.inl Z) Z en45 (aC K aN) (wk_ref02_ext V2 _ (gl.up le3) 0 ow4 _ hx97) (fun _ _ _ _ => nd) (fun v99 V100 le101 hp102 => ?_)
         obtain ⟨rfl, ow103⟩ := hp102
         refine U.p Z Z (.inl Z) (S.add Z (L 0 Z Z) K) ?_
         refine U.p (v := .agg #[.string str12, .bool false, .bool true, .bool true, .int .i64 0, .int .u32 (IntKind.wrap .u32 (x96 + 2097152))]) Z Z (.inl Z) (S.build (vs := [.string str12, .bool false, .bool true, .bool true, .int .i64 0, .int .u32 (IntKind.wrap .u32 (x96 + 2097152))]) Z ti70 Z pl70 (aC K (aC K (aC K (aC K (aC K (aC (L 0 Z Z) aN)))))) (allC (by simp [topV]) (allC (by simp [topV]) (allC (by simp [topV]) (allC (by simp [topV]) (allC (by simp [topV]) (allC (by simp [topV]) allN)))))) Z) ?_
         refine O.store (k := 0) (cs := [.string str12, .bool false, .bool true, .bool true, .int .i64 0, .int .u32 (IntKind.wrap .u32 (x96 + 2097152))]) (c' := [.string str12, .bool false, .bool true, .bool true, .int .i64 0, .int .u32 (IntKind.wrap .u32 (x96 + 2097152))]) ow103 Z Z Z (.inl Z) Z (L 21 Z Z) (L 0 Z Z) ti70 (by simp [topV]) Z Z (nr Z) Z Z nd (fun V104 le105 ow106 => ?_)
         refine U.p Z Z (.inl Z) (S.assign Z K) ?_
         refine U.done (nr Z) ?_
         refine WP.ret ?_
         refine blkR (sqR ?_)
         refine fin.mix (.inr Z) (resA (L 22 Z Z) Tryd.underlying70 Z ti70 (ow106.own (k := 0) Z).get Z (resT (L 0 Z Z) res0)) Z ⟨V104, Z, ((le3.trans le101).trans le105), ?_⟩
         have ow107 := ow106.drop 0 Z
         have e108 := Option.some.inj h98
         subst e108
         exact ⟨rfl, ow107⟩
        ·have h109 := ifF c94 h93
         refine WP.usreg Z ?_
         refine U.p Z Z (.inl Z) (S.eqlI Z (L 16 Z Z) K) ?_
         refine U.p Z Z (.inl Z) (S.assign Z (L 0 Z Z)) ?_
         refine U.done (nr Z) ?_
         refine WP.cond _ (L 0 Z Z) Z (fun c110 => ?_) (fun c110 => ?_)
         ·have h111 := ifT c110 h109
          refine WP.usreg Z ?_
          refine U.p (v := .agg #[.string str14, .bool false, .bool true, .bool false, .int .i64 16, .int .u32 740294656]) Z Z (.inl Z) (S.build (vs := [.string str14, .bool false, .bool true, .bool false, .int .i64 16, .int .u32 740294656]) Z ti70 Z pl70 (aC K (aC K (aC K (aC K (aC K (aC K aN)))))) (allC (by simp [topV]) (allC (by simp [topV]) (allC (by simp [topV]) (allC (by simp [topV]) (allC (by simp [topV]) (allC (by simp [topV]) allN)))))) Z) ?_
          refine O.store (k := 0) (cs := [.string str14, .bool false, .bool true, .bool false, .int .i64 16, .int .u32 740294656]) (c' := [.string str14, .bool false, .bool true, .bool false, .int .i64 16, .int .u32 740294656]) ow4 Z Z Z (.inl Z) Z (L 21 Z Z) (L 0 Z Z) ti70 (by simp [topV]) Z Z (nr Z) Z Z nd (fun V112 le113 ow114 => ?_)
          refine U.p Z Z (.inl Z) (S.assign Z K) ?_
          refine U.done (nr Z) ?_
          refine WP.ret ?_
          refine blkR (sqR ?_)
          refine fin.mix (.inr Z) (resA (L 22 Z Z) Tryd.underlying70 Z ti70 (ow114.own (k := 0) Z).get Z (resT (L 0 Z Z) res0)) Z ⟨V112, Z, (le3.trans le113), ?_⟩
          have ow115 := ow114.drop 0 Z
          have e116 := Option.some.inj h111
          subst e116
          exact ⟨rfl, ow115⟩
         ·have h117 := ifF c110 h109
          refine WP.usreg Z ?_
          refine U.p Z Z (.inl Z) (S.eqlI Z (L 18 Z Z) K) ?_
          refine U.p Z Z (.inl Z) (S.assign Z (L 0 Z Z)) ?_
          refine U.done (nr Z) ?_
          refine WP.cond _ (L 0 Z Z) Z (fun c118 => ?_) (fun c118 => ?_)
          ·have h119 := ifT c118 h117
           refine WP.usreg Z ?_
           refine U.p (v := .agg #[.string ByteArray.empty, .bool true, .bool true, .bool false, .int .i64 14, .int .u32 1073741824]) Z Z (.inl Z) (S.build (vs := [.string ByteArray.empty, .bool true, .bool true, .bool false, .int .i64 14, .int .u32 1073741824]) Z ti70 Z pl70 (aC K (aC K (aC K (aC K (aC K (aC K aN)))))) (allC (by simp [topV]) (allC (by simp [topV]) (allC (by simp [topV]) (allC (by simp [topV]) (allC (by simp [topV]) (allC (by simp [topV]) allN)))))) Z) ?_
           refine O.store (k := 0) (cs := [.string ByteArray.empty, .bool true, .bool true, .bool false, .int .i64 14, .int .u32 1073741824]) (c' := [.string ByteArray.empty, .bool true, .bool true, .bool false, .int .i64 14, .int .u32 1073741824]) ow4 Z Z Z (.inl Z) Z (L 23 Z Z) (L 0 Z Z) ti70 (by simp [topV]) Z Z (nr Z) Z Z nd (fun V120 le121 ow122 => ?_)
           refine U.p Z Z (.inl Z) (S.assign Z K) ?_
           refine U.done (nr Z) ?_
           refine WP.ret ?_
           refine blkR (sqR ?_)
           refine fin.mix (.inr Z) (resA (L 24 Z Z) Tryd.underlying70 Z ti70 (ow122.own (k := 0) Z).get Z (resT (L 0 Z Z) res0)) Z ⟨V120, Z, (le3.trans le121), ?_⟩
           have ow123 := ow122.drop 0 Z
           have e124 := Option.some.inj h119
           subst e124
           exact ⟨rfl, ow123⟩
          ·have h125 := ifF c118 h117
           refine WP.usreg Z ?_
           refine U.p Z Z (.inl Z) (S.eqlI Z (L 20 Z Z) K) ?_
           refine U.p Z Z (.inl Z) (S.assign Z (L 0 Z Z)) ?_
           refine U.done (nr Z) ?_
           refine WP.cond _ (L 0 Z Z) Z (fun c126 => ?_) (fun c126 => ?_)
           ·have h127 := ifT c126 h125
            refine WP.usreg Z ?_
            refine U.p (v := .agg #[.string str18, .bool false, .bool false, .bool false, .int .i64 24, .int .u32 1207959552]) Z Z (.inl Z) (S.build (vs := [.string str18, .bool false, .bool false, .bool false, .int .i64 24, .int .u32 1207959552]) Z ti70 Z pl70 (aC K (aC K (aC K (aC K (aC K (aC K aN)))))) (allC (by simp [topV]) (allC (by simp [topV]) (allC (by simp [topV]) (allC (by simp [topV]) (allC (by simp [topV]) (allC (by simp [topV]) allN)))))) Z) ?_
            refine O.store (k := 0) (cs := [.string str18, .bool false, .bool false, .bool false, .int .i64 24, .int .u32 1207959552]) (c' := [.string str18, .bool false, .bool false, .bool false, .int .i64 24, .int .u32 1207959552]) ow4 Z Z Z (.inl Z) Z (L 25 Z Z) (L 0 Z Z) ti70 (by simp [topV]) Z Z (nr Z) Z Z nd (fun V128 le129 ow130 => ?_)
            refine U.p Z Z (.inl Z) (S.assign Z K) ?_
            refine U.done (nr Z) ?_
            refine WP.ret ?_
            refine blkR (sqR ?_)
            refine fin.mix (.inr Z) (resA (L 26 Z Z) Tryd.underlying70 Z ti70 (ow130.own (k := 0) Z).get Z (resT (L 0 Z Z) res0)) Z ⟨V128, Z, (le3.trans le129), ?_⟩
            have ow131 := ow130.drop 0 Z
            have e132 := Option.some.inj h127
            subst e132
            exact ⟨rfl, ow131⟩
           ·have h133 := ifF c126 h125
            refine WP.usreg Z ?_
            refine U.p Z Z (.inl Z) (S.eqlI Z (L 22 Z Z) K) ?_
            refine U.p Z Z (.inl Z) (S.assign Z (L 0 Z Z)) ?_
            refine U.done (nr Z) ?_
            refine WP.cond _ (L 0 Z Z) Z (fun c134 => ?_) (fun c134 => ?_)
            ·have h135 := ifT c134 h133
             refine WP.usreg Z ?_
             refine U.p (v := .agg #[.string str20, .bool false, .bool false, .bool false, .int .i64 24, .int .u32 1207959553]) Z Z (.inl Z) (S.build (vs := [.string str20, .bool false, .bool false, .bool false, .int .i64 24, .int .u32 1207959553]) Z ti70 Z pl70 (aC K (aC K (aC K (aC K (aC K (aC K aN)))))) (allC (by simp [topV]) (allC (by simp [topV]) (allC (by simp [topV]) (allC (by simp [topV]) (allC (by simp [topV]) (allC (by simp [topV]) allN)))))) Z) ?_
             refine O.store (k := 0) (cs := [.string str20, .bool false, .bool false, .bool false, .int .i64 24, .int .u32 1207959553]) (c' := [.string str20, .bool false, .bool false, .bool false, .int .i64 24, .int .u32 1207959553]) ow4 Z Z Z (.inl Z) Z (L 27 Z Z) (L 0 Z Z) ti70 (by simp [topV]) Z Z (nr Z) Z Z nd (fun V136 le137 ow138 => ?_)
             refine U.p Z Z (.inl Z) (S.assign Z K) ?_
             refine U.done (nr Z) ?_
             refine WP.ret ?_
             refine blkR (sqR ?_)
             refine fin.mix (.inr Z) (resA (L 28 Z Z) Tryd.underlying70 Z ti70 (ow138.own (k := 0) Z).get Z (resT (L 0 Z Z) res0)) Z ⟨V136, Z, (le3.trans le137), ?_⟩
             have ow139 := ow138.drop 0 Z
             have e140 := Option.some.inj h135
             subst e140
             exact ⟨rfl, ow139⟩
            ·have h141 := ifF c134 h133
             refine WP.usreg Z ?_
             refine U.p Z Z (.inl Z) (S.eqlI Z (L 24 Z Z) K) ?_
             refine U.p Z Z (.inl Z) (S.assign Z (L 0 Z Z)) ?_
             refine U.done (nr Z) ?_
             refine WP.cond _ (L 0 Z Z) Z (fun c142 => ?_) (fun c142 => ?_)
             ·have h143 := ifT c142 h141
              refine WP.usreg Z ?_
              refine U.p (v := .agg #[.string str21, .bool false, .bool false, .bool false, .int .i64 0, .int .u32 1317011488]) Z Z (.inl Z) (S.build (vs := [.string str21, .bool false, .bool false, .bool false, .int .i64 0, .int .u32 1317011488]) Z ti70 Z pl70 (aC K (aC K (aC K (aC K (aC K (aC K aN)))))) (allC (by simp [topV]) (allC (by simp [topV]) (allC (by simp [topV]) (allC (by simp [topV]) (allC (by simp [topV]) (allC (by simp [topV]) allN)))))) Z) ?_
              refine O.store (k := 0) (cs := [.string str21, .bool false, .bool false, .bool false, .int .i64 0, .int .u32 1317011488]) (c' := [.string str21, .bool false, .bool false, .bool false, .int .i64 0, .int .u32 1317011488]) ow4 Z Z Z (.inl Z) Z (L 29 Z Z) (L 0 Z Z) ti70 (by simp [topV]) Z Z (nr Z) Z Z nd (fun V144 le145 ow146 => ?_)
              refine U.p Z Z (.inl Z) (S.assign Z K) ?_
              refine U.done (nr Z) ?_
              refine WP.ret ?_
              refine blkR (sqR ?_)
              refine fin.mix (.inr Z) (resA (L 30 Z Z) Tryd.underlying70 Z ti70 (ow146.own (k := 0) Z).get Z (resT (L 0 Z Z) res0)) Z ⟨V144, Z, (le3.trans le145), ?_⟩
              have ow147 := ow146.drop 0 Z
              have e148 := Option.some.inj h143
              subst e148
              exact ⟨rfl, ow147⟩
             ·have h149 := ifF c142 h141
              refine WP.usreg Z ?_
              refine U.p Z Z (.inl Z) (S.eqlI Z (L 26 Z Z) K) ?_
              refine U.p Z Z (.inl Z) (S.assign Z (L 0 Z Z)) ?_
              refine U.done (nr Z) ?_
              refine WP.cond _ (L 0 Z Z) Z (fun c150 => ?_) (fun c150 => ?_)
              ·have h151 := ifT c150 h149
               refine WP.usreg Z ?_
               obtain ⟨x152, hx153, h154⟩ := bindS h151
               refine O.call (V := V2) Z Z (.inl Z) Z en45 (aC K aN) (wk_ref02_ext V2 _ (gl.up le3) 339 ow4 _ hx153) (fun _ _ _ _ => nd) (fun v155 V156 le157 hp158 => ?_)
               obtain ⟨rfl, ow159⟩ := hp158
               refine U.p Z Z (.inl Z) (S.add Z (L 0 Z Z) K) ?_
               refine U.p (v := .agg #[.string str22, .bool true, .bool false, .bool false, .int .i64 0, .int .u32 (IntKind.wrap .u32 (x152 + 524288))]) Z Z (.inl Z) (S.build (vs := [.string str22, .bool true, .bool false, .bool false, .int .i64 0, .int .u32 (IntKind.wrap .u32 (x152 + 524288))]) Z ti70 Z pl70 (aC K (aC K (aC K (aC K (aC K (aC (L 0 Z Z) aN)))))) (allC (by simp [topV]) (allC (by simp [topV]) (allC (by simp [topV]) (allC (by simp [topV]) (allC (by simp [topV]) (allC (by simp [topV]) allN)))))) Z) ?_
               refine O.store (k := 0) (cs := [.string str22, .bool true, .bool false, .bool false, .int .i64 0, .int .u32 (IntKind.wrap .u32 (x152 + 524288))]) (c' := [.string str22, .bool true, .bool false, .bool false, .int .i64 0, .int .u32 (IntKind.wrap .u32 (x152 + 524288))]) ow159 Z Z Z (.inl Z) Z (L 33 Z Z) (L 0 Z Z) ti70 (by simp [topV]) Z Z (nr Z) Z Z nd (fun V160 le161 ow162 => ?_)
               refine U.p Z Z (.inl Z) (S.assign Z K) ?_
               refine U.done (nr Z) ?_
               refine WP.ret ?_
               refine blkR (sqR ?_)
               refine fin.mix (.inr Z) (resA (L 34 Z Z) Tryd.underlying70 Z ti70 (ow162.own (k := 0) Z).get Z (resT (L 0 Z Z) res0)) Z ⟨V160, Z, ((le3.trans le157).trans le161), ?_⟩
               have ow163 := ow162.drop 0 Z
               have e164 := Option.some.inj h154
               subst e164
               exact ⟨rfl, ow163⟩
              ·have h165 := ifF c150 h149
               refine WP.usreg Z ?_
               refine U.p Z Z (.inl Z) (S.eqlI Z (L 28 Z Z) K) ?_
               refine U.p Z Z (.inl Z) (S.assign Z (L 0 Z Z)) ?_
               refine U.done (nr Z) ?_
               refine WP.cond _ (L 0 Z Z) Z (fun c166 => ?_) (fun c166 => ?_)
               ·have h167 := ifT c166 h165
                refine WP.usreg Z ?_
                obtain ⟨x168, hx169, h170⟩ := bindS h167
                refine O.call (V := V2) Z Z (.inl Z) Z en45 (aC K aN) (wk_ref02_ext V2 _ (gl.up le3) 467 ow4 _ hx169) (fun _ _ _ _ => nd) (fun v171 V172 le173 hp174 => ?_)
                obtain ⟨rfl, ow175⟩ := hp174
                refine U.p Z Z (.inl Z) (S.add Z (L 0 Z Z) K) ?_
                refine U.p (v := .agg #[.string str24, .bool true, .bool false, .bool false, .int .i64 0, .int .u32 (IntKind.wrap .u32 (x168 + 524288))]) Z Z (.inl Z) (S.build (vs := [.string str24, .bool true, .bool false, .bool false, .int .i64 0, .int .u32 (IntKind.wrap .u32 (x168 + 524288))]) Z ti70 Z pl70 (aC K (aC K (aC K (aC K (aC K (aC (L 0 Z Z) aN)))))) (allC (by simp [topV]) (allC (by simp [topV]) (allC (by simp [topV]) (allC (by simp [topV]) (allC (by simp [topV]) (allC (by simp [topV]) allN)))))) Z) ?_
                refine O.store (k := 0) (cs := [.string str24, .bool true, .bool false, .bool false, .int .i64 0, .int .u32 (IntKind.wrap .u32 (x168 + 524288))]) (c' := [.string str24, .bool true, .bool false, .bool false, .int .i64 0, .int .u32 (IntKind.wrap .u32 (x168 + 524288))]) ow175 Z Z Z (.inl Z) Z (L 35 Z Z) (L 0 Z Z) ti70 (by simp [topV]) Z Z (nr Z) Z Z nd (fun V176 le177 ow178 => ?_)
                refine U.p Z Z (.inl Z) (S.assign Z K) ?_
                refine U.done (nr Z) ?_
                refine WP.ret ?_
                refine blkR (sqR ?_)
                refine fin.mix (.inr Z) (resA (L 36 Z Z) Tryd.underlying70 Z ti70 (ow178.own (k := 0) Z).get Z (resT (L 0 Z Z) res0)) Z ⟨V176, Z, ((le3.trans le173).trans le177), ?_⟩
                have ow179 := ow178.drop 0 Z
                have e180 := Option.some.inj h170
                subst e180
                exact ⟨rfl, ow179⟩
               ·have h181 := ifF c166 h165
                refine WP.usreg Z ?_
                refine U.p Z Z (.inl Z) (S.eqlI Z (L 30 Z Z) K) ?_
                refine U.p Z Z (.inl Z) (S.assign Z (L 0 Z Z)) ?_
                refine U.done (nr Z) ?_
                refine WP.cond _ (L 0 Z Z) Z (fun c182 => ?_) (fun c182 => ?_)
                ·have h183 := ifT c182 h181
                 refine WP.usreg Z ?_
                 obtain ⟨x184, hx185, h186⟩ := bindS h183
                 refine O.call (V := V2) Z Z (.inl Z) Z en45 (aC K aN) (wk_ref02_ext V2 _ (gl.up le3) 84 ow4 _ hx185) (fun _ _ _ _ => nd) (fun v187 V188 le189 hp190 => ?_)
                 obtain ⟨rfl, ow191⟩ := hp190
                 refine U.p (v := .agg #[.string str25, .bool true, .bool true, .bool true, .int .i64 0, .int .u32 x184]) Z Z (.inl Z) (S.build (vs := [.string str25, .bool true, .bool true, .bool true, .int .i64 0, .int .u32 x184]) Z ti70 Z pl70 (aC K (aC K (aC K (aC K (aC K (aC (L 0 Z Z) aN)))))) (allC (by simp [topV]) (allC (by simp [topV]) (allC (by simp [topV]) (allC (by simp [topV]) (allC (by simp [topV]) (allC (by simp [topV]) allN)))))) Z) ?_
                 refine O.store (k := 0) (cs := [.string str25, .bool true, .bool true, .bool true, .int .i64 0, .int .u32 x184]) (c' := [.string str25, .bool true, .bool true, .bool true, .int .i64 0, .int .u32 x184]) ow191 Z Z Z (.inl Z) Z (L 36 Z Z) (L 0 Z Z) ti70 (by simp [topV]) Z Z (nr Z) Z Z nd (fun V192 le193 ow194 => ?_)
                 refine U.p Z Z (.inl Z) (S.assign Z K) ?_
                 refine U.done (nr Z) ?_
                 refine WP.ret ?_
                 refine blkR (sqR ?_)
                 refine fin.mix (.inr Z) (resA (L 37 Z Z) Tryd.underlying70 Z ti70 (ow194.own (k := 0) Z).get Z (resT (L 0 Z Z) res0)) Z ⟨V192, Z, ((le3.trans le189).trans le193), ?_⟩
                 have ow195 := ow194.drop 0 Z
                 have e196 := Option.some.inj h186
                 subst e196
                 exact ⟨rfl, ow195⟩
                ·have h197 := ifF c182 h181
                 refine WP.usreg Z ?_
                 refine U.p Z Z (.inl Z) (S.eqlI Z (L 32 Z Z) K) ?_
                 refine U.p Z Z (.inl Z) (S.assign Z (L 0 Z Z)) ?_
                 refine U.done (nr Z) ?_
                 refine WP.cond _ (L 0 Z Z) Z (fun c198 => ?_) (fun c198 => ?_)
                 ·have h199 := ifT c198 h197
                  refine WP.usreg Z ?_
                  obtain ⟨x200, hx201, h202⟩ := bindS h199
                  refine O.call (V := V2) Z Z (.inl Z) Z en45 (aC K aN) (wk_ref02_ext V2 _ (gl.up le3) 214 ow4 _ hx201) (fun _ _ _ _ => nd) (fun v203 V204 le205 hp206 => ?_)
                  obtain ⟨rfl, ow207⟩ := hp206
                  refine U.p Z Z (.inl Z) (S.add Z (L 0 Z Z) K) ?_
                  refine U.p (v := .agg #[.string str26, .bool true, .bool true, .bool true, .int .i64 0, .int .u32 (IntKind.wrap .u32 (x200 + 1))]) Z Z (.inl Z) (S.build (vs := [.string str26, .bool true, .bool true, .bool true, .int .i64 0, .int .u32 (IntKind.wrap .u32 (x200 + 1))]) Z ti70 Z pl70 (aC K (aC K (aC K (aC K (aC K (aC (L 0 Z Z) aN)))))) (allC (by simp [topV]) (allC (by simp [topV]) (allC (by simp [topV]) (allC (by simp [topV]) (allC (by simp [topV]) (allC (by simp [topV]) allN)))))) Z) ?_
                  refine O.store (k := 0) (cs := [.string str26, .bool true, .bool true, .bool true, .int .i64 0, .int .u32 (IntKind.wrap .u32 (x200 + 1))]) (c' := [.string str26, .bool true, .bool true, .bool true, .int .i64 0, .int .u32 (IntKind.wrap .u32 (x200 + 1))]) ow207 Z Z Z (.inl Z) Z (L 39 Z Z) (L 0 Z Z) ti70 (by simp [topV]) Z Z (nr Z) Z Z nd (fun V208 le209 ow210 => ?_)
                  refine U.p Z Z (.inl Z) (S.assign Z K) ?_
                  refine U.done (nr Z) ?_
                  refine WP.ret ?_
                  refine blkR (sqR ?_)
                  refine fin.mix (.inr Z) (resA (L 40 Z Z) Tryd.underlying70 Z ti70 (ow210.own (k := 0) Z).get Z (resT (L 0 Z Z) res0)) Z ⟨V208, Z, ((le3.trans le205).trans le209), ?_⟩
                  have ow211 := ow210.drop 0 Z
                  have e212 := Option.some.inj h202
                  subst e212
                  exact ⟨rfl, ow211⟩
                 ·have h213 := ifF c198 h197
                  refine WP.usreg Z ?_
                  refine U.p Z Z (.inl Z) (S.eqlI Z (L 34 Z Z) K) ?_
                  refine U.p Z Z (.inl Z) (S.assign Z (L 0 Z Z)) ?_
                  refine U.done (nr Z) ?_
                  refine WP.cond _ (L 0 Z Z) Z (fun c214 => ?_) (fun c214 => ?_)
                  ·have h215 := ifT c214 h213
                   refine WP.usreg Z ?_
                   refine U.p (v := .agg #[.string str27, .bool false, .bool false, .bool false, .int .i64 0, .int .u32 2080375980]) Z Z (.inl Z) (S.build (vs := [.string str27, .bool false, .bool false, .bool false, .int .i64 0, .int .u32 2080375980]) Z ti70 Z pl70 (aC K (aC K (aC K (aC K (aC K (aC K aN)))))) (allC (by simp [topV]) (allC (by simp [topV]) (allC (by simp [topV]) (allC (by simp [topV]) (allC (by simp [topV]) (allC (by simp [topV]) allN)))))) Z) ?_
                   refine O.store (k := 0) (cs := [.string str27, .bool false, .bool false, .bool false, .int .i64 0, .int .u32 2080375980]) (c' := [.string str27, .bool false, .bool false, .bool false, .int .i64 0, .int .u32 2080375980]) ow4 Z Z Z (.inl Z) Z (L 39 Z Z) (L 0 Z Z) ti70 (by simp [topV]) Z Z (nr Z) Z Z nd (fun V216 le217 ow218 => ?_)
                   refine U.p Z Z (.inl Z) (S.assign Z K) ?_
                   refine U.done (nr Z) ?_
                   refine WP.ret ?_
                   refine blkR (sqR ?_)
                   refine fin.mix (.inr Z) (resA (L 40 Z Z) Tryd.underlying70 Z ti70 (ow218.own (k := 0) Z).get Z (resT (L 0 Z Z) res0)) Z ⟨V216, Z, (le3.trans le217), ?_⟩
                   have ow219 := ow218.drop 0 Z
                   have e220 := Option.some.inj h215
                   subst e220
                   exact ⟨rfl, ow219⟩
                  ·have h221 := ifF c214 h213
                   refine WP.usreg Z ?_
                   refine U.p Z Z (.inl Z) (S.eqlI Z (L 36 Z Z) K) ?_
                   refine U.p Z Z (.inl Z) (S.assign Z (L 0 Z Z)) ?_
                   refine U.done (nr Z) ?_
                   refine WP.cond _ (L 0 Z Z) Z (fun c222 => ?_) (fun c222 => ?_)
                   ·have h223 := ifT c222 h221
                    refine WP.usreg Z ?_
                    refine U.p (v := .agg #[.string str28, .bool false, .bool false, .bool false, .int .i64 0, .int .u32 2082473132]) Z Z (.inl Z) (S.build (vs := [.string str28, .bool false, .bool false, .bool false, .int .i64 0, .int .u32 2082473132]) Z ti70 Z pl70 (aC K (aC K (aC K (aC K (aC K (aC K aN)))))) (allC (by simp [topV]) (allC (by simp [topV]) (allC (by simp [topV]) (allC (by simp [topV]) (allC (by simp [topV]) (allC (by simp [topV]) allN)))))) Z) ?_
                    refine O.store (k := 0) (cs := [.string str28, .bool false, .bool false, .bool false, .int .i64 0, .int .u32 2082473132]) (c' := [.string str28, .bool false, .bool false, .bool false, .int .i64 0, .int .u32 2082473132]) ow4 Z Z Z (.inl Z) Z (L 41 Z Z) (L 0 Z Z) ti70 (by simp [topV]) Z Z (nr Z) Z Z nd (fun V224 le225 ow226 => ?_)
                    refine U.p Z Z (.inl Z) (S.assign Z K) ?_
                    refine U.done (nr Z) ?_
                    refine WP.ret ?_
                    refine blkR (sqR ?_)
                    refine fin.mix (.inr Z) (resA (L 42 Z Z) Tryd.underlying70 Z ti70 (ow226.own (k := 0) Z).get Z (resT (L 0 Z Z) res0)) Z ⟨V224, Z, (le3.trans le225), ?_⟩
                    have ow227 := ow226.drop 0 Z
                    have e228 := Option.some.inj h223
                    subst e228
                    exact ⟨rfl, ow227⟩
                   ·have h229 := ifF c222 h221
                    refine WP.usreg Z ?_
                    refine U.p Z Z (.inl Z) (S.eqlI Z (L 38 Z Z) K) ?_
                    refine U.p Z Z (.inl Z) (S.assign Z (L 0 Z Z)) ?_
                    refine U.done (nr Z) ?_
                    refine WP.cond _ (L 0 Z Z) Z (fun c230 => ?_) (fun c230 => ?_)
                    ·have h231 := ifT c230 h229
                     refine WP.usreg Z ?_
                     refine U.p (v := .agg #[.string str29, .bool false, .bool false, .bool false, .int .i64 0, .int .u32 1275068716]) Z Z (.inl Z) (S.build (vs := [.string str29, .bool false, .bool false, .bool false, .int .i64 0, .int .u32 1275068716]) Z ti70 Z pl70 (aC K (aC K (aC K (aC K (aC K (aC K aN)))))) (allC (by simp [topV]) (allC (by simp [topV]) (allC (by simp [topV]) (allC (by simp [topV]) (allC (by simp [topV]) (allC (by simp [topV]) allN)))))) Z) ?_
                     refine O.store (k := 0) (cs := [.string str29, .bool false, .bool false, .bool false, .int .i64 0, .int .u32 1275068716]) (c' := [.string str29, .bool false, .bool false, .bool false, .int .i64 0, .int .u32 1275068716]) ow4 Z Z Z (.inl Z) Z (L 43 Z Z) (L 0 Z Z) ti70 (by simp [topV]) Z Z (nr Z) Z Z nd (fun V232 le233 ow234 => ?_)
                     refine U.p Z Z (.inl Z) (S.assign Z K) ?_
                     refine U.done (nr Z) ?_
                     refine WP.ret ?_
                     refine blkR (sqR ?_)
                     refine fin.mix (.inr Z) (resA (L 44 Z Z) Tryd.underlying70 Z ti70 (ow234.own (k := 0) Z).get Z (resT (L 0 Z Z) res0)) Z ⟨V232, Z, (le3.trans le233), ?_⟩
                     have ow235 := ow234.drop 0 Z
                     have e236 := Option.some.inj h231
                     subst e236
                     exact ⟨rfl, ow235⟩
                    ·have h237 := ifF c230 h229
                     refine WP.usreg Z ?_
                     refine U.p Z Z (.inl Z) (S.eqlI Z (L 40 Z Z) K) ?_
                     refine U.p Z Z (.inl Z) (S.assign Z (L 0 Z Z)) ?_
                     refine U.done (nr Z) ?_
                     refine WP.cond _ (L 0 Z Z) Z (fun c238 => ?_) (fun c238 => ?_)
                     ·have h239 := ifT c238 h237
                      refine WP.usreg Z ?_
                      refine U.p (v := .agg #[.string str30, .bool false, .bool false, .bool false, .int .i64 16, .int .u32 266338304]) Z Z (.inl Z) (S.build (vs := [.string str30, .bool false, .bool false, .bool false, .int .i64 16, .int .u32 266338304]) Z ti70 Z pl70 (aC K (aC K (aC K (aC K (aC K (aC K aN)))))) (allC (by simp [topV]) (allC (by simp [topV]) (allC (by simp [topV]) (allC (by simp [topV]) (allC (by simp [topV]) (allC (by simp [topV]) allN)))))) Z) ?_
                      refine O.store (k := 0) (cs := [.string str30, .bool false, .bool false, .bool false, .int .i64 16, .int .u32 266338304]) (c' := [.string str30, .bool false, .bool false, .bool false, .int .i64 16, .int .u32 266338304]) ow4 Z Z Z (.inl Z) Z (L 45 Z Z) (L 0 Z Z) ti70 (by simp [topV]) Z Z (nr Z) Z Z nd (fun V240 le241 ow242 => ?_)
                      refine U.p Z Z (.inl Z) (S.assign Z K) ?_
                      refine U.done (nr Z) ?_
                      refine WP.ret ?_
                      refine blkR (sqR ?_)
                      refine fin.mix (.inr Z) (resA (L 46 Z Z) Tryd.underlying70 Z ti70 (ow242.own (k := 0) Z).get Z (resT (L 0 Z Z) res0)) Z ⟨V240, Z, (le3.trans le241), ?_⟩
                      have ow243 := ow242.drop 0 Z
                      have e244 := Option.some.inj h239
                      subst e244
                      exact ⟨rfl, ow243⟩
                     ·have h245 := ifF c238 h237
                      refine WP.usreg Z ?_
                      refine U.p Z Z (.inl Z) (S.eqlI Z (L 42 Z Z) K) ?_
                      refine U.p Z Z (.inl Z) (S.assign Z (L 0 Z Z)) ?_
                      refine U.done (nr Z) ?_
                      refine WP.cond _ (L 0 Z Z) Z (fun c246 => ?_) (fun c246 => ?_)
                      ·have h247 := ifT c246 h245
                       refine WP.usreg Z ?_
                       refine U.p (v := .agg #[.string str32, .bool true, .bool false, .bool false, .int .i64 0, .int .u32 1140850690]) Z Z (.inl Z) (S.build (vs := [.string str32, .bool true, .bool false, .bool false, .int .i64 0, .int .u32 1140850690]) Z ti70 Z pl70 (aC K (aC K (aC K (aC K (aC K (aC K aN)))))) (allC (by simp [topV]) (allC (by simp [topV]) (allC (by simp [topV]) (allC (by simp [topV]) (allC (by simp [topV]) (allC (by simp [topV]) allN)))))) Z) ?_
                       refine O.store (k := 0) (cs := [.string str32, .bool true, .bool false, .bool false, .int .i64 0, .int .u32 1140850690]) (c' := [.string str32, .bool true, .bool false, .bool false, .int .i64 0, .int .u32 1140850690]) ow4 Z Z Z (.inl Z) Z (L 47 Z Z) (L 0 Z Z) ti70 (by simp [topV]) Z Z (nr Z) Z Z nd (fun V248 le249 ow250 => ?_)
                       refine U.p Z Z (.inl Z) (S.assign Z K) ?_
                       refine U.done (nr Z) ?_
                       refine WP.ret ?_
                       refine blkR (sqR ?_)
                       refine fin.mix (.inr Z) (resA (L 48 Z Z) Tryd.underlying70 Z ti70 (ow250.own (k := 0) Z).get Z (resT (L 0 Z Z) res0)) Z ⟨V248, Z, (le3.trans le249), ?_⟩
                       have ow251 := ow250.drop 0 Z
                       have e252 := Option.some.inj h247
                       subst e252
                       exact ⟨rfl, ow251⟩
                      ·have h253 := ifF c246 h245
                       refine WP.skip ?_
                       refine blkN (sqN ?_)
                       refine WP.usreg Z ?_
                       refine U.p (v := .agg #[.string ByteArray.empty, .bool false, .bool false, .bool false, .int .i64 0, .int .u32 0]) Z Z (.inl Z) (S.build (vs := []) Z ti70 Z pl70 aN allN Z) ?_
                       refine O.store (k := 0) (cs := [.string ByteArray.empty, .bool false, .bool false, .bool false, .int .i64 0, .int .u32 0]) (c' := [.string ByteArray.empty, .bool false, .bool false, .bool false, .int .i64 0, .int .u32 0]) ow4 Z Z Z (.inl Z) Z (L 47 Z Z) (L 0 Z Z) ti70 (by simp [topV]) Z Z (nr Z) Z Z nd (fun V254 le255 ow256 => ?_)
                       refine U.p Z Z (.inl Z) (S.assign Z K) ?_
                       refine U.done (nr Z) ?_
                       refine WP.ret ?_
                       refine fin.mix (.inr Z) (resA (L 48 Z Z) Tryd.underlying70 Z ti70 (ow256.own (k := 0) Z).get Z (resT (L 0 Z Z) res0)) Z ⟨V254, Z, (le3.trans le255), ?_⟩
                       have ow257 := ow256.drop 0 Z
                       have e258 := Option.some.inj h253
                       subst e258
                       exact ⟨rfl, ow257⟩
theorem wk_ref01_Good (V : Vw) (Rs : List At) (gl : Glb V) (p0 : Int) (p1 : Int) (ow : Ow V (Rs)) (r : Bool) (h : ref01_Good p0 p1 = some r) : ∃ v V', Cl Tryd.prog NG 46 #[.int .i64 p0, .int .i64 p1] V.H v V'.H ∧ V.le V' ∧ (v = .bool r ∧ Ow V' (Rs)) := by
 refine Ct.of gl.lo Tryd.func46 Z (nr Z) ?_
 unfold ref01_Good at h
 refine WP.usreg Z ?_
 refine U.p Z Z (.inl Z) (S.assign Z K) ?_
 refine U.done (nr Z) ?_
 refine WP.usreg Z ?_
 refine U.p Z Z (.inl Z) (S.move Z (L 1 Z Z)) ?_
 refine U.p Z Z (.inl Z) (S.geq Z (L 0 Z Z) K) ?_
 refine U.p Z Z (.inl Z) (S.move Z (L 0 Z Z)) ?_
 refine U.joinX 6 (fun e H => ∃ (u1 u2 : Value), H = V.H ∧ e = [(10, .bool ((decide (0 ≤ p0)) && (decide (0 ≤ p1)))), (9, u1), (8, u2)]) ?_ ?_
 ·rintro _ _ ⟨u1, u2, rfl, rfl⟩
  refine U.p Z Z (.inl Z) (S.move Z (L 0 Z Z)) ?_
  refine U.joinX 10 (fun e H => ∃ (u6 u7 : Value), H = V.H ∧ e = [(14, .bool (((decide (0 ≤ p0)) && (decide (0 ≤ p1))) && (decide (p0 ≤ 32)))), (13, u6), (12, u7)]) ?_ ?_
  ·rintro _ _ ⟨u6, u7, rfl, rfl⟩
   refine U.p Z Z (.inl Z) (S.move Z (L 0 Z Z)) ?_
   refine U.joinX 14 (fun e H => ∃ (u11 u12 : Value), H = V.H ∧ e = [(18, .bool ((((decide (0 ≤ p0)) && (decide (0 ≤ p1))) && (decide (p0 ≤ 32))) && (decide (p1 ≤ 32)))), (17, u11), (16, u12)]) ?_ ?_
   ·rintro _ _ ⟨u11, u12, rfl, rfl⟩
    refine U.p Z Z (.inl Z) (S.move Z (L 0 Z Z)) ?_
    refine U.joinX 20 (fun e H => ∃ (u16 u17 u18 u19 : Value), H = V.H ∧ e = [(24, .bool (((((decide (0 ≤ p0)) && (decide (0 ≤ p1))) && (decide (p0 ≤ 32))) && (decide (p1 ≤ 32))) && (decide ((w64 (p0 + p1)) ≤ 32)))), (23, u16), (22, u17), (21, u18), (20, u19)]) ?_ ?_
    ·rintro _ _ ⟨u16, u17, u18, u19, rfl, rfl⟩
     refine U.p Z Z (.inl Z) (S.assign Z (L 0 Z Z)) ?_
     refine U.done (nr Z) ?_
     refine WP.ret ?_
     refine fin.slot (.inr Z) Z (L 0 Z Z) ⟨V, Z, (.refl _), ?_⟩
     have e23 := Option.some.inj h
     subst e23
     exact ⟨rfl, ow⟩
    ·intro kk
     refine bcase (b := (((decide (0 ≤ p0)) && (decide (0 ≤ p1))) && (decide (p0 ≤ 32))) && (decide (p1 ≤ 32))) (fun g24 => ?_) (fun g24 => ?_)
     ·skip
      refine U.p Z Z (.inr ⟨_, _, _, Z, Z, ((L 0 Z Z).trans (cB g24))⟩) (S.move Z (L 16 Z Z)) ?_
      refine U.p Z Z (.inr ⟨_, _, _, Z, Z, ((L 1 Z Z).trans (cB g24))⟩) (S.move Z (L 18 Z Z)) ?_
      refine U.p Z Z (.inr ⟨_, _, _, Z, Z, ((L 2 Z Z).trans (cB g24))⟩) (S.add Z (L 1 Z Z) (L 0 Z Z)) ?_
      refine U.p Z Z (.inr ⟨_, _, _, Z, Z, ((L 3 Z Z).trans (cB g24))⟩) (S.leq Z (L 0 Z Z) K) ?_
      refine U.p Z Z (.inl Z) (S.pickT Z ((L 4 Z Z).trans (cB g24)) (L 0 Z Z)) ?_
      exact kk [(24, .bool (decide ((w64 (p0 + p1)) ≤ 32))), (23, .bool (decide ((w64 (p0 + p1)) ≤ 32))), (22, .int .i64 (w64 (p0 + p1))), (21, .int .i64 p1), (20, .int .i64 p0)] _ ⟨.bool (decide ((w64 (p0 + p1)) ≤ 32)), .int .i64 (w64 (p0 + p1)), .int .i64 p1, .int .i64 p0, Z, (by rw [g24, Bool.true_and])⟩
     ·skip
      refine U.x Z Z Z Z ((L 0 Z Z).trans (cB g24)) (by decide) ?_
      refine U.x Z Z Z Z ((L 1 Z Z).trans (cB g24)) (by decide) ?_
      refine U.x Z Z Z Z ((L 2 Z Z).trans (cB g24)) (by decide) ?_
      refine U.x Z Z Z Z ((L 3 Z Z).trans (cB g24)) (by decide) ?_
      refine U.p Z Z (.inl Z) (S.pickF Z ((L 4 Z Z).trans (cB g24)) K) ?_
      exact kk [(24, .bool false), (23, .tuple #[]), (22, .tuple #[]), (21, .tuple #[]), (20, .tuple #[])] _ ⟨.tuple #[], .tuple #[], .tuple #[], .tuple #[], Z, (by rw [g24, Bool.false_and])⟩
   ·intro kk
    refine bcase (b := ((decide (0 ≤ p0)) && (decide (0 ≤ p1))) && (decide (p0 ≤ 32))) (fun g25 => ?_) (fun g25 => ?_)
    ·skip
     refine U.p Z Z (.inr ⟨_, _, _, Z, Z, ((L 0 Z Z).trans (cB g25))⟩) (S.move Z (L 13 Z Z)) ?_
     refine U.p Z Z (.inr ⟨_, _, _, Z, Z, ((L 1 Z Z).trans (cB g25))⟩) (S.leq Z (L 0 Z Z) K) ?_
     refine U.p Z Z (.inl Z) (S.pickT Z ((L 2 Z Z).trans (cB g25)) (L 0 Z Z)) ?_
     exact kk [(18, .bool (decide (p1 ≤ 32))), (17, .bool (decide (p1 ≤ 32))), (16, .int .i64 p1)] _ ⟨.bool (decide (p1 ≤ 32)), .int .i64 p1, Z, (by rw [g25, Bool.true_and])⟩
    ·skip
     refine U.x Z Z Z Z ((L 0 Z Z).trans (cB g25)) (by decide) ?_
     refine U.x Z Z Z Z ((L 1 Z Z).trans (cB g25)) (by decide) ?_
     refine U.p Z Z (.inl Z) (S.pickF Z ((L 2 Z Z).trans (cB g25)) K) ?_
     exact kk [(18, .bool false), (17, .tuple #[]), (16, .tuple #[])] _ ⟨.tuple #[], .tuple #[], Z, (by rw [g25, Bool.false_and])⟩
  ·intro kk
   refine bcase (b := (decide (0 ≤ p0)) && (decide (0 ≤ p1))) (fun g26 => ?_) (fun g26 => ?_)
   ·skip
    refine U.p Z Z (.inr ⟨_, _, _, Z, Z, ((L 0 Z Z).trans (cB g26))⟩) (S.move Z (L 8 Z Z)) ?_
    refine U.p Z Z (.inr ⟨_, _, _, Z, Z, ((L 1 Z Z).trans (cB g26))⟩) (S.leq Z (L 0 Z Z) K) ?_
    refine U.p Z Z (.inl Z) (S.pickT Z ((L 2 Z Z).trans (cB g26)) (L 0 Z Z)) ?_
    exact kk [(14, .bool (decide (p0 ≤ 32))), (13, .bool (decide (p0 ≤ 32))), (12, .int .i64 p0)] _ ⟨.bool (decide (p0 ≤ 32)), .int .i64 p0, Z, (by rw [g26, Bool.true_and])⟩
   ·skip
    refine U.x Z Z Z Z ((L 0 Z Z).trans (cB g26)) (by decide) ?_
    refine U.x Z Z Z Z ((L 1 Z Z).trans (cB g26)) (by decide) ?_
    refine U.p Z Z (.inl Z) (S.pickF Z ((L 2 Z Z).trans (cB g26)) K) ?_
    exact kk [(14, .bool false), (13, .tuple #[]), (12, .tuple #[])] _ ⟨.tuple #[], .tuple #[], Z, (by rw [g26, Bool.false_and])⟩
 ·intro kk
  refine bcase (b := decide (0 ≤ p0)) (fun g27 => ?_) (fun g27 => ?_)
  ·skip
   refine U.p Z Z (.inr ⟨_, _, _, Z, Z, ((L 0 Z Z).trans (cB g27))⟩) (S.move Z (L 5 Z Z)) ?_
   refine U.p Z Z (.inr ⟨_, _, _, Z, Z, ((L 1 Z Z).trans (cB g27))⟩) (S.geq Z (L 0 Z Z) K) ?_
   refine U.p Z Z (.inl Z) (S.pickT Z ((L 2 Z Z).trans (cB g27)) (L 0 Z Z)) ?_
   exact kk [(10, .bool (decide (0 ≤ p1))), (9, .bool (decide (0 ≤ p1))), (8, .int .i64 p1)] _ ⟨.bool (decide (0 ≤ p1)), .int .i64 p1, Z, (by rw [g27, Bool.true_and])⟩
  ·skip
   refine U.x Z Z Z Z ((L 0 Z Z).trans (cB g27)) (by decide) ?_
   refine U.x Z Z Z Z ((L 1 Z Z).trans (cB g27)) (by decide) ?_
   refine U.p Z Z (.inl Z) (S.pickF Z ((L 2 Z Z).trans (cB g27)) K) ?_
   exact kk [(10, .bool false), (9, .tuple #[]), (8, .tuple #[])] _ ⟨.tuple #[], .tuple #[], Z, (by rw [g27, Bool.false_and])⟩
theorem wk_ref01_Bit (V : Vw) (Rs : List At) (gl : Glb V) (p0 : Int) (p1 : Int) (ow : Ow V (Rs)) (r : Bool) (h : ref01_Bit p0 p1 = some r) : ∃ v V', Cl Tryd.prog NG 47 #[.int .u32 p0, .int .i64 p1] V.H v V'.H ∧ V.le V' ∧ (v = .bool r ∧ Ow V' (Rs)) := by
 refine Ct.of gl.lo Tryd.func47 Z (nr Z) ?_
 unfold ref01_Bit at h
 refine WP.usreg Z ?_
 refine U.p Z Z (.inl Z) (S.assign Z K) ?_
 refine U.done (nr Z) ?_
 refine WP.seq ?_
 refine WP.usreg Z ?_
 refine U.p Z Z (.inl Z) (S.assign Z K) ?_
 refine U.done (nr Z) ?_
 refine WP.blk ?_
 unfold ref01_Bit_l1 at h
 obtain ⟨n4, hn3⟩ := loopO_some.1 h
 refine WP.loopI2 (fun n l V' => ∃ (x1 : Int) (x2 : Int), l = [(0, .int .u32 x1), (1, .int .i64 p1), (5, .int .i64 x2)] ∧ V.le V' ∧ Ow V' (Rs) ∧ itO (fun s => ref01_Bit_l1b p1 s.1 s.2) n (x1, x2) = some r) n4 _ ⟨p0, 31, Z, .refl _, ow, hn3⟩ (allCons (L 2 Z Z) (allCons (L 3 Z Z) (allCons (L 0 Z Z) allNil))) ?_
 rintro _ _ V5 ⟨x1, x2, rfl, le6, ow7, h11⟩
 obtain ⟨m8, q9, rfl, h12, e10⟩ := itS h11
 replace h12 : ref01_Bit_l1b p1 x1 x2 = some q9 := h12
 unfold ref01_Bit_l1b at h12
 refine WP.seq ?_
 refine WP.usreg Z ?_
 refine U.p Z Z (.inl Z) (S.move Z (L 2 Z Z)) ?_
 refine U.p Z Z (.inl Z) (S.move Z (L 2 Z Z)) ?_
 refine U.p Z Z (.inl Z) (S.gtr Z (L 1 Z Z) (L 0 Z Z)) ?_
 refine U.done (nr Z) ?_
 refine WP.cond _ (L 0 Z Z) Z (fun c13 => ?_) (fun c13 => ?_)
 ·have h14 := ifT c13 h12
  refine WP.skip ?_
  refine sqN ?_
  refine WP.seq ?_
  refine WP.blk ?_
  refine WP.ureg Z ?_
  refine U.p Z Z (.inl Z) (S.move Z (L 3 Z Z)) ?_
  obtain ⟨x15, hx16, h17⟩ := bindS h14
  refine U.p Z Z (.inl Z) (S.quo hx16 Z (L 0 Z Z) K) ?_
  refine U.p Z Z (.inl Z) (S.assign Z (L 0 Z Z)) ?_
  refine U.done (nr Z) ?_
  refine blkN (sqN ?_)
  refine WP.ureg Z ?_
  refine U.p Z Z (.inl Z) (S.move Z (L 8 Z Z)) ?_
  refine U.p Z Z (.inl Z) (S.sub Z (L 0 Z Z) K) ?_
  refine U.p Z Z (.inl Z) (S.assign Z (L 0 Z Z)) ?_
  refine U.done (nr Z) ?_
  refine sqN ?_
  exact ⟨_, V5, Z, ⟨m8, Nat.lt_succ_self _, x15, w64 (x2 - 1), Z, le6, ow7, backS h17 e10⟩, (allCons (L 3 Z Z) (allCons (L 10 Z Z) (allCons (L 0 Z Z) allNil)))⟩
 ·have h18 := ifF c13 h12
  refine WP.exit ?_
  refine sqE (sqE (blkE (sqN ?_)))
  have h19 := exitS h18 e10
  refine WP.usreg Z ?_
  refine U.p Z Z (.inl Z) (S.move Z (L 3 Z Z)) ?_
  obtain ⟨x20, hx21, h22⟩ := bindS h19
  refine U.p Z Z (.inl Z) (S.rem hx21 Z (L 0 Z Z) K) ?_
  refine U.p Z Z (.inl Z) (S.eqlI Z (L 0 Z Z) K) ?_
  refine U.p Z Z (.inl Z) (S.assign Z (L 0 Z Z)) ?_
  refine U.done (nr Z) ?_
  refine WP.ret ?_
  refine fin.slot (.inr Z) Z (L 0 Z Z) ⟨V5, Z, le6, ?_⟩
  have e23 := Option.some.inj h22
  subst e23
  exact ⟨rfl, ow7⟩
theorem wk_ref01_Get (V : Vw) (Rs : List At) (gl : Glb V) (p0 : Int) (p1 : Int) (p2 : Int) (ow : Ow V (Rs)) (r : Int) (h : ref01_Get p0 p1 p2 = some r) : ∃ v V', Cl Tryd.prog NG 33 #[.int .u32 p0, .int .i64 p1, .int .i64 p2] V.H v V'.H ∧ V.le V' ∧ (v = .int .u32 r ∧ Ow V' (Rs)) := by
 refine Ct.of gl.lo Tryd.func33 Z (nr Z) ?_
 unfold ref01_Get at h
 refine WP.usreg Z ?_
 refine U.p Z Z (.inl Z) (S.assign Z K) ?_
 refine U.done (nr Z) ?_
 refine WP.seq ?_
 refine WP.usreg Z ?_
 refine U.p Z Z (.inl Z) (S.move Z (L 2 Z Z)) ?_
 refine U.p Z Z (.inl Z) (S.move Z (L 4 Z Z)) ?_
 obtain ⟨x1, hx2, h3⟩ := bindS h
 refine O.call (V := V) Z Z (.inl Z) Z en46 (aC (L 1 Z Z) (aC (L 0 Z Z) aN)) (wk_ref01_Good V _ gl p1 p2 ow _ hx2) (fun _ _ _ _ => nd) (fun v4 V5 le6 hp7 => ?_)
 obtain ⟨rfl, ow8⟩ := hp7
 refine U.p Z Z (.inl Z) (S.not Z (L 0 Z Z)) ?_
 refine U.done (nr Z) ?_
 refine WP.cond _ (L 0 Z Z) Z (fun c9 => ?_) (fun c9 => ?_)
 ·have h10 := ifT c9 h3
  have k11 : x1 = false := nT c9
  refine WP.usreg Z ?_
  refine U.p Z Z (.inl Z) (S.assign Z K) ?_
  refine U.done (nr Z) ?_
  refine WP.ret ?_
  refine sqR ?_
  refine fin.slot (.inr Z) Z (L 0 Z Z) ⟨V5, Z, le6, ?_⟩
  have e12 := Option.some.inj h10
  subst e12
  exact ⟨rfl, ow8⟩
 ·have h13 := ifF c9 h3
  have k14 : x1 = true := nF c9
  refine WP.skip ?_
  refine sqN ?_
  refine WP.usreg Z ?_
  refine U.p Z Z (.inl Z) (S.assign Z K) ?_
  refine U.done (nr Z) ?_
  refine WP.seq ?_
  refine WP.usreg Z ?_
  refine U.p Z Z (.inl Z) (S.move Z (L 7 Z Z)) ?_
  refine U.p Z Z (.inl Z) (S.assign Z (L 0 Z Z)) ?_
  refine U.done (nr Z) ?_
  refine WP.blk ?_
  unfold ref01_Get_l1 at h13
  obtain ⟨n18, hn17⟩ := loopO_some.1 h13
  refine WP.loopI2 (fun n l V' => ∃ (x15 : Int) (x16 : Int), l = [(0, .int .u32 p0), (1, .int .i64 p1), (2, .int .i64 p2), (7, .int .u32 x15), (8, .int .i64 x16)] ∧ V5.le V' ∧ Ow V' (Rs) ∧ itO (fun s => ref01_Get_l1b p0 p1 p2 s.1 s.2) n (x15, x16) = some r) n18 _ ⟨0, p1, Z, .refl _, ow8, hn17⟩ (allCons (L 8 Z Z) (allCons (L 9 Z Z) (allCons (L 10 Z Z) (allCons (L 2 Z Z) (allCons (L 0 Z Z) allNil))))) ?_
  rintro _ _ V19 ⟨x15, x16, rfl, le20, ow21, h25⟩
  obtain ⟨m22, q23, rfl, h26, e24⟩ := itS h25
  replace h26 : ref01_Get_l1b p0 p1 p2 x15 x16 = some q23 := h26
  unfold ref01_Get_l1b at h26
  refine WP.seq ?_
  refine WP.usreg Z ?_
  refine U.p Z Z (.inl Z) (S.move Z (L 4 Z Z)) ?_
  refine U.p Z Z (.inl Z) (S.move Z (L 2 Z Z)) ?_
  refine U.p Z Z (.inl Z) (S.move Z (L 4 Z Z)) ?_
  refine U.p Z Z (.inl Z) (S.add Z (L 1 Z Z) (L 0 Z Z)) ?_
  refine U.p Z Z (.inl Z) (S.lss Z (L 3 Z Z) (L 0 Z Z)) ?_
  refine U.done (nr Z) ?_
  refine WP.cond _ (L 0 Z Z) Z (fun c27 => ?_) (fun c27 => ?_)
  ·have h28 := ifT c27 h26
   refine WP.skip ?_
   refine sqN ?_
   refine WP.seqI (fun l V' => ∃ (x29 : Int), l = [(0, .int .u32 p0), (1, .int .i64 p1), (2, .int .i64 p2), (7, .int .u32 x29), (8, .int .i64 x16)] ∧ V19.le V' ∧ Ow V' (Rs) ∧ ref01_Get_k1 x16 x29 = some q23) ?_ ?_
   ·rintro _ V30 ⟨x29, rfl, le31, ow32, h33⟩
    unfold ref01_Get_k1 at h33
    refine WP.ureg Z ?_
    refine U.p Z Z (.inl Z) (S.move Z (L 4 Z Z)) ?_
    refine U.p Z Z (.inl Z) (S.add Z (L 0 Z Z) K) ?_
    refine U.p Z Z (.inl Z) (S.assign Z (L 0 Z Z)) ?_
    refine U.done (nr Z) ?_
    refine sqN ?_
    exact ⟨_, V30, Z, ⟨m22, Nat.lt_succ_self _, x29, w64 (x16 + 1), Z, (le20.trans le31), ow32, backS h33 e24⟩, (allCons (L 3 Z Z) (allCons (L 4 Z Z) (allCons (L 5 Z Z) (allCons (L 6 Z Z) (allCons (L 0 Z Z) allNil)))))⟩
   ·skip
    refine WP.blk ?_
    refine WP.usreg Z ?_
    refine U.p Z Z (.inl Z) (S.move Z (L 8 Z Z)) ?_
    refine U.p Z Z (.inl Z) (S.mul Z K (L 0 Z Z)) ?_
    refine U.p Z Z (.inl Z) (S.assign Z (L 0 Z Z)) ?_
    refine U.done (nr Z) ?_
    refine WP.usreg Z ?_
    refine U.p Z Z (.inl Z) (S.move Z (L 8 Z Z)) ?_
    refine U.p Z Z (.inl Z) (S.move Z (L 13 Z Z)) ?_
    obtain ⟨x34, hx35, h36⟩ := bindS h28
    refine O.call (V := V19) Z Z (.inl Z) Z en47 (aC (L 1 Z Z) (aC (L 0 Z Z) aN)) (wk_ref01_Bit V19 _ (gl.up (le6.trans le20)) p0 x16 ow21 _ hx35) (fun _ _ _ _ => nd) (fun v37 V38 le39 hp40 => ?_)
    obtain ⟨rfl, ow41⟩ := hp40
    refine U.done (nr Z) ?_
    refine WP.cond _ (L 0 Z Z) Z (fun c42 => ?_) (fun c42 => ?_)
    ·have h43 := ifT c42 h36
     refine WP.ureg Z ?_
     refine U.p Z Z (.inl Z) (S.move Z (L 3 Z Z)) ?_
     refine U.p Z Z (.inl Z) (S.add Z (L 0 Z Z) K) ?_
     refine U.p Z Z (.inl Z) (S.assign Z (L 0 Z Z)) ?_
     refine U.done (nr Z) ?_
     refine blkN (sqN ?_)
     exact ⟨_, V38, Z, ⟨IntKind.wrap .u32 ((IntKind.wrap .u32 (2 * x15)) + 1), Z, le39, ow41, h43⟩, (allCons (L 14 Z Z) (allCons (L 15 Z Z) (allCons (L 16 Z Z) (allCons (L 0 Z Z) (allCons (L 18 Z Z) allNil)))))⟩
    ·have h44 := ifF c42 h36
     refine WP.skip ?_
     refine blkN (sqN ?_)
     exact ⟨_, V38, Z, ⟨IntKind.wrap .u32 (2 * x15), Z, le39, ow41, h44⟩, (allCons (L 11 Z Z) (allCons (L 12 Z Z) (allCons (L 13 Z Z) (allCons (L 3 Z Z) (allCons (L 15 Z Z) allNil)))))⟩
  ·have h45 := ifF c27 h26
   refine WP.exit ?_
   refine sqE (sqE (blkE (sqN ?_)))
   have h46 := exitS h45 e24
   refine WP.usreg Z ?_
   refine U.p Z Z (.inl Z) (S.move Z (L 8 Z Z)) ?_
   refine U.p Z Z (.inl Z) (S.assign Z (L 0 Z Z)) ?_
   refine U.done (nr Z) ?_
   refine WP.ret ?_
   refine fin.slot (.inr Z) Z (L 0 Z Z) ⟨V19, Z, (le6.trans le20), ?_⟩
   have e47 := Option.some.inj h46
   subst e47
   exact ⟨rfl, ow21⟩
theorem wk_ref01_Signed (V : Vw) (Rs : List At) (gl : Glb V) (p0 : Int) (p1 : Int) (ow : Ow V (Rs)) (r : Int) (h : ref01_Signed p0 p1 = some r) : ∃ v V', Cl Tryd.prog NG 34 #[.int .u32 p0, .int .i64 p1] V.H v V'.H ∧ V.le V' ∧ (v = .int .i64 r ∧ Ow V' (Rs)) := by
 refine Ct.of gl.lo Tryd.func34 Z (nr Z) ?_
 unfold ref01_Signed at h
 refine WP.usreg Z ?_
 refine U.p Z Z (.inl Z) (S.assign Z K) ?_
 refine U.done (nr Z) ?_
 refine WP.seq ?_
 refine WP.usreg Z ?_
 refine U.p Z Z (.inl Z) (S.move Z (L 2 Z Z)) ?_
 refine U.p Z Z (.inl Z) (S.lss Z (L 0 Z Z) K) ?_
 refine U.p Z Z (.inl Z) (S.move Z (L 0 Z Z)) ?_
 refine U.joinX 6 (fun e H => ∃ (u1 u2 : Value), H = V.H ∧ e = [(12, .bool ((decide (p1 < 1)) || (decide (32 < p1)))), (11, u1), (10, u2)]) ?_ ?_
 ·rintro _ _ ⟨u1, u2, rfl, rfl⟩
  refine U.done (nr Z) ?_
  refine WP.cond _ (L 0 Z Z) Z (fun c6 => ?_) (fun c6 => ?_)
  ·have h7 := ifT c6 h
   refine WP.usreg Z ?_
   refine U.p Z Z (.inl Z) (S.assign Z K) ?_
   refine U.done (nr Z) ?_
   refine WP.ret ?_
   refine sqR ?_
   refine fin.slot (.inr Z) Z (L 0 Z Z) ⟨V, Z, (.refl _), ?_⟩
   have e8 := Option.some.inj h7
   subst e8
   exact ⟨rfl, ow⟩
  ·have h9 := ifF c6 h
   refine WP.skip ?_
   refine sqN ?_
   refine WP.usreg Z ?_
   refine U.p Z Z (.inl Z) (S.assign Z K) ?_
   refine U.done (nr Z) ?_
   refine WP.seq ?_
   refine WP.usreg Z ?_
   refine U.p Z Z (.inl Z) (S.move Z (L 9 Z Z)) ?_
   refine U.p Z Z (.inl Z) (S.sub Z K (L 0 Z Z)) ?_
   refine U.p Z Z (.inl Z) (S.assign Z (L 0 Z Z)) ?_
   refine U.done (nr Z) ?_
   refine WP.blk ?_
   unfold ref01_Signed_l1 at h9
   obtain ⟨n13, hn12⟩ := loopO_some.1 h9
   refine WP.loopI2 (fun n l V' => ∃ (x10 : Int) (x11 : Int), l = [(0, .int .u32 p0), (1, .int .i64 p1), (5, .int .i64 x10), (6, .int .i64 x11)] ∧ V.le V' ∧ Ow V' (Rs) ∧ itO (fun s => ref01_Signed_l1b p0 p1 s.1 s.2) n (x10, x11) = some r) n13 _ ⟨0, w64 (32 - p1), Z, .refl _, ow, hn12⟩ (allCons (L 11 Z Z) (allCons (L 12 Z Z) (allCons (L 3 Z Z) (allCons (L 0 Z Z) allNil)))) ?_
   rintro _ _ V14 ⟨x10, x11, rfl, le15, ow16, h20⟩
   obtain ⟨m17, q18, rfl, h21, e19⟩ := itS h20
   replace h21 : ref01_Signed_l1b p0 p1 x10 x11 = some q18 := h21
   unfold ref01_Signed_l1b at h21
   refine WP.seq ?_
   refine WP.usreg Z ?_
   refine U.p Z Z (.inl Z) (S.move Z (L 3 Z Z)) ?_
   refine U.p Z Z (.inl Z) (S.lss Z (L 0 Z Z) K) ?_
   refine U.done (nr Z) ?_
   refine WP.cond _ (L 0 Z Z) Z (fun c22 => ?_) (fun c22 => ?_)
   ·have h23 := ifT c22 h21
    refine WP.skip ?_
    refine sqN ?_
    refine WP.seqI (fun l V' => ∃ (x24 : Int), l = [(0, .int .u32 p0), (1, .int .i64 p1), (5, .int .i64 x24), (6, .int .i64 x11)] ∧ V14.le V' ∧ Ow V' (Rs) ∧ ref01_Signed_k1 x11 x24 = some q18) ?_ ?_
    ·rintro _ V25 ⟨x24, rfl, le26, ow27, h28⟩
     unfold ref01_Signed_k1 at h28
     refine WP.ureg Z ?_
     refine U.p Z Z (.inl Z) (S.move Z (L 3 Z Z)) ?_
     refine U.p Z Z (.inl Z) (S.add Z (L 0 Z Z) K) ?_
     refine U.p Z Z (.inl Z) (S.assign Z (L 0 Z Z)) ?_
     refine U.done (nr Z) ?_
     refine sqN ?_
     exact ⟨_, V25, Z, ⟨m17, Nat.lt_succ_self _, x24, w64 (x11 + 1), Z, (le15.trans le26), ow27, backS h28 e19⟩, (allCons (L 3 Z Z) (allCons (L 4 Z Z) (allCons (L 5 Z Z) (allCons (L 0 Z Z) allNil))))⟩
    ·skip
     refine WP.blk ?_
     refine WP.usreg Z ?_
     refine U.p Z Z (.inl Z) (S.move Z (L 4 Z Z)) ?_
     refine U.p Z Z (.inl Z) (S.mul Z K (L 0 Z Z)) ?_
     refine U.p Z Z (.inl Z) (S.assign Z (L 0 Z Z)) ?_
     refine U.done (nr Z) ?_
     refine WP.usreg Z ?_
     refine U.p Z Z (.inl Z) (S.move Z (L 5 Z Z)) ?_
     refine U.p Z Z (.inl Z) (S.move Z (L 9 Z Z)) ?_
     obtain ⟨x29, hx30, h31⟩ := bindS h23
     refine O.call (V := V14) Z Z (.inl Z) Z en47 (aC (L 1 Z Z) (aC (L 0 Z Z) aN)) (wk_ref01_Bit V14 _ (gl.up le15) p0 x11 ow16 _ hx30) (fun _ _ _ _ => nd) (fun v32 V33 le34 hp35 => ?_)
     obtain ⟨rfl, ow36⟩ := hp35
     refine U.done (nr Z) ?_
     refine WP.cond _ (L 0 Z Z) Z (fun c37 => ?_) (fun c37 => ?_)
     ·have h38 := ifT c37 h31
      refine WP.usreg Z ?_
      refine U.p Z Z (.inl Z) (S.move Z (L 11 Z Z)) ?_
      refine U.p Z Z (.inl Z) (S.move Z (L 10 Z Z)) ?_
      refine U.p Z Z (.inl Z) (S.sub Z K (L 0 Z Z)) ?_
      refine U.p Z Z (.inl Z) (S.eqlI Z (L 2 Z Z) (L 0 Z Z)) ?_
      refine U.done (nr Z) ?_
      refine WP.cond _ (L 0 Z Z) Z (fun c39 => ?_) (fun c39 => ?_)
      ·have h40 := ifT c39 h38
       refine WP.ureg Z ?_
       refine U.p Z Z (.inl Z) (S.move Z (L 7 Z Z)) ?_
       refine U.p Z Z (.inl Z) (S.sub Z (L 0 Z Z) K) ?_
       refine U.p Z Z (.inl Z) (S.assign Z (L 0 Z Z)) ?_
       refine U.done (nr Z) ?_
       refine blkN (sqN ?_)
       exact ⟨_, V33, Z, ⟨w64 ((w64 (2 * x10)) - 1), Z, le34, ow36, h40⟩, (allCons (L 15 Z Z) (allCons (L 16 Z Z) (allCons (L 0 Z Z) (allCons (L 18 Z Z) allNil))))⟩
      ·have h41 := ifF c39 h38
       refine WP.ureg Z ?_
       refine U.p Z Z (.inl Z) (S.move Z (L 7 Z Z)) ?_
       refine U.p Z Z (.inl Z) (S.add Z (L 0 Z Z) K) ?_
       refine U.p Z Z (.inl Z) (S.assign Z (L 0 Z Z)) ?_
       refine U.done (nr Z) ?_
       refine blkN (sqN ?_)
       exact ⟨_, V33, Z, ⟨w64 ((w64 (2 * x10)) + 1), Z, le34, ow36, h41⟩, (allCons (L 15 Z Z) (allCons (L 16 Z Z) (allCons (L 0 Z Z) (allCons (L 18 Z Z) allNil))))⟩
     ·have h42 := ifF c37 h31
      refine WP.skip ?_
      refine blkN (sqN ?_)
      exact ⟨_, V33, Z, ⟨w64 (2 * x10), Z, le34, ow36, h42⟩, (allCons (L 8 Z Z) (allCons (L 9 Z Z) (allCons (L 3 Z Z) (allCons (L 11 Z Z) allNil))))⟩
   ·have h43 := ifF c22 h21
    refine WP.exit ?_
    refine sqE (sqE (blkE (sqN ?_)))
    have h44 := exitS h43 e19
    refine WP.usreg Z ?_
    refine U.p Z Z (.inl Z) (S.move Z (L 4 Z Z)) ?_
    refine U.p Z Z (.inl Z) (S.assign Z (L 0 Z Z)) ?_
    refine U.done (nr Z) ?_
    refine WP.ret ?_
    refine fin.slot (.inr Z) Z (L 0 Z Z) ⟨V14, Z, le15, ?_⟩
    have e45 := Option.some.inj h44
    subst e45
    exact ⟨rfl, ow16⟩
 ·intro kk
  refine bcase (b := decide (p1 < 1)) (fun g46 => ?_) (fun g46 => ?_)
  ·skip
   refine U.x Z Z Z Z ((L 0 Z Z).trans (cB g46)) (by decide) ?_
   refine U.x Z Z Z Z ((L 1 Z Z).trans (cB g46)) (by decide) ?_
   refine U.p Z Z (.inl Z) (S.pickT Z ((L 2 Z Z).trans (cB g46)) K) ?_
   exact kk [(12, .bool true), (11, .tuple #[]), (10, .tuple #[])] _ ⟨.tuple #[], .tuple #[], Z, (by rw [g46, Bool.true_or])⟩
  ·skip
   refine U.p Z Z (.inr ⟨_, _, _, Z, Z, ((L 0 Z Z).trans (cB g46))⟩) (S.move Z (L 5 Z Z)) ?_
   refine U.p Z Z (.inr ⟨_, _, _, Z, Z, ((L 1 Z Z).trans (cB g46))⟩) (S.gtr Z (L 0 Z Z) K) ?_
   refine U.p Z Z (.inl Z) (S.pickF Z ((L 2 Z Z).trans (cB g46)) (L 0 Z Z)) ?_
   exact kk [(12, .bool (decide (32 < p1))), (11, .bool (decide (32 < p1))), (10, .int .i64 p1)] _ ⟨.bool (decide (32 < p1)), .int .i64 p1, Z, (by rw [g46, Bool.false_or])⟩
theorem wk_ref02_number (V : Vw) (Rs : List At) (gl : Glb V) (p0 : Bool) (p1 : Int) (ow : Ow V (Rs)) (r : Bool) (h : ref02_number p0 p1 = some r) : ∃ v V', Cl Tryd.prog NG 48 #[.bool p0, .int .i64 p1] V.H v V'.H ∧ V.le V' ∧ (v = .bool r ∧ Ow V' (Rs)) := by
 refine Ct.of gl.lo Tryd.func48 Z (nr Z) ?_
 unfold ref02_number at h
 refine WP.usreg Z ?_
 refine U.p Z Z (.inl Z) (S.assign Z K) ?_
 refine U.done (nr Z) ?_
 refine WP.usreg Z ?_
 refine U.p Z Z (.inl Z) (S.move Z (L 1 Z Z)) ?_
 refine U.p Z Z (.inl Z) (S.move Z (L 0 Z Z)) ?_
 refine U.joinX 5 (fun e H => ∃ (u1 u2 : Value), H = V.H ∧ e = [(9, .bool (p0 && (decide (0 ≤ p1)))), (8, u1), (7, u2)]) ?_ ?_
 ·rintro _ _ ⟨u1, u2, rfl, rfl⟩
  refine U.p Z Z (.inl Z) (S.move Z (L 0 Z Z)) ?_
  refine U.joinX 9 (fun e H => ∃ (u6 u7 : Value), H = V.H ∧ e = [(13, .bool ((p0 && (decide (0 ≤ p1))) && (decide (p1 ≤ 31)))), (12, u6), (11, u7)]) ?_ ?_
  ·rintro _ _ ⟨u6, u7, rfl, rfl⟩
   refine U.p Z Z (.inl Z) (S.move Z (L 0 Z Z)) ?_
   refine U.joinX 17 (fun e H => ∃ (u11 u12 u13 u14 u15 u16 : Value), H = V.H ∧ e = [(21, .bool (((p0 && (decide (0 ≤ p1))) && (decide (p1 ≤ 31))) || ((!p0) && (decide (p1 = 0))))), (20, u11), (19, u12), (18, u13), (17, u14), (16, u15), (15, u16)]) ?_ ?_
   ·rintro _ _ ⟨u11, u12, u13, u14, u15, u16, rfl, rfl⟩
    refine U.p Z Z (.inl Z) (S.assign Z (L 0 Z Z)) ?_
    refine U.done (nr Z) ?_
    refine WP.ret ?_
    refine fin.slot (.inr Z) Z (L 0 Z Z) ⟨V, Z, (.refl _), ?_⟩
    have e20 := Option.some.inj h
    subst e20
    exact ⟨rfl, ow⟩
   ·intro kk
    refine bcase (b := (p0 && (decide (0 ≤ p1))) && (decide (p1 ≤ 31))) (fun g21 => ?_) (fun g21 => ?_)
    ·skip
     refine U.x Z Z Z Z ((L 0 Z Z).trans (cB g21)) (by decide) ?_
     refine U.x Z Z Z Z ((L 1 Z Z).trans (cB g21)) (by decide) ?_
     refine U.x Z Z Z Z ((L 2 Z Z).trans (cB g21)) (by decide) ?_
     refine U.z Z Z Z Z (L 0 Z Z) ?_
     refine U.z Z Z Z Z (L 1 Z Z) ?_
     refine U.x Z Z Z Z ((L 5 Z Z).trans (cB g21)) (by decide) ?_
     refine U.p Z Z (.inl Z) (S.pickT Z ((L 6 Z Z).trans (cB g21)) K) ?_
     exact kk [(21, .bool true), (20, .tuple #[]), (19, .tuple #[]), (18, .tuple #[]), (17, .tuple #[]), (16, .tuple #[]), (15, .tuple #[])] _ ⟨.tuple #[], .tuple #[], .tuple #[], .tuple #[], .tuple #[], .tuple #[], Z, (by rw [g21, Bool.true_or])⟩
    ·skip
     refine U.p Z Z (.inr ⟨_, _, _, Z, Z, ((L 0 Z Z).trans (cB g21))⟩) (S.move Z (L 11 Z Z)) ?_
     refine U.p Z Z (.inr ⟨_, _, _, Z, Z, ((L 1 Z Z).trans (cB g21))⟩) (S.not Z (L 0 Z Z)) ?_
     refine U.p Z Z (.inr ⟨_, _, _, Z, Z, ((L 2 Z Z).trans (cB g21))⟩) (S.move Z (L 0 Z Z)) ?_
     refine U.joinX 16 (fun e H => ∃ (u22 u23 : Value), H = V.H ∧ e = [(20, .bool ((!p0) && (decide (p1 = 0)))), (19, u22), (18, u23)]) ?_ ?_
     ·rintro _ _ ⟨u22, u23, rfl, rfl⟩
      refine U.p Z Z (.inl Z) (S.pickF Z ((L 6 Z Z).trans (cB g21)) (L 0 Z Z)) ?_
      exact kk [(21, .bool ((!p0) && (decide (p1 = 0)))), (20, .bool ((!p0) && (decide (p1 = 0)))), (19, u22), (18, u23), (17, .bool (!p0)), (16, .bool (!p0)), (15, .bool p0)] _ ⟨.bool ((!p0) && (decide (p1 = 0))), u22, u23, .bool (!p0), .bool (!p0), .bool p0, Z, (by rw [g21, Bool.false_or])⟩
     ·intro kk
      refine bcase (b := !p0) (fun g27 => ?_) (fun g27 => ?_)
      ·skip
       have k28 : p0 = false := nT g27
       refine U.p Z Z (.inr ⟨_, _, _, Z, Z, ((L 0 Z Z).trans (cB g27))⟩) (S.move Z (L 15 Z Z)) ?_
       refine U.p Z Z (.inr ⟨_, _, _, Z, Z, ((L 1 Z Z).trans (cB g27))⟩) (S.eqlI Z (L 0 Z Z) K) ?_
       refine U.p Z Z (.inr ⟨_, _, _, Z, Z, ((L 5 Z Z).trans (cB g21))⟩) (S.pickT Z ((L 2 Z Z).trans (cB g27)) (L 0 Z Z)) ?_
       exact kk [(20, .bool (decide (p1 = 0))), (19, .bool (decide (p1 = 0))), (18, .int .i64 p1)] _ ⟨.bool (decide (p1 = 0)), .int .i64 p1, Z, (by rw [g27, Bool.true_and])⟩
      ·skip
       have k29 : p0 = true := nF g27
       refine U.x Z Z Z Z ((L 0 Z Z).trans (cB g27)) (by decide) ?_
       refine U.x Z Z Z Z ((L 1 Z Z).trans (cB g27)) (by decide) ?_
       refine U.p Z Z (.inr ⟨_, _, _, Z, Z, ((L 5 Z Z).trans (cB g21))⟩) (S.pickF Z ((L 2 Z Z).trans (cB g27)) K) ?_
       exact kk [(20, .bool false), (19, .tuple #[]), (18, .tuple #[])] _ ⟨.tuple #[], .tuple #[], Z, (by rw [g27, Bool.false_and])⟩
  ·intro kk
   refine bcase (b := p0 && (decide (0 ≤ p1))) (fun g30 => ?_) (fun g30 => ?_)
   ·skip
    refine U.p Z Z (.inr ⟨_, _, _, Z, Z, ((L 0 Z Z).trans (cB g30))⟩) (S.move Z (L 8 Z Z)) ?_
    refine U.p Z Z (.inr ⟨_, _, _, Z, Z, ((L 1 Z Z).trans (cB g30))⟩) (S.leq Z (L 0 Z Z) K) ?_
    refine U.p Z Z (.inl Z) (S.pickT Z ((L 2 Z Z).trans (cB g30)) (L 0 Z Z)) ?_
    exact kk [(13, .bool (decide (p1 ≤ 31))), (12, .bool (decide (p1 ≤ 31))), (11, .int .i64 p1)] _ ⟨.bool (decide (p1 ≤ 31)), .int .i64 p1, Z, (by rw [g30, Bool.true_and])⟩
   ·skip
    refine U.x Z Z Z Z ((L 0 Z Z).trans (cB g30)) (by decide) ?_
    refine U.x Z Z Z Z ((L 1 Z Z).trans (cB g30)) (by decide) ?_
    refine U.p Z Z (.inl Z) (S.pickF Z ((L 2 Z Z).trans (cB g30)) K) ?_
    exact kk [(13, .bool false), (12, .tuple #[]), (11, .tuple #[])] _ ⟨.tuple #[], .tuple #[], Z, (by rw [g30, Bool.false_and])⟩
 ·intro kk
  refine bcase (b := p0) (fun g31 => ?_) (fun g31 => ?_)
  ·skip
   refine U.p Z Z (.inr ⟨_, _, _, Z, Z, ((L 0 Z Z).trans (cB g31))⟩) (S.move Z (L 4 Z Z)) ?_
   refine U.p Z Z (.inr ⟨_, _, _, Z, Z, ((L 1 Z Z).trans (cB g31))⟩) (S.geq Z (L 0 Z Z) K) ?_
   refine U.p Z Z (.inl Z) (S.pickT Z ((L 2 Z Z).trans (cB g31)) (L 0 Z Z)) ?_
   exact kk [(9, .bool (decide (0 ≤ p1))), (8, .bool (decide (0 ≤ p1))), (7, .int .i64 p1)] _ ⟨.bool (decide (0 ≤ p1)), .int .i64 p1, Z, (by rw [g31, Bool.true_and])⟩
  ·skip
   refine U.x Z Z Z Z ((L 0 Z Z).trans (cB g31)) (by decide) ?_
   refine U.x Z Z Z Z ((L 1 Z Z).trans (cB g31)) (by decide) ?_
   refine U.p Z Z (.inl Z) (S.pickF Z ((L 2 Z Z).trans (cB g31)) K) ?_
   exact kk [(9, .bool false), (8, .tuple #[]), (7, .tuple #[])] _ ⟨.tuple #[], .tuple #[], Z, (by rw [g31, Bool.false_and])⟩
theorem wk_ref01_Fits (V : Vw) (Rs : List At) (gl : Glb V) (p0 : Int) (p1 : Int) (ow : Ow V (Rs)) (r : Bool) (h : ref01_Fits p0 p1 = some r) : ∃ v V', Cl Tryd.prog NG 49 #[.int .i64 p0, .int .i64 p1] V.H v V'.H ∧ V.le V' ∧ (v = .bool r ∧ Ow V' (Rs)) := by
 refine Ct.of gl.lo Tryd.func49 Z (nr Z) ?_
 unfold ref01_Fits at h
 refine WP.usreg Z ?_
 refine U.p Z Z (.inl Z) (S.assign Z K) ?_
 refine U.done (nr Z) ?_
 refine WP.seq ?_
 refine WP.usreg Z ?_
 refine U.p Z Z (.inl Z) (S.move Z (L 2 Z Z)) ?_
 refine U.p Z Z (.inl Z) (S.lss Z (L 0 Z Z) K) ?_
 refine U.done (nr Z) ?_
 refine WP.cond _ (L 0 Z Z) Z (fun c1 => ?_) (fun c1 => ?_)
 ·have h2 := ifT c1 h
  refine WP.usreg Z ?_
  refine U.p Z Z (.inl Z) (S.assign Z K) ?_
  refine U.done (nr Z) ?_
  refine WP.ret ?_
  refine sqR ?_
  refine fin.slot (.inr Z) Z (L 0 Z Z) ⟨V, Z, (.refl _), ?_⟩
  have e3 := Option.some.inj h2
  subst e3
  exact ⟨rfl, ow⟩
 ·have h4 := ifF c1 h
  refine WP.skip ?_
  refine sqN ?_
  refine WP.seq ?_
  refine WP.usreg Z ?_
  refine U.p Z Z (.inl Z) (S.move Z (L 4 Z Z)) ?_
  refine U.p Z Z (.inl Z) (S.gtr Z (L 0 Z Z) K) ?_
  refine U.done (nr Z) ?_
  refine WP.cond _ (L 0 Z Z) Z (fun c5 => ?_) (fun c5 => ?_)
  ·have h6 := ifT c5 h4
   refine WP.usreg Z ?_
   refine U.p Z Z (.inl Z) (S.assign Z K) ?_
   refine U.done (nr Z) ?_
   refine WP.ret ?_
   refine sqR ?_
   refine fin.slot (.inr Z) Z (L 0 Z Z) ⟨V, Z, (.refl _), ?_⟩
   have e7 := Option.some.inj h6
   subst e7
   exact ⟨rfl, ow⟩
  ·have h8 := ifF c5 h4
   refine WP.skip ?_
   refine sqN ?_
   refine WP.usreg Z ?_
   refine U.p Z Z (.inl Z) (S.assign Z K) ?_
   refine U.p Z Z (.inl Z) (S.assign Z K) ?_
   refine U.done (nr Z) ?_
   refine WP.seq ?_
   refine WP.usreg Z ?_
   refine U.p Z Z (.inl Z) (S.assign Z K) ?_
   refine U.done (nr Z) ?_
   refine WP.blk ?_
   unfold ref01_Fits_l1 at h8
   obtain ⟨n13, hn12⟩ := loopO_some.1 h8
   refine WP.loopI2 (fun n l V' => ∃ (x9 : Int) (x10 : Int) (x11 : Int), l = [(0, .int .i64 p0), (1, .int .i64 p1), (5, .int .i64 x9), (6, .int .i64 x10), (7, .int .i64 x11)] ∧ V.le V' ∧ Ow V' (Rs) ∧ itO (fun s => ref01_Fits_l1b p0 p1 s.1 s.2.1 s.2.2) n (x9, x10, x11) = some r) n13 _ ⟨(-1), 0, 1, Z, .refl _, ow, hn12⟩ (allCons (L 8 Z Z) (allCons (L 9 Z Z) (allCons (L 2 Z Z) (allCons (L 1 Z Z) (allCons (L 0 Z Z) allNil))))) ?_
   rintro _ _ V14 ⟨x9, x10, x11, rfl, le15, ow16, h20⟩
   obtain ⟨m17, q18, rfl, h21, e19⟩ := itS h20
   replace h21 : ref01_Fits_l1b p0 p1 x9 x10 x11 = some q18 := h21
   unfold ref01_Fits_l1b at h21
   refine WP.seq ?_
   refine WP.usreg Z ?_
   refine U.p Z Z (.inl Z) (S.move Z (L 4 Z Z)) ?_
   refine U.p Z Z (.inl Z) (S.move Z (L 2 Z Z)) ?_
   refine U.p Z Z (.inl Z) (S.lss Z (L 1 Z Z) (L 0 Z Z)) ?_
   refine U.done (nr Z) ?_
   refine WP.cond _ (L 0 Z Z) Z (fun c22 => ?_) (fun c22 => ?_)
   ·have h23 := ifT c22 h21
    refine WP.skip ?_
    refine sqN ?_
    refine WP.seq ?_
    refine WP.blk ?_
    refine WP.usreg Z ?_
    refine U.p Z Z (.inl Z) (S.move Z (L 5 Z Z)) ?_
    refine U.p Z Z (.inl Z) (S.mul Z K (L 0 Z Z)) ?_
    refine U.p Z Z (.inl Z) (S.assign Z (L 0 Z Z)) ?_
    refine U.done (nr Z) ?_
    refine WP.ureg Z ?_
    refine U.p Z Z (.inl Z) (S.move Z (L 9 Z Z)) ?_
    refine U.p Z Z (.inl Z) (S.mul Z K (L 0 Z Z)) ?_
    refine U.p Z Z (.inl Z) (S.add Z (L 0 Z Z) K) ?_
    refine U.p Z Z (.inl Z) (S.assign Z (L 0 Z Z)) ?_
    refine U.done (nr Z) ?_
    refine blkN (sqN ?_)
    refine WP.ureg Z ?_
    refine U.p Z Z (.inl Z) (S.move Z (L 14 Z Z)) ?_
    refine U.p Z Z (.inl Z) (S.add Z (L 0 Z Z) K) ?_
    refine U.p Z Z (.inl Z) (S.assign Z (L 0 Z Z)) ?_
    refine U.done (nr Z) ?_
    refine sqN ?_
    exact ⟨_, V14, Z, ⟨m17, Nat.lt_succ_self _, w64 (2 * x9), w64 ((w64 (2 * x10)) + 1), w64 (x11 + 1), Z, le15, ow16, backS h23 e19⟩, (allCons (L 13 Z Z) (allCons (L 14 Z Z) (allCons (L 7 Z Z) (allCons (L 3 Z Z) (allCons (L 0 Z Z) allNil)))))⟩
   ·have h24 := ifF c22 h21
    refine WP.exit ?_
    refine sqE (sqE (blkE (sqN ?_)))
    have h25 := exitS h24 e19
    refine WP.usreg Z ?_
    refine U.p Z Z (.inl Z) (S.move Z (L 3 Z Z)) ?_
    refine U.p Z Z (.inl Z) (S.move Z (L 6 Z Z)) ?_
    refine U.p Z Z (.inl Z) (S.geq Z (L 1 Z Z) (L 0 Z Z)) ?_
    refine U.p Z Z (.inl Z) (S.move Z (L 0 Z Z)) ?_
    refine U.joinX 8 (fun e H => ∃ (u26 u27 u28 : Value), H = V14.H ∧ e = [(29, .bool ((decide (x9 ≤ p0)) && (decide (p0 ≤ x10)))), (28, u26), (27, u27), (26, u28)]) ?_ ?_
    ·rintro _ _ ⟨u26, u27, u28, rfl, rfl⟩
     refine U.p Z Z (.inl Z) (S.assign Z (L 0 Z Z)) ?_
     refine U.done (nr Z) ?_
     refine WP.ret ?_
     refine fin.slot (.inr Z) Z (L 0 Z Z) ⟨V14, Z, le15, ?_⟩
     have e32 := Option.some.inj h25
     subst e32
     exact ⟨rfl, ow16⟩
    ·intro kk
     refine bcase (b := decide (x9 ≤ p0)) (fun g33 => ?_) (fun g33 => ?_)
     ·skip
      refine U.p Z Z (.inr ⟨_, _, _, Z, Z, ((L 0 Z Z).trans (cB g33))⟩) (S.move Z (L 7 Z Z)) ?_
      refine U.p Z Z (.inr ⟨_, _, _, Z, Z, ((L 1 Z Z).trans (cB g33))⟩) (S.move Z (L 11 Z Z)) ?_
      refine U.p Z Z (.inr ⟨_, _, _, Z, Z, ((L 2 Z Z).trans (cB g33))⟩) (S.leq Z (L 1 Z Z) (L 0 Z Z)) ?_
      refine U.p Z Z (.inl Z) (S.pickT Z ((L 3 Z Z).trans (cB g33)) (L 0 Z Z)) ?_
      exact kk [(29, .bool (decide (p0 ≤ x10))), (28, .bool (decide (p0 ≤ x10))), (27, .int .i64 x10), (26, .int .i64 p0)] _ ⟨.bool (decide (p0 ≤ x10)), .int .i64 x10, .int .i64 p0, Z, (by rw [g33, Bool.true_and])⟩
     ·skip
      refine U.x Z Z Z Z ((L 0 Z Z).trans (cB g33)) (by decide) ?_
      refine U.x Z Z Z Z ((L 1 Z Z).trans (cB g33)) (by decide) ?_
      refine U.x Z Z Z Z ((L 2 Z Z).trans (cB g33)) (by decide) ?_
      refine U.p Z Z (.inl Z) (S.pickF Z ((L 3 Z Z).trans (cB g33)) K) ?_
      exact kk [(29, .bool false), (28, .tuple #[]), (27, .tuple #[]), (26, .tuple #[])] _ ⟨.tuple #[], .tuple #[], .tuple #[], Z, (by rw [g33, Bool.false_and])⟩
theorem wk_ref02_Good (V : Vw) (Rs : List At) (gl : Glb V) (p0 : TInst) (ow : Ow V (Rs)) (r : Bool) (h : ref02_Good p0 = some r) : ∃ v V', Cl Tryd.prog NG 35 #[.agg #[.int .i64 p0.op, .int .i64 p0.d, .int .i64 p0.a, .int .i64 p0.b, .int .i64 p0.imm]] V.H v V'.H ∧ V.le V' ∧ (v = .bool r ∧ Ow V' (Rs)) := by
 refine Ct.of gl.lo Tryd.func35 Z (nr Z) ?_
 unfold ref02_Good at h
 refine WP.usreg Z ?_
 refine O.box ow Z Z (.inl Z) Z (L 0 Z Z) (by simp [topV]) Z nd (fun b1 V2 le3 ow4 => ?_)
 refine U.p Z Z (.inl Z) (S.assign Z K) ?_
 refine U.done (nr Z) ?_
 refine WP.usreg Z ?_
 refine U.p (v := .pointer (some ⟨b1, 0, none⟩)) Z Z (.inl Z) (S.fieldAddr Z (L 1 Z Z) Tryd.underlying50 Z ti3 Z Z) ?_
 refine U.k Z Z (.inl Z) (S.load Z (L 0 Z Z) Tryd.underlying3 Z ((ow4.own (k := 0) Z).cell Z)) nd ?_
 obtain ⟨x6, hx7, h8⟩ := bindS h
 refine O.call (V := V2) Z Z (.inl Z) Z en32 (aC (L 0 Z Z) aN) (wk_ref02_Of V2 _ (gl.up le3) p0.op ow4 _ hx7) (fun _ _ _ _ => nd) (fun v9 V10 le11 hp12 => ?_)
 obtain ⟨rfl, ow13⟩ := hp12
 refine U.p Z Z (.inl Z) (S.move Z (L 0 Z Z)) ?_
 refine U.p Z Z (.inl Z) (S.extract Z (L 0 Z Z) Z (nr Z)) ?_
 refine U.p Z Z (.inl Z) (S.extract Z (L 1 Z Z) Z (nr Z)) ?_
 refine O.alloc ow13 Z Z (.inl Z) Z ti70 Z Z nd (fun b14 V15 le16 ow17 => ?_)
 refine O.store (k := 0) (cs := [.string x6.1.name, .bool x6.1.d, .bool x6.1.a, .bool x6.1.b, .int .i64 x6.1.imm, .int .u32 x6.1.word]) (c' := [.string x6.1.name, .bool x6.1.d, .bool x6.1.a, .bool x6.1.b, .int .i64 x6.1.imm, .int .u32 x6.1.word]) ow17 Z Z Z (.inl Z) Z (L 0 Z Z) (L 2 Z Z) ti70 (by simp [topV]) Z Z (nr Z) Z Z nd (fun V19 le20 ow21 => ?_)
 refine U.p Z Z (.inl Z) (S.assign Z (L 1 Z Z)) ?_
 refine U.done (nr Z) ?_
 refine WP.seq ?_
 refine WP.usreg Z ?_
 refine U.p Z Z (.inl Z) (S.move Z (L 0 Z Z)) ?_
 refine U.p Z Z (.inl Z) (S.not Z (L 0 Z Z)) ?_
 refine U.p Z Z (.inl Z) (S.move Z (L 0 Z Z)) ?_
 obtain ⟨y22, hy23, h24⟩ := bindS h8
 refine U.joinX 10 (fun e H => ∃ (u25 u26 u27 u28 u29 u30 : Value), ∃ V' : Vw, H = V'.H ∧ V19.le V' ∧ e = [(20, .bool y22), (19, u25), (18, u26), (17, u27), (16, u28), (15, u29), (14, u30)] ∧ Ow V' (.pt b14 (.cells 6 [.string x6.1.name, .bool x6.1.d, .bool x6.1.a, .bool x6.1.b, .int .i64 x6.1.imm, .int .u32 x6.1.word]) :: .pt b1 (.cells 0 [.int .i64 p0.op, .int .i64 p0.d, .int .i64 p0.a, .int .i64 p0.b, .int .i64 p0.imm]) :: Rs)) ?_ ?_
 ·rintro _ _ ⟨u25, u26, u27, u28, u29, u30, V31, rfl, le32, rfl, ow33⟩
  refine U.p Z Z (.inl Z) (S.move Z (L 0 Z Z)) ?_
  obtain ⟨y34, hy35, h36⟩ := bindS h24
  refine U.joinX 18 (fun e H => ∃ (u37 u38 u39 u40 u41 u42 : Value), ∃ V' : Vw, H = V'.H ∧ V31.le V' ∧ e = [(28, .bool y34), (27, u37), (26, u38), (25, u39), (24, u40), (23, u41), (22, u42)] ∧ Ow V' (.pt b14 (.cells 6 [.string x6.1.name, .bool x6.1.d, .bool x6.1.a, .bool x6.1.b, .int .i64 x6.1.imm, .int .u32 x6.1.word]) :: .pt b1 (.cells 0 [.int .i64 p0.op, .int .i64 p0.d, .int .i64 p0.a, .int .i64 p0.b, .int .i64 p0.imm]) :: Rs)) ?_ ?_
  ·rintro _ _ ⟨u37, u38, u39, u40, u41, u42, V43, rfl, le44, rfl, ow45⟩
   refine U.p Z Z (.inl Z) (S.move Z (L 0 Z Z)) ?_
   obtain ⟨y46, hy47, h48⟩ := bindS h36
   refine U.joinX 26 (fun e H => ∃ (u49 u50 u51 u52 u53 u54 : Value), ∃ V' : Vw, H = V'.H ∧ V43.le V' ∧ e = [(36, .bool y46), (35, u49), (34, u50), (33, u51), (32, u52), (31, u53), (30, u54)] ∧ Ow V' (.pt b14 (.cells 6 [.string x6.1.name, .bool x6.1.d, .bool x6.1.a, .bool x6.1.b, .int .i64 x6.1.imm, .int .u32 x6.1.word]) :: .pt b1 (.cells 0 [.int .i64 p0.op, .int .i64 p0.d, .int .i64 p0.a, .int .i64 p0.b, .int .i64 p0.imm]) :: Rs)) ?_ ?_
   ·rintro _ _ ⟨u49, u50, u51, u52, u53, u54, V55, rfl, le56, rfl, ow57⟩
    refine U.done (nr Z) ?_
    refine WP.cond _ (L 0 Z Z) Z (fun c58 => ?_) (fun c58 => ?_)
    ·have h59 := ifT c58 h48
     refine WP.usreg Z ?_
     refine U.p Z Z (.inl Z) (S.assign Z K) ?_
     refine U.done (nr Z) ?_
     refine WP.ret ?_
     refine sqR ?_
     refine fin.slot (.inr Z) Z (L 0 Z Z) ⟨V55, Z, ((((((le3.trans le11).trans le16).trans le20).trans le32).trans le44).trans le56), ?_⟩
     have ow60 := ow57.drop 0 Z
     have ow61 := ow60.drop 0 Z
     have e62 := Option.some.inj h59
     subst e62
     exact ⟨rfl, ow61⟩
    ·have h63 := ifF c58 h48
     refine WP.skip ?_
     refine sqN ?_
     refine WP.seq ?_
     refine WP.usreg Z ?_
     refine U.p (v := .pointer (some ⟨b1, 0, none⟩)) Z Z (.inl Z) (S.fieldAddr Z (L 35 Z Z) Tryd.underlying50 Z ti3 Z Z) ?_
     refine U.k Z Z (.inl Z) (S.load Z (L 0 Z Z) Tryd.underlying3 Z ((ow57.own (k := 1) Z).cell Z)) nd ?_
     refine U.p Z Z (.inl Z) (S.eqlI Z (L 0 Z Z) K) ?_
     refine U.p Z Z (.inl Z) (S.move Z (L 0 Z Z)) ?_
     refine U.joinX 18 (fun e H => ∃ (u64 u65 u66 u67 u68 u69 u70 u71 u72 u73 u74 u75 u76 : Value), H = V55.H ∧ e = [(54, .bool ((decide (p0.op = 10)) && (((decide (p0.d ≠ 4)) && (decide (p0.d ≠ 12))) || (decide (2 < p0.a))))), (53, u64), (52, u65), (51, u66), (50, u67), (49, u68), (48, u69), (47, u70), (46, u71), (45, u72), (44, u73), (43, u74), (42, u75), (41, u76)]) ?_ ?_
     ·rintro _ _ ⟨u64, u65, u66, u67, u68, u69, u70, u71, u72, u73, u74, u75, u76, rfl, rfl⟩
      refine U.p Z Z (.inl Z) (S.move Z (L 0 Z Z)) ?_
      refine U.joinX 28 (fun e H => ∃ (u80 u81 u82 u83 u84 u85 u86 u87 : Value), H = V55.H ∧ e = [(64, .bool (((decide (p0.op = 10)) && (((decide (p0.d ≠ 4)) && (decide (p0.d ≠ 12))) || (decide (2 < p0.a)))) || ((decide (p0.op = 21)) && (decide (p0.imm < 0))))), (63, u80), (62, u81), (61, u82), (60, u83), (59, u84), (58, u85), (57, u86), (56, u87)]) ?_ ?_
      ·rintro _ _ ⟨u80, u81, u82, u83, u84, u85, u86, u87, rfl, rfl⟩
       refine U.done (nr Z) ?_
       refine WP.cond _ (L 0 Z Z) Z (fun c91 => ?_) (fun c91 => ?_)
       ·have h92 := ifT c91 h63
        refine WP.usreg Z ?_
        refine U.p Z Z (.inl Z) (S.assign Z K) ?_
        refine U.done (nr Z) ?_
        refine WP.ret ?_
        refine sqR ?_
        refine fin.slot (.inr Z) Z (L 0 Z Z) ⟨V55, Z, ((((((le3.trans le11).trans le16).trans le20).trans le32).trans le44).trans le56), ?_⟩
        have ow93 := ow57.drop 0 Z
        have ow94 := ow93.drop 0 Z
        have e95 := Option.some.inj h92
        subst e95
        exact ⟨rfl, ow94⟩
       ·have h96 := ifF c91 h63
        refine WP.skip ?_
        refine sqN ?_
        refine WP.seq ?_
        refine WP.usreg Z ?_
        refine U.p (v := .pointer (some ⟨b14, 4, none⟩)) Z Z (.inl Z) (S.fieldAddr Z (L 55 Z Z) Tryd.underlying70 Z ti3 Z Z) ?_
        refine U.k Z Z (.inl Z) (S.load Z (L 0 Z Z) Tryd.underlying3 Z ((ow57.own (k := 0) Z).cell Z)) nd ?_
        refine U.done (nr Z) ?_
        refine WP.blk ?_
        refine WP.usreg Z ?_
        refine U.p Z Z (.inl Z) (S.eqlI Z (L 0 Z Z) K) ?_
        refine U.p Z Z (.inl Z) (S.assign Z (L 0 Z Z)) ?_
        refine U.done (nr Z) ?_
        refine WP.cond _ (L 0 Z Z) Z (fun c97 => ?_) (fun c97 => ?_)
        ·have h98 := ifT c97 h96
         refine WP.usreg Z ?_
         refine U.p (v := .pointer (some ⟨b1, 4, none⟩)) Z Z (.inl Z) (S.fieldAddr Z (L 67 Z Z) Tryd.underlying50 Z ti3 Z Z) ?_
         refine U.k Z Z (.inl Z) (S.load Z (L 0 Z Z) Tryd.underlying3 Z ((ow57.own (k := 1) Z).cell Z)) nd ?_
         refine U.p Z Z (.inl Z) (S.eqlI Z (L 0 Z Z) K) ?_
         refine U.p Z Z (.inl Z) (S.assign Z (L 0 Z Z)) ?_
         refine U.done (nr Z) ?_
         refine WP.ret ?_
         refine blkR (sqR ?_)
         refine fin.slot (.inr Z) Z (L 0 Z Z) ⟨V55, Z, ((((((le3.trans le11).trans le16).trans le20).trans le32).trans le44).trans le56), ?_⟩
         have ow99 := ow57.drop 0 Z
         have ow100 := ow99.drop 0 Z
         have e101 := Option.some.inj h98
         subst e101
         exact ⟨rfl, ow100⟩
        ·have h102 := ifF c97 h96
         refine WP.usreg Z ?_
         refine U.p Z Z (.inl Z) (S.eqlI Z (L 2 Z Z) K) ?_
         refine U.p Z Z (.inl Z) (S.assign Z (L 0 Z Z)) ?_
         refine U.done (nr Z) ?_
         refine WP.cond _ (L 0 Z Z) Z (fun c103 => ?_) (fun c103 => ?_)
         ·have h104 := ifT c103 h102
          refine WP.usreg Z ?_
          refine U.p (v := .pointer (some ⟨b1, 4, none⟩)) Z Z (.inl Z) (S.fieldAddr Z (L 69 Z Z) Tryd.underlying50 Z ti3 Z Z) ?_
          refine U.k Z Z (.inl Z) (S.load Z (L 0 Z Z) Tryd.underlying3 Z ((ow57.own (k := 1) Z).cell Z)) nd ?_
          obtain ⟨x105, hx106, h107⟩ := bindS h104
          refine U.p Z Z (.inl Z) (S.rem hx106 Z (L 0 Z Z) K) ?_
          refine U.p Z Z (.inl Z) (S.eqlI Z (L 0 Z Z) K) ?_
          refine U.p Z Z (.inl Z) (S.move Z (L 0 Z Z)) ?_
          obtain ⟨y108, hy109, h110⟩ := bindS h107
          refine U.joinX 9 (fun e H => ∃ (u111 u112 u113 : Value), ∃ V' : Vw, H = V'.H ∧ V55.le V' ∧ e = [(82, .bool y108), (81, u111), (80, u112), (79, u113)] ∧ Ow V' (.pt b14 (.cells 6 [.string x6.1.name, .bool x6.1.d, .bool x6.1.a, .bool x6.1.b, .int .i64 x6.1.imm, .int .u32 x6.1.word]) :: .pt b1 (.cells 0 [.int .i64 p0.op, .int .i64 p0.d, .int .i64 p0.a, .int .i64 p0.b, .int .i64 p0.imm]) :: Rs)) ?_ ?_
          ·rintro _ _ ⟨u111, u112, u113, V114, rfl, le115, rfl, ow116⟩
           refine U.p Z Z (.inl Z) (S.assign Z (L 0 Z Z)) ?_
           refine U.done (nr Z) ?_
           refine WP.ret ?_
           refine blkR (sqR ?_)
           refine fin.slot (.inr Z) Z (L 0 Z Z) ⟨V114, Z, (((((((le3.trans le11).trans le16).trans le20).trans le32).trans le44).trans le56).trans le115), ?_⟩
           have ow117 := ow116.drop 0 Z
           have ow118 := ow117.drop 0 Z
           have e119 := Option.some.inj h110
           subst e119
           exact ⟨rfl, ow118⟩
          ·intro kk
           refine bcase (b := decide (x105 = 0)) (fun g120 => ?_) (fun g120 => ?_)
           ·have h121 := ifT g120 hy109
            refine U.p (v := .pointer (some ⟨b1, 4, none⟩)) Z Z (.inr ⟨_, _, _, Z, Z, ((L 0 Z Z).trans (cB g120))⟩) (S.fieldAddr Z (L 74 Z Z) Tryd.underlying50 Z ti3 Z Z) ?_
            refine U.k Z Z (.inr ⟨_, _, _, Z, Z, ((L 1 Z Z).trans (cB g120))⟩) (S.load Z (L 0 Z Z) Tryd.underlying3 Z ((ow57.own (k := 1) Z).cell Z)) nd ?_
            obtain ⟨x122, hx123, h124⟩ := bindS h121
            refine O.call (V := V55) Z Z (.inr ⟨_, _, _, Z, Z, ((L 2 Z Z).trans (cB g120))⟩) Z en49 (aC (L 0 Z Z) (aC K aN)) (wk_ref01_Fits V55 _ (gl.up ((((((le3.trans le11).trans le16).trans le20).trans le32).trans le44).trans le56)) p0.imm 16 ow57 _ hx123) (fun _ _ _ _ => nd) (fun v125 V126 le127 hp128 => ?_)
            obtain ⟨rfl, ow129⟩ := hp128
            refine U.p Z Z (.inl Z) (S.pickT Z ((L 3 Z Z).trans (cB g120)) (L 0 Z Z)) ?_
            have e130 := Option.some.inj h124
            subst e130
            exact kk [(82, .bool x122), (81, .bool x122), (80, .int .i64 p0.imm), (79, .pointer (some ⟨b1, 4, none⟩))] _ ⟨.bool x122, .int .i64 p0.imm, .pointer (some ⟨b1, 4, none⟩), V126, Z, le127, Z, ow129⟩
           ·have h131 := ifF g120 hy109
            refine U.x Z Z Z Z ((L 0 Z Z).trans (cB g120)) (by decide) ?_
            refine U.x Z Z Z Z ((L 1 Z Z).trans (cB g120)) (by decide) ?_
            refine U.x Z Z Z Z ((L 2 Z Z).trans (cB g120)) (by decide) ?_
            refine U.p Z Z (.inl Z) (S.pickF Z ((L 3 Z Z).trans (cB g120)) K) ?_
            have e132 := Option.some.inj h131
            subst e132
            exact kk [(82, .bool false), (81, .tuple #[]), (80, .tuple #[]), (79, .tuple #[])] _ ⟨.tuple #[], .tuple #[], .tuple #[], V55, Z, (.refl _), Z, ow57⟩
         ·have h133 := ifF c103 h102
          refine WP.skip ?_
          refine blkN (sqN ?_)
          refine WP.usreg Z ?_
          refine U.p (v := .pointer (some ⟨b1, 4, none⟩)) Z Z (.inl Z) (S.fieldAddr Z (L 69 Z Z) Tryd.underlying50 Z ti3 Z Z) ?_
          refine U.k Z Z (.inl Z) (S.load Z (L 0 Z Z) Tryd.underlying3 Z ((ow57.own (k := 1) Z).cell Z)) nd ?_
          refine U.p (v := .pointer (some ⟨b14, 4, none⟩)) Z Z (.inl Z) (S.fieldAddr Z (L 63 Z Z) Tryd.underlying70 Z ti3 Z Z) ?_
          refine U.k Z Z (.inl Z) (S.load Z (L 0 Z Z) Tryd.underlying3 Z ((ow57.own (k := 0) Z).cell Z)) nd ?_
          obtain ⟨x134, hx135, h136⟩ := bindS h133
          refine O.call (V := V55) Z Z (.inl Z) Z en49 (aC (L 2 Z Z) (aC (L 0 Z Z) aN)) (wk_ref01_Fits V55 _ (gl.up ((((((le3.trans le11).trans le16).trans le20).trans le32).trans le44).trans le56)) p0.imm x6.1.imm ow57 _ hx135) (fun _ _ _ _ => nd) (fun v137 V138 le139 hp140 => ?_)
          obtain ⟨rfl, ow141⟩ := hp140
          refine U.p Z Z (.inl Z) (S.assign Z (L 0 Z Z)) ?_
          refine U.done (nr Z) ?_
          refine WP.ret ?_
          refine fin.slot (.inr Z) Z (L 0 Z Z) ⟨V138, Z, (((((((le3.trans le11).trans le16).trans le20).trans le32).trans le44).trans le56).trans le139), ?_⟩
          have ow142 := ow141.drop 0 Z
          have ow143 := ow142.drop 0 Z
          have e144 := Option.some.inj h136
          subst e144
          exact ⟨rfl, ow143⟩
      ·intro kk
       refine bcase (b := (decide (p0.op = 10)) && (((decide (p0.d ≠ 4)) && (decide (p0.d ≠ 12))) || (decide (2 < p0.a)))) (fun g145 => ?_) (fun g145 => ?_)
       ·skip
        refine U.x Z Z Z Z ((L 0 Z Z).trans (cB g145)) (by decide) ?_
        refine U.x Z Z Z Z ((L 1 Z Z).trans (cB g145)) (by decide) ?_
        refine U.x Z Z Z Z ((L 2 Z Z).trans (cB g145)) (by decide) ?_
        refine U.x Z Z Z Z ((L 3 Z Z).trans (cB g145)) (by decide) ?_
        refine U.z Z Z Z Z (L 0 Z Z) ?_
        refine U.z Z Z Z Z (L 1 Z Z) ?_
        refine U.z Z Z Z Z (L 2 Z Z) ?_
        refine U.x Z Z Z Z ((L 7 Z Z).trans (cB g145)) (by decide) ?_
        refine U.p Z Z (.inl Z) (S.pickT Z ((L 8 Z Z).trans (cB g145)) K) ?_
        exact kk [(64, .bool true), (63, .tuple #[]), (62, .tuple #[]), (61, .tuple #[]), (60, .tuple #[]), (59, .tuple #[]), (58, .tuple #[]), (57, .tuple #[]), (56, .tuple #[])] _ ⟨.tuple #[], .tuple #[], .tuple #[], .tuple #[], .tuple #[], .tuple #[], .tuple #[], .tuple #[], Z, (by rw [g145, Bool.true_or])⟩
       ·skip
        refine U.p (v := .pointer (some ⟨b1, 0, none⟩)) Z Z (.inr ⟨_, _, _, Z, Z, ((L 0 Z Z).trans (cB g145))⟩) (S.fieldAddr Z (L 54 Z Z) Tryd.underlying50 Z ti3 Z Z) ?_
        refine U.k Z Z (.inr ⟨_, _, _, Z, Z, ((L 1 Z Z).trans (cB g145))⟩) (S.load Z (L 0 Z Z) Tryd.underlying3 Z ((ow57.own (k := 1) Z).cell Z)) nd ?_
        refine U.p Z Z (.inr ⟨_, _, _, Z, Z, ((L 2 Z Z).trans (cB g145))⟩) (S.eqlI Z (L 0 Z Z) K) ?_
        refine U.p Z Z (.inr ⟨_, _, _, Z, Z, ((L 3 Z Z).trans (cB g145))⟩) (S.move Z (L 0 Z Z)) ?_
        refine U.joinX 27 (fun e H => ∃ (u146 u147 u148 : Value), H = V55.H ∧ e = [(63, .bool ((decide (p0.op = 21)) && (decide (p0.imm < 0)))), (62, u146), (61, u147), (60, u148)]) ?_ ?_
        ·rintro _ _ ⟨u146, u147, u148, rfl, rfl⟩
         refine U.p Z Z (.inl Z) (S.pickF Z ((L 8 Z Z).trans (cB g145)) (L 0 Z Z)) ?_
         exact kk [(64, .bool ((decide (p0.op = 21)) && (decide (p0.imm < 0)))), (63, .bool ((decide (p0.op = 21)) && (decide (p0.imm < 0)))), (62, u146), (61, u147), (60, u148), (59, .bool (decide (p0.op = 21))), (58, .bool (decide (p0.op = 21))), (57, .int .i64 p0.op), (56, .pointer (some ⟨b1, 0, none⟩))] _ ⟨.bool ((decide (p0.op = 21)) && (decide (p0.imm < 0))), u146, u147, u148, .bool (decide (p0.op = 21)), .bool (decide (p0.op = 21)), .int .i64 p0.op, .pointer (some ⟨b1, 0, none⟩), Z, (by rw [g145, Bool.false_or])⟩
        ·intro kk
         refine bcase (b := decide (p0.op = 21)) (fun g152 => ?_) (fun g152 => ?_)
         ·skip
          refine U.p (v := .pointer (some ⟨b1, 4, none⟩)) Z Z (.inr ⟨_, _, _, Z, Z, ((L 0 Z Z).trans (cB g152))⟩) (S.fieldAddr Z (L 58 Z Z) Tryd.underlying50 Z ti3 Z Z) ?_
          refine U.k Z Z (.inr ⟨_, _, _, Z, Z, ((L 1 Z Z).trans (cB g152))⟩) (S.load Z (L 0 Z Z) Tryd.underlying3 Z ((ow57.own (k := 1) Z).cell Z)) nd ?_
          refine U.p Z Z (.inr ⟨_, _, _, Z, Z, ((L 2 Z Z).trans (cB g152))⟩) (S.lss Z (L 0 Z Z) K) ?_
          refine U.p Z Z (.inr ⟨_, _, _, Z, Z, ((L 7 Z Z).trans (cB g145))⟩) (S.pickT Z ((L 3 Z Z).trans (cB g152)) (L 0 Z Z)) ?_
          exact kk [(63, .bool (decide (p0.imm < 0))), (62, .bool (decide (p0.imm < 0))), (61, .int .i64 p0.imm), (60, .pointer (some ⟨b1, 4, none⟩))] _ ⟨.bool (decide (p0.imm < 0)), .int .i64 p0.imm, .pointer (some ⟨b1, 4, none⟩), Z, (by rw [g152, Bool.true_and])⟩
         ·skip
          refine U.x Z Z Z Z ((L 0 Z Z).trans (cB g152)) (by decide) ?_
          refine U.x Z Z Z Z ((L 1 Z Z).trans (cB g152)) (by decide) ?_
          refine U.x Z Z Z Z ((L 2 Z Z).trans (cB g152)) (by decide) ?_
          refine U.p Z Z (.inr ⟨_, _, _, Z, Z, ((L 7 Z Z).trans (cB g145))⟩) (S.pickF Z ((L 3 Z Z).trans (cB g152)) K) ?_
          exact kk [(63, .bool false), (62, .tuple #[]), (61, .tuple #[]), (60, .tuple #[])] _ ⟨.tuple #[], .tuple #[], .tuple #[], Z, (by rw [g152, Bool.false_and])⟩
     ·intro kk
      refine bcase (b := decide (p0.op = 10)) (fun g153 => ?_) (fun g153 => ?_)
      ·skip
       refine U.p (v := .pointer (some ⟨b1, 1, none⟩)) Z Z (.inr ⟨_, _, _, Z, Z, ((L 0 Z Z).trans (cB g153))⟩) (S.fieldAddr Z (L 39 Z Z) Tryd.underlying50 Z ti3 Z Z) ?_
       refine U.k Z Z (.inr ⟨_, _, _, Z, Z, ((L 1 Z Z).trans (cB g153))⟩) (S.load Z (L 0 Z Z) Tryd.underlying3 Z ((ow57.own (k := 1) Z).cell Z)) nd ?_
       refine U.p Z Z (.inr ⟨_, _, _, Z, Z, ((L 2 Z Z).trans (cB g153))⟩) (S.neqI Z (L 0 Z Z) K) ?_
       refine U.p Z Z (.inr ⟨_, _, _, Z, Z, ((L 3 Z Z).trans (cB g153))⟩) (S.move Z (L 0 Z Z)) ?_
       refine U.joinX 12 (fun e H => ∃ (u154 u155 u156 : Value), H = V55.H ∧ e = [(48, .bool ((decide (p0.d ≠ 4)) && (decide (p0.d ≠ 12)))), (47, u154), (46, u155), (45, u156)]) ?_ ?_
       ·rintro _ _ ⟨u154, u155, u156, rfl, rfl⟩
        refine U.p Z Z (.inr ⟨_, _, _, Z, Z, ((L 8 Z Z).trans (cB g153))⟩) (S.move Z (L 0 Z Z)) ?_
        refine U.joinX 17 (fun e H => ∃ (u160 u161 u162 : Value), H = V55.H ∧ e = [(53, .bool (((decide (p0.d ≠ 4)) && (decide (p0.d ≠ 12))) || (decide (2 < p0.a)))), (52, u160), (51, u161), (50, u162)]) ?_ ?_
        ·rintro _ _ ⟨u160, u161, u162, rfl, rfl⟩
         refine U.p Z Z (.inl Z) (S.pickT Z ((L 13 Z Z).trans (cB g153)) (L 0 Z Z)) ?_
         exact kk [(54, .bool (((decide (p0.d ≠ 4)) && (decide (p0.d ≠ 12))) || (decide (2 < p0.a)))), (53, .bool (((decide (p0.d ≠ 4)) && (decide (p0.d ≠ 12))) || (decide (2 < p0.a)))), (52, u160), (51, u161), (50, u162), (49, .bool ((decide (p0.d ≠ 4)) && (decide (p0.d ≠ 12)))), (48, .bool ((decide (p0.d ≠ 4)) && (decide (p0.d ≠ 12)))), (47, u154), (46, u155), (45, u156), (44, .bool (decide (p0.d ≠ 4))), (43, .bool (decide (p0.d ≠ 4))), (42, .int .i64 p0.d), (41, .pointer (some ⟨b1, 1, none⟩))] _ ⟨.bool (((decide (p0.d ≠ 4)) && (decide (p0.d ≠ 12))) || (decide (2 < p0.a))), u160, u161, u162, .bool ((decide (p0.d ≠ 4)) && (decide (p0.d ≠ 12))), .bool ((decide (p0.d ≠ 4)) && (decide (p0.d ≠ 12))), u154, u155, u156, .bool (decide (p0.d ≠ 4)), .bool (decide (p0.d ≠ 4)), .int .i64 p0.d, .pointer (some ⟨b1, 1, none⟩), Z, (by rw [g153, Bool.true_and])⟩
        ·intro kk
         refine bcase (b := (decide (p0.d ≠ 4)) && (decide (p0.d ≠ 12))) (fun g166 => ?_) (fun g166 => ?_)
         ·skip
          refine U.x Z Z Z Z ((L 0 Z Z).trans (cB g166)) (by decide) ?_
          refine U.x Z Z Z Z ((L 1 Z Z).trans (cB g166)) (by decide) ?_
          refine U.x Z Z Z Z ((L 2 Z Z).trans (cB g166)) (by decide) ?_
          refine U.p Z Z (.inr ⟨_, _, _, Z, Z, ((L 12 Z Z).trans (cB g153))⟩) (S.pickT Z ((L 3 Z Z).trans (cB g166)) K) ?_
          exact kk [(53, .bool true), (52, .tuple #[]), (51, .tuple #[]), (50, .tuple #[])] _ ⟨.tuple #[], .tuple #[], .tuple #[], Z, (by rw [g166, Bool.true_or])⟩
         ·skip
          refine U.p (v := .pointer (some ⟨b1, 2, none⟩)) Z Z (.inr ⟨_, _, _, Z, Z, ((L 0 Z Z).trans (cB g166))⟩) (S.fieldAddr Z (L 48 Z Z) Tryd.underlying50 Z ti3 Z Z) ?_
          refine U.k Z Z (.inr ⟨_, _, _, Z, Z, ((L 1 Z Z).trans (cB g166))⟩) (S.load Z (L 0 Z Z) Tryd.underlying3 Z ((ow57.own (k := 1) Z).cell Z)) nd ?_
          refine U.p Z Z (.inr ⟨_, _, _, Z, Z, ((L 2 Z Z).trans (cB g166))⟩) (S.gtr Z (L 0 Z Z) K) ?_
          refine U.p Z Z (.inr ⟨_, _, _, Z, Z, ((L 12 Z Z).trans (cB g153))⟩) (S.pickF Z ((L 3 Z Z).trans (cB g166)) (L 0 Z Z)) ?_
          exact kk [(53, .bool (decide (2 < p0.a))), (52, .bool (decide (2 < p0.a))), (51, .int .i64 p0.a), (50, .pointer (some ⟨b1, 2, none⟩))] _ ⟨.bool (decide (2 < p0.a)), .int .i64 p0.a, .pointer (some ⟨b1, 2, none⟩), Z, (by rw [g166, Bool.false_or])⟩
       ·intro kk
        refine bcase (b := decide (p0.d ≠ 4)) (fun g167 => ?_) (fun g167 => ?_)
        ·skip
         refine U.p (v := .pointer (some ⟨b1, 1, none⟩)) Z Z (.inr ⟨_, _, _, Z, Z, ((L 0 Z Z).trans (cB g167))⟩) (S.fieldAddr Z (L 43 Z Z) Tryd.underlying50 Z ti3 Z Z) ?_
         refine U.k Z Z (.inr ⟨_, _, _, Z, Z, ((L 1 Z Z).trans (cB g167))⟩) (S.load Z (L 0 Z Z) Tryd.underlying3 Z ((ow57.own (k := 1) Z).cell Z)) nd ?_
         refine U.p Z Z (.inr ⟨_, _, _, Z, Z, ((L 2 Z Z).trans (cB g167))⟩) (S.neqI Z (L 0 Z Z) K) ?_
         refine U.p Z Z (.inr ⟨_, _, _, Z, Z, ((L 7 Z Z).trans (cB g153))⟩) (S.pickT Z ((L 3 Z Z).trans (cB g167)) (L 0 Z Z)) ?_
         exact kk [(48, .bool (decide (p0.d ≠ 12))), (47, .bool (decide (p0.d ≠ 12))), (46, .int .i64 p0.d), (45, .pointer (some ⟨b1, 1, none⟩))] _ ⟨.bool (decide (p0.d ≠ 12)), .int .i64 p0.d, .pointer (some ⟨b1, 1, none⟩), Z, (by rw [g167, Bool.true_and])⟩
        ·skip
         refine U.x Z Z Z Z ((L 0 Z Z).trans (cB g167)) (by decide) ?_
         refine U.x Z Z Z Z ((L 1 Z Z).trans (cB g167)) (by decide) ?_
         refine U.x Z Z Z Z ((L 2 Z Z).trans (cB g167)) (by decide) ?_
         refine U.p Z Z (.inr ⟨_, _, _, Z, Z, ((L 7 Z Z).trans (cB g153))⟩) (S.pickF Z ((L 3 Z Z).trans (cB g167)) K) ?_
         exact kk [(48, .bool false), (47, .tuple #[]), (46, .tuple #[]), (45, .tuple #[])] _ ⟨.tuple #[], .tuple #[], .tuple #[], Z, (by rw [g167, Bool.false_and])⟩
      ·skip
       refine U.x Z Z Z Z ((L 0 Z Z).trans (cB g153)) (by decide) ?_
       refine U.x Z Z Z Z ((L 1 Z Z).trans (cB g153)) (by decide) ?_
       refine U.x Z Z Z Z ((L 2 Z Z).trans (cB g153)) (by decide) ?_
       refine U.x Z Z Z Z ((L 3 Z Z).trans (cB g153)) (by decide) ?_
       refine U.z Z Z Z Z (L 0 Z Z) ?_
       refine U.z Z Z Z Z (L 1 Z Z) ?_
       refine U.z Z Z Z Z (L 2 Z Z) ?_
       refine U.x Z Z Z Z ((L 7 Z Z).trans (cB g153)) (by decide) ?_
       refine U.x Z Z Z Z ((L 8 Z Z).trans (cB g153)) (by decide) ?_
       refine U.z Z Z Z Z (L 0 Z Z) ?_
       refine U.z Z Z Z Z (L 1 Z Z) ?_
       refine U.z Z Z Z Z (L 2 Z Z) ?_
       refine U.x Z Z Z Z ((L 12 Z Z).trans (cB g153)) (by decide) ?_
       refine U.p Z Z (.inl Z) (S.pickF Z ((L 13 Z Z).trans (cB g153)) K) ?_
       exact kk [(54, .bool false), (53, .tuple #[]), (52, .tuple #[]), (51, .tuple #[]), (50, .tuple #[]), (49, .tuple #[]), (48, .tuple #[]), (47, .tuple #[]), (46, .tuple #[]), (45, .tuple #[]), (44, .tuple #[]), (43, .tuple #[]), (42, .tuple #[]), (41, .tuple #[])] _ ⟨.tuple #[], .tuple #[], .tuple #[], .tuple #[], .tuple #[], .tuple #[], .tuple #[], .tuple #[], .tuple #[], .tuple #[], .tuple #[], .tuple #[], .tuple #[], Z, (by rw [g153, Bool.false_and])⟩
   ·intro kk
    refine bcase (b := y34) (fun g168 => ?_) (fun g168 => ?_)
    ·have h169 := ifT g168 hy47
     refine U.x Z Z Z Z ((L 0 Z Z).trans (cB g168)) (by decide) ?_
     refine U.x Z Z Z Z ((L 1 Z Z).trans (cB g168)) (by decide) ?_
     refine U.x Z Z Z Z ((L 2 Z Z).trans (cB g168)) (by decide) ?_
     refine U.x Z Z Z Z ((L 3 Z Z).trans (cB g168)) (by decide) ?_
     refine U.x Z Z Z Z ((L 4 Z Z).trans (cB g168)) (by decide) ?_
     refine U.x Z Z Z Z ((L 5 Z Z).trans (cB g168)) (by decide) ?_
     refine U.p Z Z (.inl Z) (S.pickT Z ((L 6 Z Z).trans (cB g168)) K) ?_
     have e170 := Option.some.inj h169
     subst e170
     exact kk [(36, .bool true), (35, .tuple #[]), (34, .tuple #[]), (33, .tuple #[]), (32, .tuple #[]), (31, .tuple #[]), (30, .tuple #[])] _ ⟨.tuple #[], .tuple #[], .tuple #[], .tuple #[], .tuple #[], .tuple #[], V43, Z, (.refl _), Z, ow45⟩
    ·have h171 := ifF g168 hy47
     refine U.p (v := .pointer (some ⟨b14, 3, none⟩)) Z Z (.inr ⟨_, _, _, Z, Z, ((L 0 Z Z).trans (cB g168))⟩) (S.fieldAddr Z (L 20 Z Z) Tryd.underlying70 Z ti4 Z Z) ?_
     refine U.k Z Z (.inr ⟨_, _, _, Z, Z, ((L 1 Z Z).trans (cB g168))⟩) (S.load Z (L 0 Z Z) Tryd.underlying4 Z ((ow45.own (k := 0) Z).cell Z)) nd ?_
     refine U.p (v := .pointer (some ⟨b1, 3, none⟩)) Z Z (.inr ⟨_, _, _, Z, Z, ((L 2 Z Z).trans (cB g168))⟩) (S.fieldAddr Z (L 30 Z Z) Tryd.underlying50 Z ti3 Z Z) ?_
     refine U.k Z Z (.inr ⟨_, _, _, Z, Z, ((L 3 Z Z).trans (cB g168))⟩) (S.load Z (L 0 Z Z) Tryd.underlying3 Z ((ow45.own (k := 1) Z).cell Z)) nd ?_
     obtain ⟨x172, hx173, h174⟩ := bindS h171
     refine O.call (V := V43) Z Z (.inr ⟨_, _, _, Z, Z, ((L 4 Z Z).trans (cB g168))⟩) Z en48 (aC (L 2 Z Z) (aC (L 0 Z Z) aN)) (wk_ref02_number V43 _ (gl.up (((((le3.trans le11).trans le16).trans le20).trans le32).trans le44)) x6.1.b p0.b ow45 _ hx173) (fun _ _ _ _ => nd) (fun v175 V176 le177 hp178 => ?_)
     obtain ⟨rfl, ow179⟩ := hp178
     refine U.p Z Z (.inr ⟨_, _, _, Z, Z, ((L 5 Z Z).trans (cB g168))⟩) (S.not Z (L 0 Z Z)) ?_
     refine U.p Z Z (.inl Z) (S.pickF Z ((L 6 Z Z).trans (cB g168)) (L 0 Z Z)) ?_
     have e180 := Option.some.inj h174
     subst e180
     exact kk [(36, .bool (!x172)), (35, .bool (!x172)), (34, .bool x172), (33, .int .i64 p0.b), (32, .pointer (some ⟨b1, 3, none⟩)), (31, .bool x6.1.b), (30, .pointer (some ⟨b14, 3, none⟩))] _ ⟨.bool (!x172), .bool x172, .int .i64 p0.b, .pointer (some ⟨b1, 3, none⟩), .bool x6.1.b, .pointer (some ⟨b14, 3, none⟩), V176, Z, le177, Z, ow179⟩
  ·intro kk
   refine bcase (b := y22) (fun g181 => ?_) (fun g181 => ?_)
   ·have h182 := ifT g181 hy35
    refine U.x Z Z Z Z ((L 0 Z Z).trans (cB g181)) (by decide) ?_
    refine U.x Z Z Z Z ((L 1 Z Z).trans (cB g181)) (by decide) ?_
    refine U.x Z Z Z Z ((L 2 Z Z).trans (cB g181)) (by decide) ?_
    refine U.x Z Z Z Z ((L 3 Z Z).trans (cB g181)) (by decide) ?_
    refine U.x Z Z Z Z ((L 4 Z Z).trans (cB g181)) (by decide) ?_
    refine U.x Z Z Z Z ((L 5 Z Z).trans (cB g181)) (by decide) ?_
    refine U.p Z Z (.inl Z) (S.pickT Z ((L 6 Z Z).trans (cB g181)) K) ?_
    have e183 := Option.some.inj h182
    subst e183
    exact kk [(28, .bool true), (27, .tuple #[]), (26, .tuple #[]), (25, .tuple #[]), (24, .tuple #[]), (23, .tuple #[]), (22, .tuple #[])] _ ⟨.tuple #[], .tuple #[], .tuple #[], .tuple #[], .tuple #[], .tuple #[], V31, Z, (.refl _), Z, ow33⟩
   ·have h184 := ifF g181 hy35
    refine U.p (v := .pointer (some ⟨b14, 2, none⟩)) Z Z (.inr ⟨_, _, _, Z, Z, ((L 0 Z Z).trans (cB g181))⟩) (S.fieldAddr Z (L 12 Z Z) Tryd.underlying70 Z ti4 Z Z) ?_
    refine U.k Z Z (.inr ⟨_, _, _, Z, Z, ((L 1 Z Z).trans (cB g181))⟩) (S.load Z (L 0 Z Z) Tryd.underlying4 Z ((ow33.own (k := 0) Z).cell Z)) nd ?_
    refine U.p (v := .pointer (some ⟨b1, 2, none⟩)) Z Z (.inr ⟨_, _, _, Z, Z, ((L 2 Z Z).trans (cB g181))⟩) (S.fieldAddr Z (L 22 Z Z) Tryd.underlying50 Z ti3 Z Z) ?_
    refine U.k Z Z (.inr ⟨_, _, _, Z, Z, ((L 3 Z Z).trans (cB g181))⟩) (S.load Z (L 0 Z Z) Tryd.underlying3 Z ((ow33.own (k := 1) Z).cell Z)) nd ?_
    obtain ⟨x185, hx186, h187⟩ := bindS h184
    refine O.call (V := V31) Z Z (.inr ⟨_, _, _, Z, Z, ((L 4 Z Z).trans (cB g181))⟩) Z en48 (aC (L 2 Z Z) (aC (L 0 Z Z) aN)) (wk_ref02_number V31 _ (gl.up ((((le3.trans le11).trans le16).trans le20).trans le32)) x6.1.a p0.a ow33 _ hx186) (fun _ _ _ _ => nd) (fun v188 V189 le190 hp191 => ?_)
    obtain ⟨rfl, ow192⟩ := hp191
    refine U.p Z Z (.inr ⟨_, _, _, Z, Z, ((L 5 Z Z).trans (cB g181))⟩) (S.not Z (L 0 Z Z)) ?_
    refine U.p Z Z (.inl Z) (S.pickF Z ((L 6 Z Z).trans (cB g181)) (L 0 Z Z)) ?_
    have e193 := Option.some.inj h187
    subst e193
    exact kk [(28, .bool (!x185)), (27, .bool (!x185)), (26, .bool x185), (25, .int .i64 p0.a), (24, .pointer (some ⟨b1, 2, none⟩)), (23, .bool x6.1.a), (22, .pointer (some ⟨b14, 2, none⟩))] _ ⟨.bool (!x185), .bool x185, .int .i64 p0.a, .pointer (some ⟨b1, 2, none⟩), .bool x6.1.a, .pointer (some ⟨b14, 2, none⟩), V189, Z, le190, Z, ow192⟩
 ·intro kk
  refine bcase (b := !x6.2) (fun g194 => ?_) (fun g194 => ?_)
  ·have h195 := ifT g194 hy23
   have k196 : x6.2 = false := nT g194
   refine U.x Z Z Z Z ((L 0 Z Z).trans (cB g194)) (by decide) ?_
   refine U.x Z Z Z Z ((L 1 Z Z).trans (cB g194)) (by decide) ?_
   refine U.x Z Z Z Z ((L 2 Z Z).trans (cB g194)) (by decide) ?_
   refine U.x Z Z Z Z ((L 3 Z Z).trans (cB g194)) (by decide) ?_
   refine U.x Z Z Z Z ((L 4 Z Z).trans (cB g194)) (by decide) ?_
   refine U.x Z Z Z Z ((L 5 Z Z).trans (cB g194)) (by decide) ?_
   refine U.p Z Z (.inl Z) (S.pickT Z ((L 6 Z Z).trans (cB g194)) K) ?_
   have e197 := Option.some.inj h195
   subst e197
   exact kk [(20, .bool true), (19, .tuple #[]), (18, .tuple #[]), (17, .tuple #[]), (16, .tuple #[]), (15, .tuple #[]), (14, .tuple #[])] _ ⟨.tuple #[], .tuple #[], .tuple #[], .tuple #[], .tuple #[], .tuple #[], V19, Z, (.refl _), Z, ow21⟩
  ·have h198 := ifF g194 hy23
   have k199 : x6.2 = true := nF g194
   refine U.p (v := .pointer (some ⟨b14, 1, none⟩)) Z Z (.inr ⟨_, _, _, Z, Z, ((L 0 Z Z).trans (cB g194))⟩) (S.fieldAddr Z (L 4 Z Z) Tryd.underlying70 Z ti4 Z Z) ?_
   refine U.k Z Z (.inr ⟨_, _, _, Z, Z, ((L 1 Z Z).trans (cB g194))⟩) (S.load Z (L 0 Z Z) Tryd.underlying4 Z ((ow21.own (k := 0) Z).cell Z)) nd ?_
   refine U.p (v := .pointer (some ⟨b1, 1, none⟩)) Z Z (.inr ⟨_, _, _, Z, Z, ((L 2 Z Z).trans (cB g194))⟩) (S.fieldAddr Z (L 14 Z Z) Tryd.underlying50 Z ti3 Z Z) ?_
   refine U.k Z Z (.inr ⟨_, _, _, Z, Z, ((L 3 Z Z).trans (cB g194))⟩) (S.load Z (L 0 Z Z) Tryd.underlying3 Z ((ow21.own (k := 1) Z).cell Z)) nd ?_
   obtain ⟨x200, hx201, h202⟩ := bindS h198
   refine O.call (V := V19) Z Z (.inr ⟨_, _, _, Z, Z, ((L 4 Z Z).trans (cB g194))⟩) Z en48 (aC (L 2 Z Z) (aC (L 0 Z Z) aN)) (wk_ref02_number V19 _ (gl.up (((le3.trans le11).trans le16).trans le20)) x6.1.d p0.d ow21 _ hx201) (fun _ _ _ _ => nd) (fun v203 V204 le205 hp206 => ?_)
   obtain ⟨rfl, ow207⟩ := hp206
   refine U.p Z Z (.inr ⟨_, _, _, Z, Z, ((L 5 Z Z).trans (cB g194))⟩) (S.not Z (L 0 Z Z)) ?_
   refine U.p Z Z (.inl Z) (S.pickF Z ((L 6 Z Z).trans (cB g194)) (L 0 Z Z)) ?_
   have e208 := Option.some.inj h202
   subst e208
   exact kk [(20, .bool (!x200)), (19, .bool (!x200)), (18, .bool x200), (17, .int .i64 p0.d), (16, .pointer (some ⟨b1, 1, none⟩)), (15, .bool x6.1.d), (14, .pointer (some ⟨b14, 1, none⟩))] _ ⟨.bool (!x200), .bool x200, .int .i64 p0.d, .pointer (some ⟨b1, 1, none⟩), .bool x6.1.d, .pointer (some ⟨b14, 1, none⟩), V204, Z, le205, Z, ow207⟩
theorem wk_ref02_Encode (V : Vw) (Rs : List At) (gl : Glb V) (p0 : TInst) (ow : Ow V (Rs)) (r : Int) (h : ref02_Encode p0 = some r) : ∃ v V', Cl Tryd.prog NG 36 #[.agg #[.int .i64 p0.op, .int .i64 p0.d, .int .i64 p0.a, .int .i64 p0.b, .int .i64 p0.imm]] V.H v V'.H ∧ V.le V' ∧ (v = .int .u32 r ∧ Ow V' (Rs)) := by
 refine Ct.of gl.lo Tryd.func36 Z (nr Z) ?_
 unfold ref02_Encode at h
 refine WP.usreg Z ?_
 refine O.box ow Z Z (.inl Z) Z (L 0 Z Z) (by simp [topV]) Z nd (fun b1 V2 le3 ow4 => ?_)
 refine U.p Z Z (.inl Z) (S.assign Z K) ?_
 refine U.done (nr Z) ?_
 refine WP.usreg Z ?_
 refine U.p (v := .pointer (some ⟨b1, 0, none⟩)) Z Z (.inl Z) (S.fieldAddr Z (L 1 Z Z) Tryd.underlying50 Z ti3 Z Z) ?_
 refine U.k Z Z (.inl Z) (S.load Z (L 0 Z Z) Tryd.underlying3 Z ((ow4.own (k := 0) Z).cell Z)) nd ?_
 obtain ⟨x6, hx7, h8⟩ := bindS h
 refine O.call (V := V2) Z Z (.inl Z) Z en32 (aC (L 0 Z Z) aN) (wk_ref02_Of V2 _ (gl.up le3) p0.op ow4 _ hx7) (fun _ _ _ _ => nd) (fun v9 V10 le11 hp12 => ?_)
 obtain ⟨rfl, ow13⟩ := hp12
 refine U.p Z Z (.inl Z) (S.move Z (L 0 Z Z)) ?_
 refine U.p Z Z (.inl Z) (S.extract Z (L 0 Z Z) Z (nr Z)) ?_
 refine U.p Z Z (.inl Z) (S.extract Z (L 1 Z Z) Z (nr Z)) ?_
 refine O.alloc ow13 Z Z (.inl Z) Z ti70 Z Z nd (fun b14 V15 le16 ow17 => ?_)
 refine O.store (k := 0) (cs := [.string x6.1.name, .bool x6.1.d, .bool x6.1.a, .bool x6.1.b, .int .i64 x6.1.imm, .int .u32 x6.1.word]) (c' := [.string x6.1.name, .bool x6.1.d, .bool x6.1.a, .bool x6.1.b, .int .i64 x6.1.imm, .int .u32 x6.1.word]) ow17 Z Z Z (.inl Z) Z (L 0 Z Z) (L 2 Z Z) ti70 (by simp [topV]) Z Z (nr Z) Z Z nd (fun V19 le20 ow21 => ?_)
 refine U.p Z Z (.inl Z) (S.assign Z (L 1 Z Z)) ?_
 refine U.done (nr Z) ?_
 refine WP.usreg Z ?_
 refine U.p (v := .pointer (some ⟨b14, 5, none⟩)) Z Z (.inl Z) (S.fieldAddr Z (L 1 Z Z) Tryd.underlying70 Z ti39 Z Z) ?_
 refine U.k Z Z (.inl Z) (S.load Z (L 0 Z Z) Tryd.underlying39 Z ((ow21.own (k := 0) Z).cell Z)) nd ?_
 refine U.p Z Z (.inl Z) (S.assign Z (L 0 Z Z)) ?_
 refine U.done (nr Z) ?_
 refine WP.usreg Z ?_
 refine U.p Z Z (.inl Z) (S.move Z (L 0 Z Z)) ?_
 refine U.p (v := .pointer (some ⟨b1, 1, none⟩)) Z Z (.inl Z) (S.fieldAddr Z (L 13 Z Z) Tryd.underlying50 Z ti3 Z Z) ?_
 refine U.k Z Z (.inl Z) (S.load Z (L 0 Z Z) Tryd.underlying3 Z ((ow21.own (k := 1) Z).cell Z)) nd ?_
 refine U.p Z Z (.inl Z) (S.conv Z (L 0 Z Z) Tryd.underlying3 Tryd.underlying39) ?_
 refine U.p Z Z (.inl Z) (S.mul Z (L 0 Z Z) K) ?_
 refine U.p Z Z (.inl Z) (S.add Z (L 4 Z Z) (L 0 Z Z)) ?_
 refine U.p (v := .pointer (some ⟨b1, 2, none⟩)) Z Z (.inl Z) (S.fieldAddr Z (L 18 Z Z) Tryd.underlying50 Z ti3 Z Z) ?_
 refine U.k Z Z (.inl Z) (S.load Z (L 0 Z Z) Tryd.underlying3 Z ((ow21.own (k := 1) Z).cell Z)) nd ?_
 refine U.p Z Z (.inl Z) (S.conv Z (L 0 Z Z) Tryd.underlying3 Tryd.underlying39) ?_
 refine U.p Z Z (.inl Z) (S.mul Z (L 0 Z Z) K) ?_
 refine U.p Z Z (.inl Z) (S.add Z (L 4 Z Z) (L 0 Z Z)) ?_
 refine U.p (v := .pointer (some ⟨b1, 3, none⟩)) Z Z (.inl Z) (S.fieldAddr Z (L 23 Z Z) Tryd.underlying50 Z ti3 Z Z) ?_
 refine U.k Z Z (.inl Z) (S.load Z (L 0 Z Z) Tryd.underlying3 Z ((ow21.own (k := 1) Z).cell Z)) nd ?_
 refine U.p Z Z (.inl Z) (S.conv Z (L 0 Z Z) Tryd.underlying3 Tryd.underlying39) ?_
 refine U.p Z Z (.inl Z) (S.mul Z (L 0 Z Z) K) ?_
 refine U.p Z Z (.inl Z) (S.add Z (L 4 Z Z) (L 0 Z Z)) ?_
 refine U.p Z Z (.inl Z) (S.assign Z (L 0 Z Z)) ?_
 refine U.done (nr Z) ?_
 refine WP.seqI (fun l V' => ∃ (x22 : Int), l = [(5, .int .u32 x22)] ∧ V19.le V' ∧ Ow V' (Rs) ∧ ref02_Encode_k1 x22 = some r) ?_ ?_
 ·rintro _ V23 ⟨x22, rfl, le24, ow25, h26⟩
  unfold ref02_Encode_k1 at h26
  refine WP.usreg Z ?_
  refine U.p Z Z (.inl Z) (S.move Z (L 0 Z Z)) ?_
  refine U.p Z Z (.inl Z) (S.assign Z (L 0 Z Z)) ?_
  refine U.done (nr Z) ?_
  refine WP.ret ?_
  refine fin.slot (.inr Z) Z (L 0 Z Z) ⟨V23, Z, ((((le3.trans le11).trans le16).trans le20).trans le24), ?_⟩
  have e27 := Option.some.inj h26
  subst e27
  exact ⟨rfl, ow25⟩
 ·skip
  refine WP.usreg Z ?_
  refine U.p (v := .pointer (some ⟨b14, 4, none⟩)) Z Z (.inl Z) (S.fieldAddr Z (L 21 Z Z) Tryd.underlying70 Z ti3 Z Z) ?_
  refine U.k Z Z (.inl Z) (S.load Z (L 0 Z Z) Tryd.underlying3 Z ((ow21.own (k := 0) Z).cell Z)) nd ?_
  refine U.done (nr Z) ?_
  refine WP.blk ?_
  refine WP.seqI (fun l V' => ∃ (x28 : Bool), l = [(1, .pointer (some ⟨b1, 0, none⟩)), (5, .int .u32 (IntKind.wrap .u32 ((IntKind.wrap .u32 ((IntKind.wrap .u32 (x6.1.word + (IntKind.wrap .u32 ((IntKind.wrap .u32 p0.d) * 2097152)))) + (IntKind.wrap .u32 ((IntKind.wrap .u32 p0.a) * 65536)))) + (IntKind.wrap .u32 ((IntKind.wrap .u32 p0.b) * 2048))))), (31, .int .i64 x6.1.imm), (32, .bool x28)] ∧ V19.le V' ∧ Ow V' (.pt b1 (.cells 0 [.int .i64 p0.op, .int .i64 p0.d, .int .i64 p0.a, .int .i64 p0.b, .int .i64 p0.imm]) :: Rs) ∧ ref02_Encode_k2 p0 x6 x28 = some r) ?_ ?_
  ·rintro _ V29 ⟨x28, rfl, le30, ow31, h32⟩
   unfold ref02_Encode_k2 at h32
   refine WP.cond _ (L 3 Z Z) Z (fun c33 => ?_) (fun c33 => ?_)
   ·have h34 := ifT c33 h32
    refine WP.ureg Z ?_
    refine U.p Z Z (.inl Z) (S.move Z (L 1 Z Z)) ?_
    refine U.p (v := .pointer (some ⟨b1, 4, none⟩)) Z Z (.inl Z) (S.fieldAddr Z (L 1 Z Z) Tryd.underlying50 Z ti3 Z Z) ?_
    refine U.k Z Z (.inl Z) (S.load Z (L 0 Z Z) Tryd.underlying3 Z ((ow31.own (k := 0) Z).cell Z)) nd ?_
    refine U.p Z Z (.inl Z) (S.add Z (L 0 Z Z) K) ?_
    obtain ⟨x35, hx36, h37⟩ := bindS h34
    refine U.p Z Z (.inl Z) (S.rem hx36 Z (L 0 Z Z) K) ?_
    refine U.p Z Z (.inl Z) (S.conv Z (L 0 Z Z) Tryd.underlying3 Tryd.underlying39) ?_
    refine U.p Z Z (.inl Z) (S.add Z (L 5 Z Z) (L 0 Z Z)) ?_
    refine U.p Z Z (.inl Z) (S.assign Z (L 0 Z Z)) ?_
    refine U.done (nr Z) ?_
    refine blkN (sqN ?_)
    have ow38 := ow31.drop 0 Z
    exact ⟨_, V29, Z, ⟨IntKind.wrap .u32 ((IntKind.wrap .u32 ((IntKind.wrap .u32 ((IntKind.wrap .u32 (x6.1.word + (IntKind.wrap .u32 ((IntKind.wrap .u32 p0.d) * 2097152)))) + (IntKind.wrap .u32 ((IntKind.wrap .u32 p0.a) * 65536)))) + (IntKind.wrap .u32 ((IntKind.wrap .u32 p0.b) * 2048)))) + (IntKind.wrap .u32 x35)), Z, le30, ow38, h37⟩, (allCons (L 0 Z Z) allNil)⟩
   ·have h39 := ifF c33 h32
    refine WP.usreg Z ?_
    refine U.p Z Z (.inl Z) (S.eqlI Z (L 2 Z Z) K) ?_
    refine U.p Z Z (.inl Z) (S.assign Z (L 0 Z Z)) ?_
    refine U.done (nr Z) ?_
    refine WP.cond _ (L 0 Z Z) Z (fun c40 => ?_) (fun c40 => ?_)
    ·have h41 := ifT c40 h39
     refine WP.ureg Z ?_
     refine U.p Z Z (.inl Z) (S.move Z (L 3 Z Z)) ?_
     refine U.p (v := .pointer (some ⟨b1, 4, none⟩)) Z Z (.inl Z) (S.fieldAddr Z (L 3 Z Z) Tryd.underlying50 Z ti3 Z Z) ?_
     refine U.k Z Z (.inl Z) (S.load Z (L 0 Z Z) Tryd.underlying3 Z ((ow31.own (k := 0) Z).cell Z)) nd ?_
     refine U.p Z Z (.inl Z) (S.mul Z K (L 0 Z Z)) ?_
     refine U.p Z Z (.inl Z) (S.add Z (L 0 Z Z) K) ?_
     obtain ⟨x42, hx43, h44⟩ := bindS h41
     refine U.p Z Z (.inl Z) (S.rem hx43 Z (L 0 Z Z) K) ?_
     refine U.p Z Z (.inl Z) (S.conv Z (L 0 Z Z) Tryd.underlying3 Tryd.underlying39) ?_
     refine U.p Z Z (.inl Z) (S.add Z (L 6 Z Z) (L 0 Z Z)) ?_
     refine U.p Z Z (.inl Z) (S.assign Z (L 0 Z Z)) ?_
     refine U.done (nr Z) ?_
     refine blkN (sqN ?_)
     have ow45 := ow31.drop 0 Z
     exact ⟨_, V29, Z, ⟨IntKind.wrap .u32 ((IntKind.wrap .u32 ((IntKind.wrap .u32 ((IntKind.wrap .u32 (x6.1.word + (IntKind.wrap .u32 ((IntKind.wrap .u32 p0.d) * 2097152)))) + (IntKind.wrap .u32 ((IntKind.wrap .u32 p0.a) * 65536)))) + (IntKind.wrap .u32 ((IntKind.wrap .u32 p0.b) * 2048)))) + (IntKind.wrap .u32 x42)), Z, le30, ow45, h44⟩, (allCons (L 0 Z Z) allNil)⟩
    ·have h46 := ifF c40 h39
     refine WP.usreg Z ?_
     refine U.p Z Z (.inl Z) (S.eqlI Z (L 4 Z Z) K) ?_
     refine U.p Z Z (.inl Z) (S.assign Z (L 0 Z Z)) ?_
     refine U.done (nr Z) ?_
     refine WP.cond _ (L 0 Z Z) Z (fun c47 => ?_) (fun c47 => ?_)
     ·have h48 := ifT c47 h46
      refine WP.ureg Z ?_
      refine U.p Z Z (.inl Z) (S.move Z (L 5 Z Z)) ?_
      refine U.p (v := .pointer (some ⟨b1, 4, none⟩)) Z Z (.inl Z) (S.fieldAddr Z (L 5 Z Z) Tryd.underlying50 Z ti3 Z Z) ?_
      refine U.k Z Z (.inl Z) (S.load Z (L 0 Z Z) Tryd.underlying3 Z ((ow31.own (k := 0) Z).cell Z)) nd ?_
      refine U.p Z Z (.inl Z) (S.mul Z K (L 0 Z Z)) ?_
      refine U.p Z Z (.inl Z) (S.add Z (L 0 Z Z) K) ?_
      obtain ⟨x49, hx50, h51⟩ := bindS h48
      refine U.p Z Z (.inl Z) (S.rem hx50 Z (L 0 Z Z) K) ?_
      refine U.p Z Z (.inl Z) (S.conv Z (L 0 Z Z) Tryd.underlying3 Tryd.underlying39) ?_
      refine U.p Z Z (.inl Z) (S.add Z (L 6 Z Z) (L 0 Z Z)) ?_
      refine U.p Z Z (.inl Z) (S.assign Z (L 0 Z Z)) ?_
      refine U.done (nr Z) ?_
      refine blkN (sqN ?_)
      have ow52 := ow31.drop 0 Z
      exact ⟨_, V29, Z, ⟨IntKind.wrap .u32 ((IntKind.wrap .u32 ((IntKind.wrap .u32 ((IntKind.wrap .u32 (x6.1.word + (IntKind.wrap .u32 ((IntKind.wrap .u32 p0.d) * 2097152)))) + (IntKind.wrap .u32 ((IntKind.wrap .u32 p0.a) * 65536)))) + (IntKind.wrap .u32 ((IntKind.wrap .u32 p0.b) * 2048)))) + (IntKind.wrap .u32 x49)), Z, le30, ow52, h51⟩, (allCons (L 0 Z Z) allNil)⟩
     ·have h53 := ifF c47 h46
      refine WP.skip ?_
      refine blkN (sqN ?_)
      have ow54 := ow31.drop 0 Z
      exact ⟨_, V29, Z, ⟨IntKind.wrap .u32 ((IntKind.wrap .u32 ((IntKind.wrap .u32 (x6.1.word + (IntKind.wrap .u32 ((IntKind.wrap .u32 p0.d) * 2097152)))) + (IntKind.wrap .u32 ((IntKind.wrap .u32 p0.a) * 65536)))) + (IntKind.wrap .u32 ((IntKind.wrap .u32 p0.b) * 2048))), Z, le30, ow54, h53⟩, (allCons (L 5 Z Z) allNil)⟩
  ·skip
   refine WP.usreg Z ?_
   refine U.p Z Z (.inl Z) (S.eqlI Z (L 0 Z Z) K) ?_
   refine U.p Z Z (.inl Z) (S.assign Z (L 0 Z Z)) ?_
   refine U.done (nr Z) ?_
   refine WP.cond _ (L 0 Z Z) Z (fun c55 => ?_) (fun c55 => ?_)
   ·have h56 := ifT c55 h8
    refine WP.skip ?_
    refine sqN ?_
    have ow57 := ow21.drop 0 Z
    exact ⟨_, V19, Z, ⟨true, Z, (.refl _), ow57, h56⟩, (allCons (L 33 Z Z) (allCons (L 4 Z Z) (allCons (L 2 Z Z) (allCons ((L 0 Z Z).trans (cB c55)) allNil))))⟩
   ·have h58 := ifF c55 h8
    refine WP.ureg Z ?_
    refine U.p Z Z (.inl Z) (S.eqlI Z (L 2 Z Z) K) ?_
    refine U.p Z Z (.inl Z) (S.assign Z (L 0 Z Z)) ?_
    refine U.done (nr Z) ?_
    refine sqN ?_
    have ow59 := ow21.drop 0 Z
    exact ⟨_, V19, Z, ⟨decide (x6.1.imm = 16), Z, (.refl _), ow59, h58⟩, (allCons (L 35 Z Z) (allCons (L 6 Z Z) (allCons (L 4 Z Z) (allCons (L 0 Z Z) allNil))))⟩
theorem wk_ref02_Decode (V : Vw) (Rs : List At) (gl : Glb V) (p0 : Int) (ow : Ow V (Rs)) (r : TInst × Bool) (h : ref02_Decode p0 = some r) : ∃ v V', Cl Tryd.prog NG 22 #[.int .u32 p0] V.H v V'.H ∧ V.le V' ∧ (v = .tuple #[.agg #[.int .i64 r.1.op, .int .i64 r.1.d, .int .i64 r.1.a, .int .i64 r.1.b, .int .i64 r.1.imm], .bool r.2] ∧ Ow V' (Rs)) := by
 refine Ct.of gl.lo Tryd.func22 Z (nr Z) ?_
 unfold ref02_Decode at h
 refine WP.usreg Z ?_
 refine O.alloc ow Z Z (.inl Z) Z ti50 Z Z nd (fun b1 V2 le3 ow4 => ?_)
 refine U.p Z Z (.inl Z) (S.assign Z K) ?_
 refine U.done (nr Z) ?_
 refine WP.seq ?_
 refine WP.usreg Z ?_
 refine U.p Z Z (.inl Z) (S.assign Z K) ?_
 refine U.done (nr Z) ?_
 refine WP.blk ?_
 unfold ref02_Decode_l1 at h
 obtain ⟨n8, hn7⟩ := loopO_some.1 h
 refine WP.loopI2 (fun n l V' => ∃ (x6 : Int), l = [(0, .int .u32 p0), (2, .pointer (some ⟨b1, 0, none⟩)), (4, .int .i64 x6)] ∧ V2.le V' ∧ Ow V' (.pt b1 (.cells 5 [.int .i64 0, .int .i64 0, .int .i64 0, .int .i64 0, .int .i64 0]) :: Rs) ∧ itO (fun s => ref02_Decode_l1b p0 s) n x6 = some r) n8 _ ⟨1, Z, .refl _, ow4, hn7⟩ (allCons (L 3 Z Z) (allCons (L 2 Z Z) (allCons (L 0 Z Z) allNil))) ?_
 rintro _ _ V9 ⟨x6, rfl, le10, ow11, h15⟩
 obtain ⟨m12, q13, rfl, h16, e14⟩ := itS h15
 replace h16 : ref02_Decode_l1b p0 x6 = some q13 := h16
 unfold ref02_Decode_l1b at h16
 refine WP.seq ?_
 refine WP.usreg Z ?_
 refine U.p Z Z (.inl Z) (S.move Z (L 2 Z Z)) ?_
 refine U.p Z Z (.inl Z) (S.leq Z (L 0 Z Z) K) ?_
 refine U.done (nr Z) ?_
 refine WP.cond _ (L 0 Z Z) Z (fun c17 => ?_) (fun c17 => ?_)
 ·have h18 := ifT c17 h16
  refine WP.skip ?_
  refine sqN ?_
  refine WP.seq ?_
  refine WP.blk ?_
  refine WP.usreg Z ?_
  refine U.p Z Z (.inl Z) (S.move Z (L 4 Z Z)) ?_
  obtain ⟨x19, hx20, h21⟩ := bindS h18
  refine O.call (V := V9) Z Z (.inl Z) Z en32 (aC (L 0 Z Z) aN) (wk_ref02_Of V9 _ (gl.up (le3.trans le10)) x6 ow11 _ hx20) (fun _ _ _ _ => nd) (fun v22 V23 le24 hp25 => ?_)
  obtain ⟨rfl, ow26⟩ := hp25
  refine U.p Z Z (.inl Z) (S.move Z (L 0 Z Z)) ?_
  refine U.p Z Z (.inl Z) (S.extract Z (L 0 Z Z) Z (nr Z)) ?_
  refine U.p Z Z (.inl Z) (S.extract Z (L 1 Z Z) Z (nr Z)) ?_
  refine O.alloc ow26 Z Z (.inl Z) Z ti70 Z Z nd (fun b27 V28 le29 ow30 => ?_)
  refine O.store (k := 0) (cs := [.string x19.1.name, .bool x19.1.d, .bool x19.1.a, .bool x19.1.b, .int .i64 x19.1.imm, .int .u32 x19.1.word]) (c' := [.string x19.1.name, .bool x19.1.d, .bool x19.1.a, .bool x19.1.b, .int .i64 x19.1.imm, .int .u32 x19.1.word]) ow30 Z Z Z (.inl Z) Z (L 0 Z Z) (L 2 Z Z) ti70 (by simp [topV]) Z Z (nr Z) Z Z nd (fun V32 le33 ow34 => ?_)
  refine U.p Z Z (.inl Z) (S.assign Z (L 1 Z Z)) ?_
  refine U.done (nr Z) ?_
  refine WP.usreg Z ?_
  refine U.p Z Z (.inl Z) (S.move Z (L 11 Z Z)) ?_
  refine U.p (v := .agg #[.int .i64 x6, .int .i64 0, .int .i64 0, .int .i64 0, .int .i64 0]) Z Z (.inl Z) (S.build (vs := [.int .i64 x6]) Z ti50 Z pl50 (aC (L 0 Z Z) aN) (allC (by simp [topV]) allN) Z) ?_
  refine O.alloc ow34 Z Z (.inl Z) Z ti50 Z Z nd (fun b35 V36 le37 ow38 => ?_)
  refine O.store (k := 0) (cs := [.int .i64 x6, .int .i64 0, .int .i64 0, .int .i64 0, .int .i64 0]) (c' := [.int .i64 x6, .int .i64 0, .int .i64 0, .int .i64 0, .int .i64 0]) ow38 Z Z Z (.inl Z) Z (L 0 Z Z) (L 1 Z Z) ti50 (by simp [topV]) Z Z (nr Z) Z Z nd (fun V40 le41 ow42 => ?_)
  refine U.done (nr Z) ?_
  refine WP.seqI (fun l V' => ∃ (x43 : Int), l = [(0, .int .u32 p0), (2, .pointer (some ⟨b1, 0, none⟩)), (4, .int .i64 x6), (5, .pointer (some ⟨b27, 0, none⟩)), (7, .pointer (some ⟨b35, 0, none⟩))] ∧ V40.le V' ∧ Ow V' (.pt b1 (.cells 5 [.int .i64 0, .int .i64 0, .int .i64 0, .int .i64 0, .int .i64 0]) :: .pt b27 (.cells 6 [.string x19.1.name, .bool x19.1.d, .bool x19.1.a, .bool x19.1.b, .int .i64 x19.1.imm, .int .u32 x19.1.word]) :: .pt b35 (.cells 5 [.int .i64 x6, .int .i64 x43, .int .i64 0, .int .i64 0, .int .i64 0]) :: Rs) ∧ ref02_Decode_k1 p0 x6 x19 x43 = some q13) ?_ ?_
  ·rintro _ V44 ⟨x43, rfl, le45, ow46, h47⟩
   unfold ref02_Decode_k1 at h47
   refine WP.seqI (fun l V' => ∃ (x48 : Int), l = [(0, .int .u32 p0), (2, .pointer (some ⟨b1, 0, none⟩)), (4, .int .i64 x6), (5, .pointer (some ⟨b27, 0, none⟩)), (7, .pointer (some ⟨b35, 0, none⟩))] ∧ V44.le V' ∧ Ow V' (.pt b1 (.cells 5 [.int .i64 0, .int .i64 0, .int .i64 0, .int .i64 0, .int .i64 0]) :: .pt b27 (.cells 6 [.string x19.1.name, .bool x19.1.d, .bool x19.1.a, .bool x19.1.b, .int .i64 x19.1.imm, .int .u32 x19.1.word]) :: .pt b35 (.cells 5 [.int .i64 x6, .int .i64 x43, .int .i64 x48, .int .i64 0, .int .i64 0]) :: Rs) ∧ ref02_Decode_k2 p0 x6 x19 x43 x48 = some q13) ?_ ?_
   ·rintro _ V49 ⟨x48, rfl, le50, ow51, h52⟩
    unfold ref02_Decode_k2 at h52
    refine WP.seqI (fun l V' => ∃ (x53 : Int), l = [(0, .int .u32 p0), (2, .pointer (some ⟨b1, 0, none⟩)), (4, .int .i64 x6), (5, .pointer (some ⟨b27, 0, none⟩)), (7, .pointer (some ⟨b35, 0, none⟩))] ∧ V49.le V' ∧ Ow V' (.pt b1 (.cells 5 [.int .i64 0, .int .i64 0, .int .i64 0, .int .i64 0, .int .i64 0]) :: .pt b27 (.cells 6 [.string x19.1.name, .bool x19.1.d, .bool x19.1.a, .bool x19.1.b, .int .i64 x19.1.imm, .int .u32 x19.1.word]) :: .pt b35 (.cells 5 [.int .i64 x6, .int .i64 x43, .int .i64 x48, .int .i64 x53, .int .i64 0]) :: Rs) ∧ ref02_Decode_k3 p0 x6 x19 x43 x48 x53 = some q13) ?_ ?_
    ·rintro _ V54 ⟨x53, rfl, le55, ow56, h57⟩
     unfold ref02_Decode_k3 at h57
     refine WP.seqI (fun l V' => ∃ (x58 : Int), l = [(0, .int .u32 p0), (2, .pointer (some ⟨b1, 0, none⟩)), (4, .int .i64 x6), (7, .pointer (some ⟨b35, 0, none⟩))] ∧ V54.le V' ∧ Ow V' (.pt b1 (.cells 5 [.int .i64 0, .int .i64 0, .int .i64 0, .int .i64 0, .int .i64 0]) :: .pt b35 (.cells 5 [.int .i64 x6, .int .i64 x43, .int .i64 x48, .int .i64 x53, .int .i64 x58]) :: Rs) ∧ ref02_Decode_k4 p0 x6 x43 x48 x53 x58 = some q13) ?_ ?_
     ·rintro _ V59 ⟨x58, rfl, le60, ow61, h62⟩
      unfold ref02_Decode_k4 at h62
      refine WP.usreg Z ?_
      refine U.k Z Z (.inl Z) (S.loadB Z (L 3 Z Z) Tryd.underlying50 Z ti50 (ow61.own (k := 1) Z).get Z) nd ?_
      obtain ⟨x63, hx64, h65⟩ := bindS h62
      refine O.call (V := V59) Z Z (.inl Z) Z en35 (aC (L 0 Z Z) aN) (wk_ref02_Good V59 _ (gl.up ((((((((((le3.trans le10).trans le24).trans le29).trans le33).trans le37).trans le41).trans le45).trans le50).trans le55).trans le60)) (⟨x6, x43, x48, x53, x58⟩ : TInst) ow61 _ hx64) (fun _ _ _ _ => nd) (fun v66 V67 le68 hp69 => ?_)
      obtain ⟨rfl, ow70⟩ := hp69
      refine U.p Z Z (.inl Z) (S.move Z (L 0 Z Z)) ?_
      obtain ⟨y71, hy72, h73⟩ := bindS h65
      refine U.joinX 8 (fun e H => ∃ (u74 u75 u76 u77 : Value), ∃ V' : Vw, H = V'.H ∧ V67.le V' ∧ e = [(70, .bool y71), (69, u74), (68, u75), (67, u76), (66, u77)] ∧ Ow V' (.pt b1 (.cells 5 [.int .i64 0, .int .i64 0, .int .i64 0, .int .i64 0, .int .i64 0]) :: .pt b35 (.cells 5 [.int .i64 x6, .int .i64 x43, .int .i64 x48, .int .i64 x53, .int .i64 x58]) :: Rs)) ?_ ?_
      ·rintro _ _ ⟨u74, u75, u76, u77, V78, rfl, le79, rfl, ow80⟩
       refine U.done (nr Z) ?_
       refine WP.cond _ (L 0 Z Z) Z (fun c81 => ?_) (fun c81 => ?_)
       ·have h82 := ifT c81 h73
        refine WP.usreg Z ?_
        refine U.k Z Z (.inl Z) (S.loadB Z (L 11 Z Z) Tryd.underlying50 Z ti50 (ow80.own (k := 1) Z).get Z) nd ?_
        refine O.store (k := 0) (cs := [.int .i64 x6, .int .i64 x43, .int .i64 x48, .int .i64 x53, .int .i64 x58]) (c' := [.int .i64 x6, .int .i64 x43, .int .i64 x48, .int .i64 x53, .int .i64 x58]) ow80 Z Z Z (.inl Z) Z (L 10 Z Z) (L 0 Z Z) ti50 (by simp [topV]) Z Z (nr Z) Z Z nd (fun V83 le84 ow85 => ?_)
        refine U.p Z Z (.inl Z) (S.assign Z K) ?_
        refine U.done (nr Z) ?_
        refine WP.ret ?_
        refine blkR (sqR (sqR (blkR (sqR ?_))))
        have h86 := exitS h82 e14
        refine fin.mix (.inr Z) (resA (L 11 Z Z) Tryd.underlying50 Z ti50 (ow85.own (k := 0) Z).get Z (resT (L 0 Z Z) res0)) Z ⟨V83, Z, (((((((((((((le3.trans le10).trans le24).trans le29).trans le33).trans le37).trans le41).trans le45).trans le50).trans le55).trans le60).trans le68).trans le79).trans le84), ?_⟩
        have ow87 := ow85.drop 0 Z
        have ow88 := ow87.drop 0 Z
        have e89 := Option.some.inj h86
        subst e89
        exact ⟨rfl, ow88⟩
       ·have h90 := ifF c81 h73
        refine WP.skip ?_
        refine blkN (sqN ?_)
        refine WP.ureg Z ?_
        refine U.p Z Z (.inl Z) (S.move Z (L 10 Z Z)) ?_
        refine U.p Z Z (.inl Z) (S.add Z (L 0 Z Z) K) ?_
        refine U.p Z Z (.inl Z) (S.assign Z (L 0 Z Z)) ?_
        refine U.done (nr Z) ?_
        refine sqN ?_
        have ow91 := ow80.drop 1 Z
        exact ⟨_, V78, Z, ⟨m12, Nat.lt_succ_self _, w64 (x6 + 1), Z, (((((((((((le10.trans le24).trans le29).trans le33).trans le37).trans le41).trans le45).trans le50).trans le55).trans le60).trans le68).trans le79), ow91, backS h90 e14⟩, (allCons (L 11 Z Z) (allCons (L 12 Z Z) (allCons (L 0 Z Z) allNil)))⟩
      ·intro kk
       refine bcase (b := x63) (fun g92 => ?_) (fun g92 => ?_)
       ·have h93 := ifT g92 hy72
        refine U.k Z Z (.inr ⟨_, _, _, Z, Z, ((L 0 Z Z).trans (cB g92))⟩) (S.loadB Z (L 6 Z Z) Tryd.underlying50 Z ti50 (ow70.own (k := 1) Z).get Z) nd ?_
        obtain ⟨x94, hx95, h96⟩ := bindS h93
        refine O.call (V := V67) Z Z (.inr ⟨_, _, _, Z, Z, ((L 1 Z Z).trans (cB g92))⟩) Z en36 (aC (L 0 Z Z) aN) (wk_ref02_Encode V67 _ (gl.up (((((((((((le3.trans le10).trans le24).trans le29).trans le33).trans le37).trans le41).trans le45).trans le50).trans le55).trans le60).trans le68)) (⟨x6, x43, x48, x53, x58⟩ : TInst) ow70 _ hx95) (fun _ _ _ _ => nd) (fun v97 V98 le99 hp100 => ?_)
        obtain ⟨rfl, ow101⟩ := hp100
        refine U.p Z Z (.inr ⟨_, _, _, Z, Z, ((L 2 Z Z).trans (cB g92))⟩) (S.move Z (L 5 Z Z)) ?_
        refine U.p Z Z (.inr ⟨_, _, _, Z, Z, ((L 3 Z Z).trans (cB g92))⟩) (S.eqlI Z (L 1 Z Z) (L 0 Z Z)) ?_
        refine U.p Z Z (.inl Z) (S.pickT Z ((L 4 Z Z).trans (cB g92)) (L 0 Z Z)) ?_
        have e102 := Option.some.inj h96
        subst e102
        exact kk [(70, .bool (decide (x94 = p0))), (69, .bool (decide (x94 = p0))), (68, .int .u32 p0), (67, .int .u32 x94), (66, .agg #[.int .i64 x6, .int .i64 x43, .int .i64 x48, .int .i64 x53, .int .i64 x58])] _ ⟨.bool (decide (x94 = p0)), .int .u32 p0, .int .u32 x94, .agg #[.int .i64 x6, .int .i64 x43, .int .i64 x48, .int .i64 x53, .int .i64 x58], V98, Z, le99, Z, ow101⟩
       ·have h103 := ifF g92 hy72
        refine U.x Z Z Z Z ((L 0 Z Z).trans (cB g92)) (by decide) ?_
        refine U.x Z Z Z Z ((L 1 Z Z).trans (cB g92)) (by decide) ?_
        refine U.x Z Z Z Z ((L 2 Z Z).trans (cB g92)) (by decide) ?_
        refine U.x Z Z Z Z ((L 3 Z Z).trans (cB g92)) (by decide) ?_
        refine U.p Z Z (.inl Z) (S.pickF Z ((L 4 Z Z).trans (cB g92)) K) ?_
        have e104 := Option.some.inj h103
        subst e104
        exact kk [(70, .bool false), (69, .tuple #[]), (68, .tuple #[]), (67, .tuple #[]), (66, .tuple #[])] _ ⟨.tuple #[], .tuple #[], .tuple #[], .tuple #[], V67, Z, (.refl _), Z, ow70⟩
     ·skip
      refine WP.usreg Z ?_
      refine U.p (v := .pointer (some ⟨b27, 4, none⟩)) Z Z (.inl Z) (S.fieldAddr Z (L 3 Z Z) Tryd.underlying70 Z ti3 Z Z) ?_
      refine U.k Z Z (.inl Z) (S.load Z (L 0 Z Z) Tryd.underlying3 Z ((ow56.own (k := 1) Z).cell Z)) nd ?_
      refine U.done (nr Z) ?_
      refine WP.blk ?_
      refine WP.usreg Z ?_
      refine U.p Z Z (.inl Z) (S.eqlI Z (L 0 Z Z) K) ?_
      refine U.p Z Z (.inl Z) (S.assign Z (L 0 Z Z)) ?_
      refine U.done (nr Z) ?_
      refine WP.cond _ (L 0 Z Z) Z (fun c105 => ?_) (fun c105 => ?_)
      ·have h106 := ifT c105 h57
       refine WP.ureg Z ?_
       refine U.p Z Z (.inl Z) (S.move Z (L 4 Z Z)) ?_
       obtain ⟨x107, hx108, h109⟩ := bindS h106
       refine O.call (V := V54) Z Z (.inl Z) Z en34 (aC (L 0 Z Z) (aC K aN)) (wk_ref01_Signed V54 _ (gl.up (((((((((le3.trans le10).trans le24).trans le29).trans le33).trans le37).trans le41).trans le45).trans le50).trans le55)) p0 16 ow56 _ hx108) (fun _ _ _ _ => nd) (fun v110 V111 le112 hp113 => ?_)
       obtain ⟨rfl, ow114⟩ := hp113
       refine U.p (v := .pointer (some ⟨b35, 4, none⟩)) Z Z (.inl Z) (S.fieldAddr Z (L 10 Z Z) Tryd.underlying50 Z ti3 Z Z) ?_
       refine O.store (k := 2) (cs := [.int .i64 x107]) (c' := [.int .i64 x6, .int .i64 x43, .int .i64 x48, .int .i64 x53, .int .i64 x107]) ow114 Z Z Z (.inl Z) Z (L 0 Z Z) (L 1 Z Z) ti3 (by simp [topV]) Z Z (nr Z) Z Z nd (fun V115 le116 ow117 => ?_)
       refine U.done (nr Z) ?_
       refine blkN (sqN ?_)
       have ow118 := ow117.drop 1 Z
       exact ⟨_, V115, Z, ⟨x107, Z, (le112.trans le116), ow118, h109⟩, (allCons (L 7 Z Z) (allCons (L 8 Z Z) (allCons (L 9 Z Z) (allCons (L 11 Z Z) allNil))))⟩
      ·have h119 := ifF c105 h57
       refine WP.usreg Z ?_
       refine U.p Z Z (.inl Z) (S.eqlI Z (L 2 Z Z) K) ?_
       refine U.p Z Z (.inl Z) (S.assign Z (L 0 Z Z)) ?_
       refine U.done (nr Z) ?_
       refine WP.cond _ (L 0 Z Z) Z (fun c120 => ?_) (fun c120 => ?_)
       ·have h121 := ifT c120 h119
        refine WP.ureg Z ?_
        refine U.p Z Z (.inl Z) (S.move Z (L 6 Z Z)) ?_
        obtain ⟨x122, hx123, h124⟩ := bindS h121
        refine O.call (V := V54) Z Z (.inl Z) Z en33 (aC (L 0 Z Z) (aC K (aC K aN))) (wk_ref01_Get V54 _ (gl.up (((((((((le3.trans le10).trans le24).trans le29).trans le33).trans le37).trans le41).trans le45).trans le50).trans le55)) p0 16 14 ow56 _ hx123) (fun _ _ _ _ => nd) (fun v125 V126 le127 hp128 => ?_)
        obtain ⟨rfl, ow129⟩ := hp128
        obtain ⟨x130, hx131, h132⟩ := bindS h124
        refine O.call (V := V126) Z Z (.inl Z) Z en34 (aC (L 0 Z Z) (aC K aN)) (wk_ref01_Signed V126 _ (gl.up ((((((((((le3.trans le10).trans le24).trans le29).trans le33).trans le37).trans le41).trans le45).trans le50).trans le55).trans le127)) x122 14 ow129 _ hx131) (fun _ _ _ _ => nd) (fun v133 V134 le135 hp136 => ?_)
        obtain ⟨rfl, ow137⟩ := hp136
        refine U.p Z Z (.inl Z) (S.mul Z K (L 0 Z Z)) ?_
        refine U.p (v := .pointer (some ⟨b35, 4, none⟩)) Z Z (.inl Z) (S.fieldAddr Z (L 14 Z Z) Tryd.underlying50 Z ti3 Z Z) ?_
        refine O.store (k := 2) (cs := [.int .i64 (w64 (4 * x130))]) (c' := [.int .i64 x6, .int .i64 x43, .int .i64 x48, .int .i64 x53, .int .i64 (w64 (4 * x130))]) ow137 Z Z Z (.inl Z) Z (L 0 Z Z) (L 1 Z Z) ti3 (by simp [topV]) Z Z (nr Z) Z Z nd (fun V138 le139 ow140 => ?_)
        refine U.done (nr Z) ?_
        refine blkN (sqN ?_)
        have ow141 := ow140.drop 1 Z
        exact ⟨_, V138, Z, ⟨w64 (4 * x130), Z, ((le127.trans le135).trans le139), ow141, h132⟩, (allCons (L 11 Z Z) (allCons (L 12 Z Z) (allCons (L 13 Z Z) (allCons (L 15 Z Z) allNil))))⟩
       ·have h142 := ifF c120 h119
        refine WP.usreg Z ?_
        refine U.p Z Z (.inl Z) (S.eqlI Z (L 4 Z Z) K) ?_
        refine U.p Z Z (.inl Z) (S.assign Z (L 0 Z Z)) ?_
        refine U.done (nr Z) ?_
        refine WP.cond _ (L 0 Z Z) Z (fun c143 => ?_) (fun c143 => ?_)
        ·have h144 := ifT c143 h142
         refine WP.ureg Z ?_
         refine U.p Z Z (.inl Z) (S.move Z (L 8 Z Z)) ?_
         obtain ⟨x145, hx146, h147⟩ := bindS h144
         refine O.call (V := V54) Z Z (.inl Z) Z en33 (aC (L 0 Z Z) (aC K (aC K aN))) (wk_ref01_Get V54 _ (gl.up (((((((((le3.trans le10).trans le24).trans le29).trans le33).trans le37).trans le41).trans le45).trans le50).trans le55)) p0 16 14 ow56 _ hx146) (fun _ _ _ _ => nd) (fun v148 V149 le150 hp151 => ?_)
         obtain ⟨rfl, ow152⟩ := hp151
         obtain ⟨x153, hx154, h155⟩ := bindS h147
         refine O.call (V := V149) Z Z (.inl Z) Z en34 (aC (L 0 Z Z) (aC K aN)) (wk_ref01_Signed V149 _ (gl.up ((((((((((le3.trans le10).trans le24).trans le29).trans le33).trans le37).trans le41).trans le45).trans le50).trans le55).trans le150)) x145 14 ow152 _ hx154) (fun _ _ _ _ => nd) (fun v156 V157 le158 hp159 => ?_)
         obtain ⟨rfl, ow160⟩ := hp159
         refine U.p (v := .pointer (some ⟨b35, 4, none⟩)) Z Z (.inl Z) (S.fieldAddr Z (L 15 Z Z) Tryd.underlying50 Z ti3 Z Z) ?_
         refine O.store (k := 2) (cs := [.int .i64 x153]) (c' := [.int .i64 x6, .int .i64 x43, .int .i64 x48, .int .i64 x53, .int .i64 x153]) ow160 Z Z Z (.inl Z) Z (L 0 Z Z) (L 1 Z Z) ti3 (by simp [topV]) Z Z (nr Z) Z Z nd (fun V161 le162 ow163 => ?_)
         refine U.done (nr Z) ?_
         refine blkN (sqN ?_)
         have ow164 := ow163.drop 1 Z
         exact ⟨_, V161, Z, ⟨x153, Z, ((le150.trans le158).trans le162), ow164, h155⟩, (allCons (L 12 Z Z) (allCons (L 13 Z Z) (allCons (L 14 Z Z) (allCons (L 16 Z Z) allNil))))⟩
        ·have h165 := ifF c143 h142
         refine WP.usreg Z ?_
         refine U.p Z Z (.inl Z) (S.eqlI Z (L 6 Z Z) K) ?_
         refine U.p Z Z (.inl Z) (S.assign Z (L 0 Z Z)) ?_
         refine U.done (nr Z) ?_
         refine WP.cond _ (L 0 Z Z) Z (fun c166 => ?_) (fun c166 => ?_)
         ·have h167 := ifT c166 h165
          refine WP.ureg Z ?_
          refine U.p Z Z (.inl Z) (S.move Z (L 10 Z Z)) ?_
          obtain ⟨x168, hx169, h170⟩ := bindS h167
          refine O.call (V := V54) Z Z (.inl Z) Z en33 (aC (L 0 Z Z) (aC K (aC K aN))) (wk_ref01_Get V54 _ (gl.up (((((((((le3.trans le10).trans le24).trans le29).trans le33).trans le37).trans le41).trans le45).trans le50).trans le55)) p0 6 24 ow56 _ hx169) (fun _ _ _ _ => nd) (fun v171 V172 le173 hp174 => ?_)
          obtain ⟨rfl, ow175⟩ := hp174
          obtain ⟨x176, hx177, h178⟩ := bindS h170
          refine O.call (V := V172) Z Z (.inl Z) Z en34 (aC (L 0 Z Z) (aC K aN)) (wk_ref01_Signed V172 _ (gl.up ((((((((((le3.trans le10).trans le24).trans le29).trans le33).trans le37).trans le41).trans le45).trans le50).trans le55).trans le173)) x168 24 ow175 _ hx177) (fun _ _ _ _ => nd) (fun v179 V180 le181 hp182 => ?_)
          obtain ⟨rfl, ow183⟩ := hp182
          refine U.p (v := .pointer (some ⟨b35, 4, none⟩)) Z Z (.inl Z) (S.fieldAddr Z (L 17 Z Z) Tryd.underlying50 Z ti3 Z Z) ?_
          refine O.store (k := 2) (cs := [.int .i64 x176]) (c' := [.int .i64 x6, .int .i64 x43, .int .i64 x48, .int .i64 x53, .int .i64 x176]) ow183 Z Z Z (.inl Z) Z (L 0 Z Z) (L 1 Z Z) ti3 (by simp [topV]) Z Z (nr Z) Z Z nd (fun V184 le185 ow186 => ?_)
          refine U.done (nr Z) ?_
          refine blkN (sqN ?_)
          have ow187 := ow186.drop 1 Z
          exact ⟨_, V184, Z, ⟨x176, Z, ((le173.trans le181).trans le185), ow187, h178⟩, (allCons (L 14 Z Z) (allCons (L 15 Z Z) (allCons (L 16 Z Z) (allCons (L 18 Z Z) allNil))))⟩
         ·have h188 := ifF c166 h165
          refine WP.skip ?_
          refine blkN (sqN ?_)
          have ow189 := ow56.drop 1 Z
          exact ⟨_, V54, Z, ⟨0, Z, (.refl _), ow189, h188⟩, (allCons (L 10 Z Z) (allCons (L 11 Z Z) (allCons (L 12 Z Z) (allCons (L 14 Z Z) allNil))))⟩
    ·skip
     refine WP.usreg Z ?_
     refine U.p (v := .pointer (some ⟨b27, 3, none⟩)) Z Z (.inl Z) (S.fieldAddr Z (L 3 Z Z) Tryd.underlying70 Z ti4 Z Z) ?_
     refine U.k Z Z (.inl Z) (S.load Z (L 0 Z Z) Tryd.underlying4 Z ((ow51.own (k := 1) Z).cell Z)) nd ?_
     refine U.done (nr Z) ?_
     refine WP.cond _ (L 0 Z Z) Z (fun c190 => ?_) (fun c190 => ?_)
     ·have h191 := ifT c190 h52
      refine WP.ureg Z ?_
      refine U.p Z Z (.inl Z) (S.move Z (L 2 Z Z)) ?_
      obtain ⟨x192, hx193, h194⟩ := bindS h191
      refine O.call (V := V49) Z Z (.inl Z) Z en33 (aC (L 0 Z Z) (aC K (aC K aN))) (wk_ref01_Get V49 _ (gl.up ((((((((le3.trans le10).trans le24).trans le29).trans le33).trans le37).trans le41).trans le45).trans le50)) p0 16 5 ow51 _ hx193) (fun _ _ _ _ => nd) (fun v195 V196 le197 hp198 => ?_)
      obtain ⟨rfl, ow199⟩ := hp198
      refine U.p Z Z (.inl Z) (S.conv Z (L 0 Z Z) Tryd.underlying39 Tryd.underlying3) ?_
      refine U.p (v := .pointer (some ⟨b35, 3, none⟩)) Z Z (.inl Z) (S.fieldAddr Z (L 9 Z Z) Tryd.underlying50 Z ti3 Z Z) ?_
      refine O.store (k := 2) (cs := [.int .i64 (w64 x192)]) (c' := [.int .i64 x6, .int .i64 x43, .int .i64 x48, .int .i64 (w64 x192), .int .i64 0]) ow199 Z Z Z (.inl Z) Z (L 0 Z Z) (L 1 Z Z) ti3 (by simp [topV]) Z Z (nr Z) Z Z nd (fun V200 le201 ow202 => ?_)
      refine U.done (nr Z) ?_
      refine sqN ?_
      exact ⟨_, V200, Z, ⟨w64 x192, Z, (le197.trans le201), ow202, h194⟩, (allCons (L 6 Z Z) (allCons (L 7 Z Z) (allCons (L 8 Z Z) (allCons (L 9 Z Z) (allCons (L 10 Z Z) allNil)))))⟩
     ·have h203 := ifF c190 h52
      refine WP.skip ?_
      refine sqN ?_
      exact ⟨_, V49, Z, ⟨0, Z, (.refl _), ow51, h203⟩, (allCons (L 2 Z Z) (allCons (L 3 Z Z) (allCons (L 4 Z Z) (allCons (L 5 Z Z) (allCons (L 6 Z Z) allNil)))))⟩
   ·skip
    refine WP.usreg Z ?_
    refine U.p (v := .pointer (some ⟨b27, 2, none⟩)) Z Z (.inl Z) (S.fieldAddr Z (L 3 Z Z) Tryd.underlying70 Z ti4 Z Z) ?_
    refine U.k Z Z (.inl Z) (S.load Z (L 0 Z Z) Tryd.underlying4 Z ((ow46.own (k := 1) Z).cell Z)) nd ?_
    refine U.done (nr Z) ?_
    refine WP.cond _ (L 0 Z Z) Z (fun c204 => ?_) (fun c204 => ?_)
    ·have h205 := ifT c204 h47
     refine WP.ureg Z ?_
     refine U.p Z Z (.inl Z) (S.move Z (L 2 Z Z)) ?_
     obtain ⟨x206, hx207, h208⟩ := bindS h205
     refine O.call (V := V44) Z Z (.inl Z) Z en33 (aC (L 0 Z Z) (aC K (aC K aN))) (wk_ref01_Get V44 _ (gl.up (((((((le3.trans le10).trans le24).trans le29).trans le33).trans le37).trans le41).trans le45)) p0 11 5 ow46 _ hx207) (fun _ _ _ _ => nd) (fun v209 V210 le211 hp212 => ?_)
     obtain ⟨rfl, ow213⟩ := hp212
     refine U.p Z Z (.inl Z) (S.conv Z (L 0 Z Z) Tryd.underlying39 Tryd.underlying3) ?_
     refine U.p (v := .pointer (some ⟨b35, 2, none⟩)) Z Z (.inl Z) (S.fieldAddr Z (L 9 Z Z) Tryd.underlying50 Z ti3 Z Z) ?_
     refine O.store (k := 2) (cs := [.int .i64 (w64 x206)]) (c' := [.int .i64 x6, .int .i64 x43, .int .i64 (w64 x206), .int .i64 0, .int .i64 0]) ow213 Z Z Z (.inl Z) Z (L 0 Z Z) (L 1 Z Z) ti3 (by simp [topV]) Z Z (nr Z) Z Z nd (fun V214 le215 ow216 => ?_)
     refine U.done (nr Z) ?_
     refine sqN ?_
     exact ⟨_, V214, Z, ⟨w64 x206, Z, (le211.trans le215), ow216, h208⟩, (allCons (L 6 Z Z) (allCons (L 7 Z Z) (allCons (L 8 Z Z) (allCons (L 9 Z Z) (allCons (L 10 Z Z) allNil)))))⟩
    ·have h217 := ifF c204 h47
     refine WP.skip ?_
     refine sqN ?_
     exact ⟨_, V44, Z, ⟨0, Z, (.refl _), ow46, h217⟩, (allCons (L 2 Z Z) (allCons (L 3 Z Z) (allCons (L 4 Z Z) (allCons (L 5 Z Z) (allCons (L 6 Z Z) allNil)))))⟩
  ·skip
   refine WP.usreg Z ?_
   refine U.p (v := .pointer (some ⟨b27, 1, none⟩)) Z Z (.inl Z) (S.fieldAddr Z (L 4 Z Z) Tryd.underlying70 Z ti4 Z Z) ?_
   refine U.k Z Z (.inl Z) (S.load Z (L 0 Z Z) Tryd.underlying4 Z ((ow42.own (k := 1) Z).cell Z)) nd ?_
   refine U.done (nr Z) ?_
   refine WP.cond _ (L 0 Z Z) Z (fun c218 => ?_) (fun c218 => ?_)
   ·have h219 := ifT c218 h21
    refine WP.ureg Z ?_
    refine U.p Z Z (.inl Z) (S.move Z (L 14 Z Z)) ?_
    obtain ⟨x220, hx221, h222⟩ := bindS h219
    refine O.call (V := V40) Z Z (.inl Z) Z en33 (aC (L 0 Z Z) (aC K (aC K aN))) (wk_ref01_Get V40 _ (gl.up ((((((le3.trans le10).trans le24).trans le29).trans le33).trans le37).trans le41)) p0 6 5 ow42 _ hx221) (fun _ _ _ _ => nd) (fun v223 V224 le225 hp226 => ?_)
    obtain ⟨rfl, ow227⟩ := hp226
    refine U.p Z Z (.inl Z) (S.conv Z (L 0 Z Z) Tryd.underlying39 Tryd.underlying3) ?_
    refine U.p (v := .pointer (some ⟨b35, 1, none⟩)) Z Z (.inl Z) (S.fieldAddr Z (L 5 Z Z) Tryd.underlying50 Z ti3 Z Z) ?_
    refine O.store (k := 0) (cs := [.int .i64 (w64 x220)]) (c' := [.int .i64 x6, .int .i64 (w64 x220), .int .i64 0, .int .i64 0, .int .i64 0]) ow227 Z Z Z (.inl Z) Z (L 0 Z Z) (L 1 Z Z) ti3 (by simp [topV]) Z Z (nr Z) Z Z nd (fun V228 le229 ow230 => ?_)
    refine U.done (nr Z) ?_
    refine sqN ?_
    have ow231 := ow230.pick 0 Z
    have ow232 := ow231.pick 1 Z
    have ow233 := ow232.pick 2 Z
    exact ⟨_, V228, Z, ⟨w64 x220, Z, (le225.trans le229), ow233, h222⟩, (allCons (L 18 Z Z) (allCons (L 19 Z Z) (allCons (L 20 Z Z) (allCons (L 10 Z Z) (allCons (L 6 Z Z) allNil)))))⟩
   ·have h234 := ifF c218 h21
    refine WP.skip ?_
    refine sqN ?_
    have ow235 := ow42.pick 0 Z
    have ow236 := ow235.pick 1 Z
    have ow237 := ow236.pick 2 Z
    exact ⟨_, V40, Z, ⟨0, Z, (.refl _), ow237, h234⟩, (allCons (L 14 Z Z) (allCons (L 15 Z Z) (allCons (L 16 Z Z) (allCons (L 6 Z Z) (allCons (L 2 Z Z) allNil)))))⟩
 ·have h238 := ifF c17 h16
  refine WP.exit ?_
  refine sqE (sqE (blkE (sqN ?_)))
  have h239 := exitS h238 e14
  refine WP.usreg Z ?_
  refine U.p (v := .agg #[.int .i64 0, .int .i64 0, .int .i64 0, .int .i64 0, .int .i64 0]) Z Z (.inl Z) (S.build (vs := []) Z ti50 Z pl50 aN allN Z) ?_
  refine O.store (k := 0) (cs := [.int .i64 0, .int .i64 0, .int .i64 0, .int .i64 0, .int .i64 0]) (c' := [.int .i64 0, .int .i64 0, .int .i64 0, .int .i64 0, .int .i64 0]) ow11 Z Z Z (.inl Z) Z (L 4 Z Z) (L 0 Z Z) ti50 (by simp [topV]) Z Z (nr Z) Z Z nd (fun V240 le241 ow242 => ?_)
  refine U.p Z Z (.inl Z) (S.assign Z K) ?_
  refine U.done (nr Z) ?_
  refine WP.ret ?_
  refine fin.mix (.inr Z) (resA (L 5 Z Z) Tryd.underlying50 Z ti50 (ow242.own (k := 0) Z).get Z (resT (L 0 Z Z) res0)) Z ⟨V240, Z, ((le3.trans le10).trans le241), ?_⟩
  have ow243 := ow242.drop 0 Z
  have e244 := Option.some.inj h239
  subst e244
  exact ⟨rfl, ow243⟩
theorem wk_ref15_Good (V : Vw) (Rs : List At) (gl : Glb V) (p0 : TImage) (v1 : Value) (v3 : Value) (v5 : Value) (f2 : Fz (RT.int .u32) V v1 p0.code) (f4 : Fz RT_TNote V v3 p0.notes) (f6 : Fz (RT.int .i64) V v5 p0.threads) (ow : Ow V (Rs)) (r : Bool) (h : ref15_Good p0 = some r) : ∃ v V', Cl Tryd.prog NG 12 #[.agg #[v1, v3, v5]] V.H v V'.H ∧ V.le V' ∧ (v = .bool r ∧ Ow V' (Rs)) := by
 refine Ct.of gl.lo Tryd.func12 Z (nr Z) ?_
 unfold ref15_Good at h
 refine WP.usreg Z ?_
 refine O.box ow Z Z (.inl Z) Z (L 0 Z Z) (by simp [topV]) Z nd (fun b7 V8 le9 ow10 => ?_)
 refine U.p Z Z (.inl Z) (S.assign Z K) ?_
 refine U.done (nr Z) ?_
 refine WP.usreg Z ?_
 refine U.p (v := .pointer (some ⟨b7, 0, none⟩)) Z Z (.inl Z) (S.fieldAddr Z (L 1 Z Z) Tryd.underlying27 Z ti23 Z Z) ?_
 refine U.k Z Z (.inl Z) (S.load Z (L 0 Z Z) Tryd.underlying23 Z ((ow10.own (k := 0) Z).cell Z)) nd ?_
 refine U.p Z Z (.inl Z) (f2.1.len Z (L 0 Z Z) Tryd.underlying23) ?_
 refine U.p Z Z (.inl Z) (S.assign Z (L 0 Z Z)) ?_
 refine U.done (nr Z) ?_
 refine WP.seq ?_
 refine WP.usreg Z ?_
 refine U.p Z Z (.inl Z) (S.move Z (L 0 Z Z)) ?_
 refine U.p Z Z (.inl Z) (S.lss Z (L 0 Z Z) K) ?_
 refine U.p Z Z (.inl Z) (S.move Z (L 0 Z Z)) ?_
 refine U.joinX 6 (fun e H => ∃ (u12 u13 : Value), H = V8.H ∧ e = [(22, .bool ((decide ((p0.code.length : Int) < 1)) || (decide (8000 < (p0.code.length : Int))))), (21, u12), (20, u13)]) ?_ ?_
 ·rintro _ _ ⟨u12, u13, rfl, rfl⟩
  refine U.p Z Z (.inl Z) (S.move Z (L 0 Z Z)) ?_
  refine U.joinX 13 (fun e H => ∃ (u17 u18 u19 u20 u21 : Value), H = V8.H ∧ e = [(29, .bool (((decide ((p0.code.length : Int) < 1)) || (decide (8000 < (p0.code.length : Int)))) || (decide ((p0.notes.length : Int) ≠ (p0.code.length : Int))))), (28, u17), (27, u18), (26, u19), (25, u20), (24, u21)]) ?_ ?_
  ·rintro _ _ ⟨u17, u18, u19, u20, u21, rfl, rfl⟩
   refine U.p Z Z (.inl Z) (S.move Z (L 0 Z Z)) ?_
   refine U.joinX 19 (fun e H => ∃ (u25 u26 u27 u28 : Value), H = V8.H ∧ e = [(35, .bool ((((decide ((p0.code.length : Int) < 1)) || (decide (8000 < (p0.code.length : Int)))) || (decide ((p0.notes.length : Int) ≠ (p0.code.length : Int)))) || (decide (8 < (p0.threads.length : Int))))), (34, u25), (33, u26), (32, u27), (31, u28)]) ?_ ?_
   ·rintro _ _ ⟨u25, u26, u27, u28, rfl, rfl⟩
    refine U.done (nr Z) ?_
    refine WP.cond _ (L 0 Z Z) Z (fun c32 => ?_) (fun c32 => ?_)
    ·have h33 := ifT c32 h
     refine WP.usreg Z ?_
     refine U.p Z Z (.inl Z) (S.assign Z K) ?_
     refine U.done (nr Z) ?_
     refine WP.ret ?_
     refine sqR ?_
     refine fin.slot (.inr Z) Z (L 0 Z Z) ⟨V8, Z, le9, ?_⟩
     have ow34 := ow10.drop 0 Z
     have e35 := Option.some.inj h33
     subst e35
     exact ⟨rfl, ow34⟩
    ·have h36 := ifF c32 h
     refine WP.skip ?_
     refine sqN ?_
     refine WP.seq ?_
     refine WP.usreg Z ?_
     refine U.p (v := .pointer (some ⟨b7, 0, none⟩)) Z Z (.inl Z) (S.fieldAddr Z (L 24 Z Z) Tryd.underlying27 Z ti23 Z Z) ?_
     refine U.k Z Z (.inl Z) (S.load Z (L 0 Z Z) Tryd.underlying23 Z ((ow10.own (k := 0) Z).cell Z)) nd ?_
     refine U.p Z Z (.inl Z) (f2.1.len Z (L 0 Z Z) Tryd.underlying23) ?_
     refine U.p Z Z (.inl Z) (S.move Z K) ?_
     refine U.done (nr Z) ?_
     refine WP.blk ?_
     unfold ref15_Good_l1 at h36
     obtain ⟨n39, hn38⟩ := loopO_some.1 h36
     refine WP.loopI2 (fun n l V' => ∃ (x37 : Int), l = [(1, .pointer (some ⟨b7, 0, none⟩)), (3, .int .i64 (p0.code.length : Int)), (38, .int .i64 (p0.code.length : Int)), (39, .int .i64 x37)] ∧ V8.le V' ∧ Ow V' (.pt b7 (.cells 0 [v1, v3, v5]) :: Rs) ∧ itO (fun s => ref15_Good_l1b p0 s) n x37 = some r) n39 _ ⟨0, Z, .refl _, ow10, hn38⟩ (allCons (L 28 Z Z) (allCons (L 23 Z Z) (allCons (L 1 Z Z) (allCons (L 0 Z Z) allNil)))) ?_
     rintro _ _ V40 ⟨x37, rfl, le41, ow42, h46⟩
     obtain ⟨m43, q44, rfl, h47, e45⟩ := itS h46
     replace h47 : ref15_Good_l1b p0 x37 = some q44 := h47
     unfold ref15_Good_l1b at h47
     refine WP.usreg Z ?_
     refine U.p Z Z (.inl Z) (S.lss Z (L 3 Z Z) (L 2 Z Z)) ?_
     refine U.done (nr Z) ?_
     refine WP.seq ?_
     refine WP.cond _ (L 0 Z Z) Z (fun c48 => ?_) (fun c48 => ?_)
     ·have h49 := ifT c48 h47
      refine WP.skip ?_
      refine sqN ?_
      refine WP.seq ?_
      refine WP.blk ?_
      refine WP.usreg Z ?_
      refine U.p Z Z (.inl Z) (S.move Z (L 4 Z Z)) ?_
      refine U.p Z Z (.inl Z) (S.assign Z (L 0 Z Z)) ?_
      refine U.done (nr Z) ?_
      refine WP.usreg Z ?_
      refine U.p (v := .pointer (some ⟨b7, 0, none⟩)) Z Z (.inl Z) (S.fieldAddr Z (L 3 Z Z) Tryd.underlying27 Z ti23 Z Z) ?_
      refine U.k Z Z (.inl Z) (S.load Z (L 0 Z Z) Tryd.underlying23 Z ((ow42.own (k := 0) Z).cell Z)) nd ?_
      refine U.p Z Z (.inl Z) (S.move Z (L 2 Z Z)) ?_
      obtain ⟨x50, hx51, h52⟩ := bindS h49
      obtain ⟨b53, o54, c55, cs56, hv57, hf58, hr59, hc60⟩ := f2.at hx51
      obtain rfl : cs56 = [.int .u32 x50] := hr59
      refine U.p Z Z (.inl Z) (S.index Z ((L 1 Z Z).trans hv57) (L 0 Z Z) Tryd.underlying23 ti39 (ix_ge hx51) (ix_lt hx51)) ?_
      refine U.k Z Z (.inl Z) (S.load Z (L 0 Z Z) Tryd.underlying39 Z ((le9.trans le41).cell hf58 (hc60 0 _ Z))) nd ?_
      obtain ⟨x61, hx62, h63⟩ := bindS h52
      refine O.call (V := V40) Z Z (.inl Z) Z en22 (aC (L 0 Z Z) aN) (wk_ref02_Decode V40 _ (gl.up (le9.trans le41)) x50 ow42 _ hx62) (fun _ _ _ _ => nd) (fun v64 V65 le66 hp67 => ?_)
      obtain ⟨rfl, ow68⟩ := hp67
      refine U.p Z Z (.inl Z) (S.move Z (L 0 Z Z)) ?_
      refine U.p Z Z (.inl Z) (S.extract Z (L 0 Z Z) Z (nr Z)) ?_
      refine U.p Z Z (.inl Z) (S.extract Z (L 1 Z Z) Z (nr Z)) ?_
      refine O.alloc ow68 Z Z (.inl Z) Z ti50 Z Z nd (fun b69 V70 le71 ow72 => ?_)
      refine O.store (k := 0) (cs := [.int .i64 x61.1.op, .int .i64 x61.1.d, .int .i64 x61.1.a, .int .i64 x61.1.b, .int .i64 x61.1.imm]) (c' := [.int .i64 x61.1.op, .int .i64 x61.1.d, .int .i64 x61.1.a, .int .i64 x61.1.b, .int .i64 x61.1.imm]) ow72 Z Z Z (.inl Z) Z (L 0 Z Z) (L 2 Z Z) ti50 (by simp [topV]) Z Z (nr Z) Z Z nd (fun V74 le75 ow76 => ?_)
      refine U.p Z Z (.inl Z) (S.assign Z (L 1 Z Z)) ?_
      refine U.done (nr Z) ?_
      refine WP.seq ?_
      refine WP.usreg Z ?_
      refine U.p Z Z (.inl Z) (S.move Z (L 0 Z Z)) ?_
      refine U.p Z Z (.inl Z) (S.not Z (L 0 Z Z)) ?_
      refine U.done (nr Z) ?_
      refine WP.cond _ (L 0 Z Z) Z (fun c77 => ?_) (fun c77 => ?_)
      ·have h78 := ifT c77 h63
       have k79 : x61.2 = false := nT c77
       refine WP.usreg Z ?_
       refine U.p Z Z (.inl Z) (S.assign Z K) ?_
       refine U.done (nr Z) ?_
       refine WP.ret ?_
       refine sqR (blkR (sqR (sqR (blkR (sqR ?_)))))
       have h80 := exitS h78 e45
       refine fin.slot (.inr Z) Z (L 0 Z Z) ⟨V74, Z, ((((le9.trans le41).trans le66).trans le71).trans le75), ?_⟩
       have ow81 := ow76.drop 0 Z
       have ow82 := ow81.drop 0 Z
       have e83 := Option.some.inj h80
       subst e83
       exact ⟨rfl, ow82⟩
      ·have h84 := ifF c77 h63
       have k85 : x61.2 = true := nF c77
       refine WP.skip ?_
       refine sqN ?_
       refine WP.seq ?_
       refine WP.usreg Z ?_
       refine U.p (v := .pointer (some ⟨b69, 0, none⟩)) Z Z (.inl Z) (S.fieldAddr Z (L 3 Z Z) Tryd.underlying50 Z ti3 Z Z) ?_
       refine U.k Z Z (.inl Z) (S.load Z (L 0 Z Z) Tryd.underlying3 Z ((ow76.own (k := 0) Z).cell Z)) nd ?_
       refine U.p Z Z (.inl Z) (S.geq Z (L 0 Z Z) K) ?_
       refine U.p Z Z (.inl Z) (S.move Z (L 0 Z Z)) ?_
       refine U.joinX 8 (fun e H => ∃ (u86 u87 u88 : Value), H = V74.H ∧ e = [(60, .bool ((decide (10 ≤ x61.1.op)) && (decide (x61.1.op ≤ 12)))), (59, u86), (58, u87), (57, u88)]) ?_ ?_
       ·rintro _ _ ⟨u86, u87, u88, rfl, rfl⟩
        refine U.p Z Z (.inl Z) (S.move Z (L 0 Z Z)) ?_
        refine U.joinX 23 (fun e H => ∃ (u92 u93 u94 u95 u96 u97 u98 u99 u100 u101 u102 u103 u104 : Value), H = V74.H ∧ e = [(75, .bool (((decide (10 ≤ x61.1.op)) && (decide (x61.1.op ≤ 12))) && ((decide ((w64 (x37 + x61.1.imm)) < 0)) || (decide ((p0.code.length : Int) ≤ (w64 (x37 + x61.1.imm))))))), (74, u92), (73, u93), (72, u94), (71, u95), (70, u96), (69, u97), (68, u98), (67, u99), (66, u100), (65, u101), (64, u102), (63, u103), (62, u104)]) ?_ ?_
        ·rintro _ _ ⟨u92, u93, u94, u95, u96, u97, u98, u99, u100, u101, u102, u103, u104, rfl, rfl⟩
         refine U.done (nr Z) ?_
         refine WP.cond _ (L 0 Z Z) Z (fun c108 => ?_) (fun c108 => ?_)
         ·have h109 := ifT c108 h84
          refine WP.usreg Z ?_
          refine U.p Z Z (.inl Z) (S.assign Z K) ?_
          refine U.done (nr Z) ?_
          refine WP.ret ?_
          refine sqR (blkR (sqR (sqR (blkR (sqR ?_)))))
          have h110 := exitS h109 e45
          refine fin.slot (.inr Z) Z (L 0 Z Z) ⟨V74, Z, ((((le9.trans le41).trans le66).trans le71).trans le75), ?_⟩
          have ow111 := ow76.drop 0 Z
          have ow112 := ow111.drop 0 Z
          have e113 := Option.some.inj h110
          subst e113
          exact ⟨rfl, ow112⟩
         ·have h114 := ifF c108 h84
          refine WP.skip ?_
          refine sqN ?_
          refine WP.usreg Z ?_
          refine U.p (v := .pointer (some ⟨b7, 1, none⟩)) Z Z (.inl Z) (S.fieldAddr Z (L 39 Z Z) Tryd.underlying27 Z ti24 Z Z) ?_
          refine U.k Z Z (.inl Z) (S.load Z (L 0 Z Z) Tryd.underlying24 Z ((ow76.own (k := 1) Z).cell Z)) nd ?_
          refine U.p Z Z (.inl Z) (S.move Z (L 38 Z Z)) ?_
          obtain ⟨x115, hx116, h117⟩ := bindS h114
          obtain ⟨b118, o119, c120, cs121, hv122, hf123, hr124, hc125⟩ := f4.at hx116
          obtain rfl : cs121 = [.int .i64 x115.role, .int .i64 x115.what, .bool x115.volatile, .bool x115.final] := hr124
          refine U.p Z Z (.inl Z) (S.index Z ((L 1 Z Z).trans hv122) (L 0 Z Z) Tryd.underlying24 ti42 (ix_ge hx116) (ix_lt hx116)) ?_
          refine U.k Z Z (.inl Z) (S.loadN (cs := [.int .i64 x115.role, .int .i64 x115.what, .bool x115.volatile, .bool x115.final]) Z (L 0 Z Z) Tryd.underlying42 Z ti42 Z (fun j v hj => ((((le9.trans le41).trans le66).trans le71).trans le75).cell hf123 (hc125 j v hj))) nd ?_
          refine O.alloc ow76 Z Z (.inl Z) Z ti42 Z Z nd (fun b126 V127 le128 ow129 => ?_)
          refine O.store (k := 0) (cs := [.int .i64 x115.role, .int .i64 x115.what, .bool x115.volatile, .bool x115.final]) (c' := [.int .i64 x115.role, .int .i64 x115.what, .bool x115.volatile, .bool x115.final]) ow129 Z Z Z (.inl Z) Z (L 0 Z Z) (L 1 Z Z) ti42 (by simp [topV]) Z Z (nr Z) Z Z nd (fun V131 le132 ow133 => ?_)
          refine U.done (nr Z) ?_
          refine WP.usreg Z ?_
          refine O.lit (R := (RT.int .i64)) ow133 Z Z (.inl Z) Z Tryd.underlying25 ti3 Z Z Z (nr Z) Z (aC K aN) (.cons _ _ 0 _ (by simp [topV]) Z .nil) (fun _ => nd) (fun v134 V135 le136 ow137 => ?_)
          refine U.p Z Z (.inl Z) (S.assign Z (L 0 Z Z)) ?_
          refine U.done (nr Z) ?_
          refine WP.seqI (fun l V' => ∃ (v140 : Value) (xs141 : List Int), l = [(1, .pointer (some ⟨b7, 0, none⟩)), (3, .int .i64 (p0.code.length : Int)), (7, .pointer (some ⟨b126, 0, none⟩)), (8, v140), (38, .int .i64 (p0.code.length : Int)), (39, .int .i64 x37)] ∧ V135.le V' ∧ Ow V' (.pt b7 (.cells 0 [v1, v3, v5]) :: .pt b126 (.cells 4 [.int .i64 x115.role, .int .i64 x115.what, .bool x115.volatile, .bool x115.final]) :: .os (RT.int .i64) v140 xs141 :: Rs) ∧ ref15_Good_k1 x37 x115 xs141 = some q44) ?_ ?_
          ·rintro _ V142 ⟨v140, xs141, rfl, le143, ow144, h145⟩
           unfold ref15_Good_k1 at h145
           refine WP.usreg Z ?_
           refine U.p Z Z (.inl Z) (S.assign Z K) ?_
           refine U.done (nr Z) ?_
           refine WP.seq ?_
           refine WP.usreg Z ?_
           refine U.p Z Z (.inl Z) (S.move Z (L 4 Z Z)) ?_
           refine U.p Z Z (.inl Z) (ow144.oslen (k := 2) Z Z (L 0 Z Z) Tryd.underlying25) ?_
           refine U.p Z Z (.inl Z) (S.move Z K) ?_
           refine U.done (nr Z) ?_
           refine WP.blk ?_
           unfold ref15_Good_l2 at h145
           obtain ⟨n149, hn148⟩ := loopO_some.1 h145
           refine WP.loopI2 (fun n l V' => ∃ (x146 : Bool) (x147 : Int), l = [(1, .pointer (some ⟨b7, 0, none⟩)), (3, .int .i64 (p0.code.length : Int)), (7, .pointer (some ⟨b126, 0, none⟩)), (9, .bool x146), (38, .int .i64 (p0.code.length : Int)), (39, .int .i64 x37), (96, v140), (97, .int .i64 (xs141.length : Int)), (98, .int .i64 x147)] ∧ V142.le V' ∧ Ow V' (.pt b7 (.cells 0 [v1, v3, v5]) :: .pt b126 (.cells 4 [.int .i64 x115.role, .int .i64 x115.what, .bool x115.volatile, .bool x115.final]) :: .os (RT.int .i64) v140 xs141 :: Rs) ∧ itO (fun s => ref15_Good_l2b x37 x115 xs141 s.1 s.2) n (x146, x147) = some q44) n149 _ ⟨false, 0, Z, .refl _, ow144, hn148⟩ (allCons (L 4 Z Z) (allCons (L 5 Z Z) (allCons (L 6 Z Z) (allCons (L 3 Z Z) (allCons (L 8 Z Z) (allCons (L 9 Z Z) (allCons (L 2 Z Z) (allCons (L 1 Z Z) (allCons (L 0 Z Z) allNil))))))))) ?_
           rintro _ _ V150 ⟨x146, x147, rfl, le151, ow152, h156⟩
           obtain ⟨m153, q154, rfl, h157, e155⟩ := itS h156
           replace h157 : ref15_Good_l2b x37 x115 xs141 x146 x147 = some q154 := h157
           unfold ref15_Good_l2b at h157
           refine WP.usreg Z ?_
           refine U.p Z Z (.inl Z) (S.lss Z (L 8 Z Z) (L 7 Z Z)) ?_
           refine U.done (nr Z) ?_
           refine WP.seq ?_
           refine WP.cond _ (L 0 Z Z) Z (fun c158 => ?_) (fun c158 => ?_)
           ·have h159 := ifT c158 h157
            refine WP.skip ?_
            refine sqN ?_
            refine WP.seq ?_
            refine WP.blk ?_
            refine WP.usreg Z ?_
            obtain ⟨x160, hx161, h162⟩ := bindS h159
            obtain ⟨b163, o164, n165, c166, hv167⟩ := ow152.ospt (k := 2) Z hx161
            obtain ⟨_, hv168, _⟩ := ow152.osel (k := 2) Z hv167 hx161
            refine U.p Z Z (.inl Z) (S.index Z ((L 7 Z Z).trans hv168) (L 9 Z Z) Tryd.underlying25 ti3 (ix_ge hx161) (ix_lt hx161)) ?_
            obtain ⟨cs169, hv170, hlt171, hr172, hc173⟩ := ow152.osel (k := 2) Z hv167 hx161
            obtain rfl : cs169 = [.int .i64 x160] := hr172
            refine U.k Z Z (.inl Z) (S.load Z (L 0 Z Z) Tryd.underlying3 Z (hc173 0 _ Z)) nd ?_
            refine U.p Z Z (.inl Z) (S.assign Z (L 0 Z Z)) ?_
            refine U.done (nr Z) ?_
            refine WP.ureg Z ?_
            refine U.p Z Z (.inl Z) (S.move Z (L 7 Z Z)) ?_
            refine U.p Z Z (.inl Z) (S.move Z (L 0 Z Z)) ?_
            refine U.joinX 7 (fun e H => ∃ (u174 u175 u176 u177 : Value), H = V150.H ∧ e = [(108, .bool (x146 || (decide (x160 = x115.role)))), (107, u174), (106, u175), (105, u176), (104, u177)]) ?_ ?_
            ·rintro _ _ ⟨u174, u175, u176, u177, rfl, rfl⟩
             refine U.p Z Z (.inl Z) (S.assign Z (L 0 Z Z)) ?_
             refine U.done (nr Z) ?_
             refine blkN (sqN ?_)
             refine WP.ureg Z ?_
             refine U.p Z Z (.inl Z) (S.add Z (L 20 Z Z) K) ?_
             refine U.p Z Z (.inl Z) (S.move Z (L 0 Z Z)) ?_
             refine U.done (nr Z) ?_
             refine sqN ?_
             exact ⟨_, V150, Z, ⟨m153, Nat.lt_succ_self _, x146 || (decide (x160 = x115.role)), w64 (x147 + 1), Z, le151, ow152, backS h162 e155⟩, (allCons (L 14 Z Z) (allCons (L 15 Z Z) (allCons (L 16 Z Z) (allCons (L 2 Z Z) (allCons (L 18 Z Z) (allCons (L 19 Z Z) (allCons (L 20 Z Z) (allCons (L 21 Z Z) (allCons (L 0 Z Z) allNil)))))))))⟩
            ·intro kk
             refine bcase (b := x146) (fun g181 => ?_) (fun g181 => ?_)
             ·skip
              refine U.x Z Z Z Z ((L 0 Z Z).trans (cB g181)) (by decide) ?_
              refine U.x Z Z Z Z ((L 1 Z Z).trans (cB g181)) (by decide) ?_
              refine U.x Z Z Z Z ((L 2 Z Z).trans (cB g181)) (by decide) ?_
              refine U.x Z Z Z Z ((L 3 Z Z).trans (cB g181)) (by decide) ?_
              refine U.p Z Z (.inl Z) (S.pickT Z ((L 4 Z Z).trans (cB g181)) K) ?_
              exact kk [(108, .bool true), (107, .tuple #[]), (106, .tuple #[]), (105, .tuple #[]), (104, .tuple #[])] _ ⟨.tuple #[], .tuple #[], .tuple #[], .tuple #[], Z, (by rw [g181, Bool.true_or])⟩
             ·skip
              refine U.p Z Z (.inr ⟨_, _, _, Z, Z, ((L 0 Z Z).trans (cB g181))⟩) (S.move Z (L 2 Z Z)) ?_
              refine U.p (v := .pointer (some ⟨b126, 0, none⟩)) Z Z (.inr ⟨_, _, _, Z, Z, ((L 1 Z Z).trans (cB g181))⟩) (S.fieldAddr Z (L 9 Z Z) Tryd.underlying42 Z ti3 Z Z) ?_
              refine U.k Z Z (.inr ⟨_, _, _, Z, Z, ((L 2 Z Z).trans (cB g181))⟩) (S.load Z (L 0 Z Z) Tryd.underlying3 Z ((ow152.own (k := 1) Z).cell Z)) nd ?_
              refine U.p Z Z (.inr ⟨_, _, _, Z, Z, ((L 3 Z Z).trans (cB g181))⟩) (S.eqlI Z (L 2 Z Z) (L 0 Z Z)) ?_
              refine U.p Z Z (.inl Z) (S.pickF Z ((L 4 Z Z).trans (cB g181)) (L 0 Z Z)) ?_
              exact kk [(108, .bool (decide (x160 = x115.role))), (107, .bool (decide (x160 = x115.role))), (106, .int .i64 x115.role), (105, .pointer (some ⟨b126, 0, none⟩)), (104, .int .i64 x160)] _ ⟨.bool (decide (x160 = x115.role)), .int .i64 x115.role, .pointer (some ⟨b126, 0, none⟩), .int .i64 x160, Z, (by rw [g181, Bool.false_or])⟩
           ·have h182 := ifF c158 h157
            refine WP.exit ?_
            refine sqE (sqE (blkE (sqN ?_)))
            have h183 := exitS h182 e155
            refine WP.usreg Z ?_
            refine U.p Z Z (.inl Z) (S.move Z (L 4 Z Z)) ?_
            refine U.p Z Z (.inl Z) (S.not Z (L 0 Z Z)) ?_
            refine U.p Z Z (.inl Z) (S.move Z (L 0 Z Z)) ?_
            refine U.joinX 17 (fun e H => ∃ (u184 u185 u186 u187 u188 u189 u190 u191 u192 u193 u194 u195 u196 : Value), H = V150.H ∧ e = [(126, .bool ((!x146) || ((decide (x115.role = 2)) && ((decide (x115.what < 1)) || (decide (5 < x115.what)))))), (125, u184), (124, u185), (123, u186), (122, u187), (121, u188), (120, u189), (119, u190), (118, u191), (117, u192), (116, u193), (115, u194), (114, u195), (113, u196)]) ?_ ?_
            ·rintro _ _ ⟨u184, u185, u186, u187, u188, u189, u190, u191, u192, u193, u194, u195, u196, rfl, rfl⟩
             refine U.p Z Z (.inl Z) (S.move Z (L 0 Z Z)) ?_
             refine U.joinX 35 (fun e H => ∃ (u200 u201 u202 u203 u204 u205 u206 u207 u208 u209 u210 u211 u212 u213 u214 u215 : Value), H = V150.H ∧ e = [(144, .bool (((!x146) || ((decide (x115.role = 2)) && ((decide (x115.what < 1)) || (decide (5 < x115.what))))) || ((decide (x115.role ≠ 2)) && (((decide (x115.what ≠ 0)) || x115.volatile) || x115.final)))), (143, u200), (142, u201), (141, u202), (140, u203), (139, u204), (138, u205), (137, u206), (136, u207), (135, u208), (134, u209), (133, u210), (132, u211), (131, u212), (130, u213), (129, u214), (128, u215)]) ?_ ?_
             ·rintro _ _ ⟨u200, u201, u202, u203, u204, u205, u206, u207, u208, u209, u210, u211, u212, u213, u214, u215, rfl, rfl⟩
              refine U.done (nr Z) ?_
              refine WP.cond _ (L 0 Z Z) Z (fun c219 => ?_) (fun c219 => ?_)
              ·have h220 := ifT c219 h183
               refine WP.usreg Z ?_
               refine U.p Z Z (.inl Z) (S.assign Z K) ?_
               refine U.done (nr Z) ?_
               refine WP.ret ?_
               refine blkR (sqR (sqR (blkR (sqR ?_))))
               have h221 := exitS h220 e45
               refine fin.slot (.inr Z) Z (L 0 Z Z) ⟨V150, Z, (((((((((le9.trans le41).trans le66).trans le71).trans le75).trans le128).trans le132).trans le136).trans le143).trans le151), ?_⟩
               have ow222 := ow152.drop 0 Z
               have ow223 := ow222.drop 0 Z
               have ow224 := ow223.drop 0 Z
               have e225 := Option.some.inj h221
               subst e225
               exact ⟨rfl, ow224⟩
              ·have h226 := ifF c219 h183
               refine WP.skip ?_
               refine blkN (sqN ?_)
               refine WP.ureg Z ?_
               refine U.p Z Z (.inl Z) (S.add Z (L 41 Z Z) K) ?_
               refine U.p Z Z (.inl Z) (S.move Z (L 0 Z Z)) ?_
               refine U.done (nr Z) ?_
               refine sqN ?_
               have ow227 := ow152.drop 1 Z
               have ow228 := ow227.drop 1 Z
               exact ⟨_, V150, Z, ⟨m43, Nat.lt_succ_self _, w64 (x37 + 1), Z, ((((((((le41.trans le66).trans le71).trans le75).trans le128).trans le132).trans le136).trans le143).trans le151), ow228, backS h226 e45⟩, (allCons (L 38 Z Z) (allCons (L 39 Z Z) (allCons (L 42 Z Z) (allCons (L 0 Z Z) allNil))))⟩
             ·intro kk
              refine bcase (b := (!x146) || ((decide (x115.role = 2)) && ((decide (x115.what < 1)) || (decide (5 < x115.what))))) (fun g229 => ?_) (fun g229 => ?_)
              ·skip
               refine U.x Z Z Z Z ((L 0 Z Z).trans (cB g229)) (by decide) ?_
               refine U.x Z Z Z Z ((L 1 Z Z).trans (cB g229)) (by decide) ?_
               refine U.x Z Z Z Z ((L 2 Z Z).trans (cB g229)) (by decide) ?_
               refine U.x Z Z Z Z ((L 3 Z Z).trans (cB g229)) (by decide) ?_
               refine U.z Z Z Z Z (L 0 Z Z) ?_
               refine U.z Z Z Z Z (L 1 Z Z) ?_
               refine U.z Z Z Z Z (L 2 Z Z) ?_
               refine U.z Z Z Z Z (L 3 Z Z) ?_
               refine U.z Z Z Z Z (L 0 Z Z) ?_
               refine U.z Z Z Z Z (L 1 Z Z) ?_
               refine U.z Z Z Z Z (L 6 Z Z) ?_
               refine U.z Z Z Z Z (L 7 Z Z) ?_
               refine U.z Z Z Z Z (L 0 Z Z) ?_
               refine U.z Z Z Z Z (L 1 Z Z) ?_
               refine U.z Z Z Z Z (L 10 Z Z) ?_
               refine U.x Z Z Z Z ((L 15 Z Z).trans (cB g229)) (by decide) ?_
               refine U.p Z Z (.inl Z) (S.pickT Z ((L 16 Z Z).trans (cB g229)) K) ?_
               exact kk [(144, .bool true), (143, .tuple #[]), (142, .tuple #[]), (141, .tuple #[]), (140, .tuple #[]), (139, .tuple #[]), (138, .tuple #[]), (137, .tuple #[]), (136, .tuple #[]), (135, .tuple #[]), (134, .tuple #[]), (133, .tuple #[]), (132, .tuple #[]), (131, .tuple #[]), (130, .tuple #[]), (129, .tuple #[]), (128, .tuple #[])] _ ⟨.tuple #[], .tuple #[], .tuple #[], .tuple #[], .tuple #[], .tuple #[], .tuple #[], .tuple #[], .tuple #[], .tuple #[], .tuple #[], .tuple #[], .tuple #[], .tuple #[], .tuple #[], .tuple #[], Z, (by rw [g229, Bool.true_or])⟩
              ·skip
               refine U.p (v := .pointer (some ⟨b126, 0, none⟩)) Z Z (.inr ⟨_, _, _, Z, Z, ((L 0 Z Z).trans (cB g229))⟩) (S.fieldAddr Z (L 21 Z Z) Tryd.underlying42 Z ti3 Z Z) ?_
               refine U.k Z Z (.inr ⟨_, _, _, Z, Z, ((L 1 Z Z).trans (cB g229))⟩) (S.load Z (L 0 Z Z) Tryd.underlying3 Z ((ow152.own (k := 1) Z).cell Z)) nd ?_
               refine U.p Z Z (.inr ⟨_, _, _, Z, Z, ((L 2 Z Z).trans (cB g229))⟩) (S.neqI Z (L 0 Z Z) K) ?_
               refine U.p Z Z (.inr ⟨_, _, _, Z, Z, ((L 3 Z Z).trans (cB g229))⟩) (S.move Z (L 0 Z Z)) ?_
               refine U.joinX 34 (fun e H => ∃ (u230 u231 u232 u233 u234 u235 u236 u237 u238 u239 u240 : Value), H = V150.H ∧ e = [(143, .bool ((decide (x115.role ≠ 2)) && (((decide (x115.what ≠ 0)) || x115.volatile) || x115.final))), (142, u230), (141, u231), (140, u232), (139, u233), (138, u234), (137, u235), (136, u236), (135, u237), (134, u238), (133, u239), (132, u240)]) ?_ ?_
               ·rintro _ _ ⟨u230, u231, u232, u233, u234, u235, u236, u237, u238, u239, u240, rfl, rfl⟩
                refine U.p Z Z (.inl Z) (S.pickF Z ((L 16 Z Z).trans (cB g229)) (L 0 Z Z)) ?_
                exact kk [(144, .bool ((decide (x115.role ≠ 2)) && (((decide (x115.what ≠ 0)) || x115.volatile) || x115.final))), (143, .bool ((decide (x115.role ≠ 2)) && (((decide (x115.what ≠ 0)) || x115.volatile) || x115.final))), (142, u230), (141, u231), (140, u232), (139, u233), (138, u234), (137, u235), (136, u236), (135, u237), (134, u238), (133, u239), (132, u240), (131, .bool (decide (x115.role ≠ 2))), (130, .bool (decide (x115.role ≠ 2))), (129, .int .i64 x115.role), (128, .pointer (some ⟨b126, 0, none⟩))] _ ⟨.bool ((decide (x115.role ≠ 2)) && (((decide (x115.what ≠ 0)) || x115.volatile) || x115.final)), u230, u231, u232, u233, u234, u235, u236, u237, u238, u239, u240, .bool (decide (x115.role ≠ 2)), .bool (decide (x115.role ≠ 2)), .int .i64 x115.role, .pointer (some ⟨b126, 0, none⟩), Z, (by rw [g229, Bool.false_or])⟩
               ·intro kk
                refine bcase (b := decide (x115.role ≠ 2)) (fun g244 => ?_) (fun g244 => ?_)
                ·skip
                 refine U.p (v := .pointer (some ⟨b126, 1, none⟩)) Z Z (.inr ⟨_, _, _, Z, Z, ((L 0 Z Z).trans (cB g244))⟩) (S.fieldAddr Z (L 25 Z Z) Tryd.underlying42 Z ti3 Z Z) ?_
                 refine U.k Z Z (.inr ⟨_, _, _, Z, Z, ((L 1 Z Z).trans (cB g244))⟩) (S.load Z (L 0 Z Z) Tryd.underlying3 Z ((ow152.own (k := 1) Z).cell Z)) nd ?_
                 refine U.p Z Z (.inr ⟨_, _, _, Z, Z, ((L 2 Z Z).trans (cB g244))⟩) (S.neqI Z (L 0 Z Z) K) ?_
                 refine U.p Z Z (.inr ⟨_, _, _, Z, Z, ((L 3 Z Z).trans (cB g244))⟩) (S.move Z (L 0 Z Z)) ?_
                 refine U.joinX 29 (fun e H => ∃ (u245 u246 : Value), H = V150.H ∧ e = [(138, .bool ((decide (x115.what ≠ 0)) || x115.volatile)), (137, u245), (136, u246)]) ?_ ?_
                 ·rintro _ _ ⟨u245, u246, rfl, rfl⟩
                  refine U.p Z Z (.inr ⟨_, _, _, Z, Z, ((L 7 Z Z).trans (cB g244))⟩) (S.move Z (L 0 Z Z)) ?_
                  refine U.joinX 33 (fun e H => ∃ (u250 u251 : Value), H = V150.H ∧ e = [(142, .bool (((decide (x115.what ≠ 0)) || x115.volatile) || x115.final)), (141, u250), (140, u251)]) ?_ ?_
                  ·rintro _ _ ⟨u250, u251, rfl, rfl⟩
                   refine U.p Z Z (.inr ⟨_, _, _, Z, Z, ((L 15 Z Z).trans (cB g229))⟩) (S.pickT Z ((L 11 Z Z).trans (cB g244)) (L 0 Z Z)) ?_
                   exact kk [(143, .bool (((decide (x115.what ≠ 0)) || x115.volatile) || x115.final)), (142, .bool (((decide (x115.what ≠ 0)) || x115.volatile) || x115.final)), (141, u250), (140, u251), (139, .bool ((decide (x115.what ≠ 0)) || x115.volatile)), (138, .bool ((decide (x115.what ≠ 0)) || x115.volatile)), (137, u245), (136, u246), (135, .bool (decide (x115.what ≠ 0))), (134, .bool (decide (x115.what ≠ 0))), (133, .int .i64 x115.what), (132, .pointer (some ⟨b126, 1, none⟩))] _ ⟨.bool (((decide (x115.what ≠ 0)) || x115.volatile) || x115.final), u250, u251, .bool ((decide (x115.what ≠ 0)) || x115.volatile), .bool ((decide (x115.what ≠ 0)) || x115.volatile), u245, u246, .bool (decide (x115.what ≠ 0)), .bool (decide (x115.what ≠ 0)), .int .i64 x115.what, .pointer (some ⟨b126, 1, none⟩), Z, (by rw [g244, Bool.true_and])⟩
                  ·intro kk
                   refine bcase (b := (decide (x115.what ≠ 0)) || x115.volatile) (fun g255 => ?_) (fun g255 => ?_)
                   ·skip
                    refine U.x Z Z Z Z ((L 0 Z Z).trans (cB g255)) (by decide) ?_
                    refine U.x Z Z Z Z ((L 1 Z Z).trans (cB g255)) (by decide) ?_
                    refine U.p Z Z (.inr ⟨_, _, _, Z, Z, ((L 10 Z Z).trans (cB g244))⟩) (S.pickT Z ((L 2 Z Z).trans (cB g255)) K) ?_
                    exact kk [(142, .bool true), (141, .tuple #[]), (140, .tuple #[])] _ ⟨.tuple #[], .tuple #[], Z, (by rw [g255, Bool.true_or])⟩
                   ·skip
                    refine U.p (v := .pointer (some ⟨b126, 3, none⟩)) Z Z (.inr ⟨_, _, _, Z, Z, ((L 0 Z Z).trans (cB g255))⟩) (S.fieldAddr Z (L 33 Z Z) Tryd.underlying42 Z ti4 Z Z) ?_
                    refine U.k Z Z (.inr ⟨_, _, _, Z, Z, ((L 1 Z Z).trans (cB g255))⟩) (S.load Z (L 0 Z Z) Tryd.underlying4 Z ((ow152.own (k := 1) Z).cell Z)) nd ?_
                    refine U.p Z Z (.inr ⟨_, _, _, Z, Z, ((L 10 Z Z).trans (cB g244))⟩) (S.pickF Z ((L 2 Z Z).trans (cB g255)) (L 0 Z Z)) ?_
                    exact kk [(142, .bool x115.final), (141, .bool x115.final), (140, .pointer (some ⟨b126, 3, none⟩))] _ ⟨.bool x115.final, .pointer (some ⟨b126, 3, none⟩), Z, (by rw [g255, Bool.false_or])⟩
                 ·intro kk
                  refine bcase (b := decide (x115.what ≠ 0)) (fun g256 => ?_) (fun g256 => ?_)
                  ·skip
                   refine U.x Z Z Z Z ((L 0 Z Z).trans (cB g256)) (by decide) ?_
                   refine U.x Z Z Z Z ((L 1 Z Z).trans (cB g256)) (by decide) ?_
                   refine U.p Z Z (.inr ⟨_, _, _, Z, Z, ((L 6 Z Z).trans (cB g244))⟩) (S.pickT Z ((L 2 Z Z).trans (cB g256)) K) ?_
                   exact kk [(138, .bool true), (137, .tuple #[]), (136, .tuple #[])] _ ⟨.tuple #[], .tuple #[], Z, (by rw [g256, Bool.true_or])⟩
                  ·skip
                   refine U.p (v := .pointer (some ⟨b126, 2, none⟩)) Z Z (.inr ⟨_, _, _, Z, Z, ((L 0 Z Z).trans (cB g256))⟩) (S.fieldAddr Z (L 29 Z Z) Tryd.underlying42 Z ti4 Z Z) ?_
                   refine U.k Z Z (.inr ⟨_, _, _, Z, Z, ((L 1 Z Z).trans (cB g256))⟩) (S.load Z (L 0 Z Z) Tryd.underlying4 Z ((ow152.own (k := 1) Z).cell Z)) nd ?_
                   refine U.p Z Z (.inr ⟨_, _, _, Z, Z, ((L 6 Z Z).trans (cB g244))⟩) (S.pickF Z ((L 2 Z Z).trans (cB g256)) (L 0 Z Z)) ?_
                   exact kk [(138, .bool x115.volatile), (137, .bool x115.volatile), (136, .pointer (some ⟨b126, 2, none⟩))] _ ⟨.bool x115.volatile, .pointer (some ⟨b126, 2, none⟩), Z, (by rw [g256, Bool.false_or])⟩
                ·skip
                 refine U.x Z Z Z Z ((L 0 Z Z).trans (cB g244)) (by decide) ?_
                 refine U.x Z Z Z Z ((L 1 Z Z).trans (cB g244)) (by decide) ?_
                 refine U.x Z Z Z Z ((L 2 Z Z).trans (cB g244)) (by decide) ?_
                 refine U.x Z Z Z Z ((L 3 Z Z).trans (cB g244)) (by decide) ?_
                 refine U.z Z Z Z Z (L 0 Z Z) ?_
                 refine U.z Z Z Z Z (L 1 Z Z) ?_
                 refine U.x Z Z Z Z ((L 6 Z Z).trans (cB g244)) (by decide) ?_
                 refine U.x Z Z Z Z ((L 7 Z Z).trans (cB g244)) (by decide) ?_
                 refine U.z Z Z Z Z (L 0 Z Z) ?_
                 refine U.z Z Z Z Z (L 1 Z Z) ?_
                 refine U.x Z Z Z Z ((L 10 Z Z).trans (cB g244)) (by decide) ?_
                 refine U.p Z Z (.inr ⟨_, _, _, Z, Z, ((L 15 Z Z).trans (cB g229))⟩) (S.pickF Z ((L 11 Z Z).trans (cB g244)) K) ?_
                 exact kk [(143, .bool false), (142, .tuple #[]), (141, .tuple #[]), (140, .tuple #[]), (139, .tuple #[]), (138, .tuple #[]), (137, .tuple #[]), (136, .tuple #[]), (135, .tuple #[]), (134, .tuple #[]), (133, .tuple #[]), (132, .tuple #[])] _ ⟨.tuple #[], .tuple #[], .tuple #[], .tuple #[], .tuple #[], .tuple #[], .tuple #[], .tuple #[], .tuple #[], .tuple #[], .tuple #[], Z, (by rw [g244, Bool.false_and])⟩
            ·intro kk
             refine bcase (b := !x146) (fun g257 => ?_) (fun g257 => ?_)
             ·skip
              have k258 : x146 = false := nT g257
              refine U.x Z Z Z Z ((L 0 Z Z).trans (cB g257)) (by decide) ?_
              refine U.x Z Z Z Z ((L 1 Z Z).trans (cB g257)) (by decide) ?_
              refine U.x Z Z Z Z ((L 2 Z Z).trans (cB g257)) (by decide) ?_
              refine U.x Z Z Z Z ((L 3 Z Z).trans (cB g257)) (by decide) ?_
              refine U.z Z Z Z Z (L 0 Z Z) ?_
              refine U.z Z Z Z Z (L 1 Z Z) ?_
              refine U.z Z Z Z Z (L 2 Z Z) ?_
              refine U.z Z Z Z Z (L 3 Z Z) ?_
              refine U.z Z Z Z Z (L 0 Z Z) ?_
              refine U.z Z Z Z Z (L 1 Z Z) ?_
              refine U.z Z Z Z Z (L 2 Z Z) ?_
              refine U.z Z Z Z Z (L 7 Z Z) ?_
              refine U.x Z Z Z Z ((L 12 Z Z).trans (cB g257)) (by decide) ?_
              refine U.p Z Z (.inl Z) (S.pickT Z ((L 13 Z Z).trans (cB g257)) K) ?_
              exact kk [(126, .bool true), (125, .tuple #[]), (124, .tuple #[]), (123, .tuple #[]), (122, .tuple #[]), (121, .tuple #[]), (120, .tuple #[]), (119, .tuple #[]), (118, .tuple #[]), (117, .tuple #[]), (116, .tuple #[]), (115, .tuple #[]), (114, .tuple #[]), (113, .tuple #[])] _ ⟨.tuple #[], .tuple #[], .tuple #[], .tuple #[], .tuple #[], .tuple #[], .tuple #[], .tuple #[], .tuple #[], .tuple #[], .tuple #[], .tuple #[], .tuple #[], Z, (by rw [g257, Bool.true_or])⟩
             ·skip
              have k259 : x146 = true := nF g257
              refine U.p (v := .pointer (some ⟨b126, 0, none⟩)) Z Z (.inr ⟨_, _, _, Z, Z, ((L 0 Z Z).trans (cB g257))⟩) (S.fieldAddr Z (L 6 Z Z) Tryd.underlying42 Z ti3 Z Z) ?_
              refine U.k Z Z (.inr ⟨_, _, _, Z, Z, ((L 1 Z Z).trans (cB g257))⟩) (S.load Z (L 0 Z Z) Tryd.underlying3 Z ((ow152.own (k := 1) Z).cell Z)) nd ?_
              refine U.p Z Z (.inr ⟨_, _, _, Z, Z, ((L 2 Z Z).trans (cB g257))⟩) (S.eqlI Z (L 0 Z Z) K) ?_
              refine U.p Z Z (.inr ⟨_, _, _, Z, Z, ((L 3 Z Z).trans (cB g257))⟩) (S.move Z (L 0 Z Z)) ?_
              refine U.joinX 16 (fun e H => ∃ (u260 u261 u262 u263 u264 u265 u266 u267 : Value), H = V150.H ∧ e = [(125, .bool ((decide (x115.role = 2)) && ((decide (x115.what < 1)) || (decide (5 < x115.what))))), (124, u260), (123, u261), (122, u262), (121, u263), (120, u264), (119, u265), (118, u266), (117, u267)]) ?_ ?_
              ·rintro _ _ ⟨u260, u261, u262, u263, u264, u265, u266, u267, rfl, rfl⟩
               refine U.p Z Z (.inl Z) (S.pickF Z ((L 13 Z Z).trans (cB g257)) (L 0 Z Z)) ?_
               exact kk [(126, .bool ((decide (x115.role = 2)) && ((decide (x115.what < 1)) || (decide (5 < x115.what))))), (125, .bool ((decide (x115.role = 2)) && ((decide (x115.what < 1)) || (decide (5 < x115.what))))), (124, u260), (123, u261), (122, u262), (121, u263), (120, u264), (119, u265), (118, u266), (117, u267), (116, .bool (decide (x115.role = 2))), (115, .bool (decide (x115.role = 2))), (114, .int .i64 x115.role), (113, .pointer (some ⟨b126, 0, none⟩))] _ ⟨.bool ((decide (x115.role = 2)) && ((decide (x115.what < 1)) || (decide (5 < x115.what)))), u260, u261, u262, u263, u264, u265, u266, u267, .bool (decide (x115.role = 2)), .bool (decide (x115.role = 2)), .int .i64 x115.role, .pointer (some ⟨b126, 0, none⟩), Z, (by rw [g257, Bool.false_or])⟩
              ·intro kk
               refine bcase (b := decide (x115.role = 2)) (fun g271 => ?_) (fun g271 => ?_)
               ·skip
                refine U.p (v := .pointer (some ⟨b126, 1, none⟩)) Z Z (.inr ⟨_, _, _, Z, Z, ((L 0 Z Z).trans (cB g271))⟩) (S.fieldAddr Z (L 10 Z Z) Tryd.underlying42 Z ti3 Z Z) ?_
                refine U.k Z Z (.inr ⟨_, _, _, Z, Z, ((L 1 Z Z).trans (cB g271))⟩) (S.load Z (L 0 Z Z) Tryd.underlying3 Z ((ow152.own (k := 1) Z).cell Z)) nd ?_
                refine U.p Z Z (.inr ⟨_, _, _, Z, Z, ((L 2 Z Z).trans (cB g271))⟩) (S.lss Z (L 0 Z Z) K) ?_
                refine U.p Z Z (.inr ⟨_, _, _, Z, Z, ((L 3 Z Z).trans (cB g271))⟩) (S.move Z (L 0 Z Z)) ?_
                refine U.joinX 15 (fun e H => ∃ (u272 u273 u274 : Value), H = V150.H ∧ e = [(124, .bool ((decide (x115.what < 1)) || (decide (5 < x115.what)))), (123, u272), (122, u273), (121, u274)]) ?_ ?_
                ·rintro _ _ ⟨u272, u273, u274, rfl, rfl⟩
                 refine U.p Z Z (.inr ⟨_, _, _, Z, Z, ((L 12 Z Z).trans (cB g257))⟩) (S.pickT Z ((L 8 Z Z).trans (cB g271)) (L 0 Z Z)) ?_
                 exact kk [(125, .bool ((decide (x115.what < 1)) || (decide (5 < x115.what)))), (124, .bool ((decide (x115.what < 1)) || (decide (5 < x115.what)))), (123, u272), (122, u273), (121, u274), (120, .bool (decide (x115.what < 1))), (119, .bool (decide (x115.what < 1))), (118, .int .i64 x115.what), (117, .pointer (some ⟨b126, 1, none⟩))] _ ⟨.bool ((decide (x115.what < 1)) || (decide (5 < x115.what))), u272, u273, u274, .bool (decide (x115.what < 1)), .bool (decide (x115.what < 1)), .int .i64 x115.what, .pointer (some ⟨b126, 1, none⟩), Z, (by rw [g271, Bool.true_and])⟩
                ·intro kk
                 refine bcase (b := decide (x115.what < 1)) (fun g278 => ?_) (fun g278 => ?_)
                 ·skip
                  refine U.x Z Z Z Z ((L 0 Z Z).trans (cB g278)) (by decide) ?_
                  refine U.x Z Z Z Z ((L 1 Z Z).trans (cB g278)) (by decide) ?_
                  refine U.x Z Z Z Z ((L 2 Z Z).trans (cB g278)) (by decide) ?_
                  refine U.p Z Z (.inr ⟨_, _, _, Z, Z, ((L 7 Z Z).trans (cB g271))⟩) (S.pickT Z ((L 3 Z Z).trans (cB g278)) K) ?_
                  exact kk [(124, .bool true), (123, .tuple #[]), (122, .tuple #[]), (121, .tuple #[])] _ ⟨.tuple #[], .tuple #[], .tuple #[], Z, (by rw [g278, Bool.true_or])⟩
                 ·skip
                  refine U.p (v := .pointer (some ⟨b126, 1, none⟩)) Z Z (.inr ⟨_, _, _, Z, Z, ((L 0 Z Z).trans (cB g278))⟩) (S.fieldAddr Z (L 14 Z Z) Tryd.underlying42 Z ti3 Z Z) ?_
                  refine U.k Z Z (.inr ⟨_, _, _, Z, Z, ((L 1 Z Z).trans (cB g278))⟩) (S.load Z (L 0 Z Z) Tryd.underlying3 Z ((ow152.own (k := 1) Z).cell Z)) nd ?_
                  refine U.p Z Z (.inr ⟨_, _, _, Z, Z, ((L 2 Z Z).trans (cB g278))⟩) (S.gtr Z (L 0 Z Z) K) ?_
                  refine U.p Z Z (.inr ⟨_, _, _, Z, Z, ((L 7 Z Z).trans (cB g271))⟩) (S.pickF Z ((L 3 Z Z).trans (cB g278)) (L 0 Z Z)) ?_
                  exact kk [(124, .bool (decide (5 < x115.what))), (123, .bool (decide (5 < x115.what))), (122, .int .i64 x115.what), (121, .pointer (some ⟨b126, 1, none⟩))] _ ⟨.bool (decide (5 < x115.what)), .int .i64 x115.what, .pointer (some ⟨b126, 1, none⟩), Z, (by rw [g278, Bool.false_or])⟩
               ·skip
                refine U.x Z Z Z Z ((L 0 Z Z).trans (cB g271)) (by decide) ?_
                refine U.x Z Z Z Z ((L 1 Z Z).trans (cB g271)) (by decide) ?_
                refine U.x Z Z Z Z ((L 2 Z Z).trans (cB g271)) (by decide) ?_
                refine U.x Z Z Z Z ((L 3 Z Z).trans (cB g271)) (by decide) ?_
                refine U.z Z Z Z Z (L 0 Z Z) ?_
                refine U.z Z Z Z Z (L 1 Z Z) ?_
                refine U.z Z Z Z Z (L 2 Z Z) ?_
                refine U.x Z Z Z Z ((L 7 Z Z).trans (cB g271)) (by decide) ?_
                refine U.p Z Z (.inr ⟨_, _, _, Z, Z, ((L 12 Z Z).trans (cB g257))⟩) (S.pickF Z ((L 8 Z Z).trans (cB g271)) K) ?_
                exact kk [(125, .bool false), (124, .tuple #[]), (123, .tuple #[]), (122, .tuple #[]), (121, .tuple #[]), (120, .tuple #[]), (119, .tuple #[]), (118, .tuple #[]), (117, .tuple #[])] _ ⟨.tuple #[], .tuple #[], .tuple #[], .tuple #[], .tuple #[], .tuple #[], .tuple #[], .tuple #[], Z, (by rw [g271, Bool.false_and])⟩
          ·skip
           refine WP.usreg Z ?_
           refine U.p (v := .pointer (some ⟨b69, 0, none⟩)) Z Z (.inl Z) (S.fieldAddr Z (L 34 Z Z) Tryd.underlying50 Z ti3 Z Z) ?_
           refine U.k Z Z (.inl Z) (S.load Z (L 0 Z Z) Tryd.underlying3 Z ((ow137.own (k := 2) Z).cell Z)) nd ?_
           refine U.done (nr Z) ?_
           refine WP.blk ?_
           refine WP.usreg Z ?_
           refine U.p Z Z (.inl Z) (S.eqlI Z (L 0 Z Z) K) ?_
           refine U.p Z Z (.inl Z) (S.assign Z (L 0 Z Z)) ?_
           refine U.done (nr Z) ?_
           refine WP.cond _ (L 0 Z Z) Z (fun c279 => ?_) (fun c279 => ?_)
           ·have h280 := ifT c279 h117
            refine WP.ureg Z ?_
            refine O.lit (R := (RT.int .i64)) ow137 Z Z (.inl Z) Z Tryd.underlying25 ti3 Z Z Z (nr Z) Z (aC K (aC K (aC K aN))) (.cons _ _ 1 _ (by simp [topV]) Z (.cons _ _ 2 _ (by simp [topV]) Z (.cons _ _ 5 _ (by simp [topV]) Z .nil))) (fun _ => nd) (fun v281 V282 le283 ow284 => ?_)
            refine U.p Z Z (.inl Z) (S.assign Z (L 0 Z Z)) ?_
            refine U.done (nr Z) ?_
            refine blkN (sqN ?_)
            have ow286 := ow284.drop 1 Z
            have ow287 := ow286.drop 2 Z
            have ow288 := ow287.pick 0 Z
            have ow289 := ow288.pick 1 Z
            have ow290 := ow289.pick 2 Z
            exact ⟨_, V282, Z, ⟨v281, [1, 2, 5], Z, le283, ow290, h280⟩, (allCons (L 53 Z Z) (allCons (L 54 Z Z) (allCons (L 8 Z Z) (allCons (L 0 Z Z) (allCons (L 55 Z Z) (allCons (L 56 Z Z) allNil))))))⟩
           ·have h291 := ifF c279 h117
            refine WP.usreg Z ?_
            refine U.p Z Z (.inl Z) (S.eqlI Z (L 2 Z Z) K) ?_
            refine U.p Z Z (.inl Z) (S.assign Z (L 0 Z Z)) ?_
            refine U.done (nr Z) ?_
            refine WP.cond _ (L 0 Z Z) Z (fun c292 => ?_) (fun c292 => ?_)
            ·have h293 := ifT c292 h291
             refine WP.ureg Z ?_
             refine O.lit (R := (RT.int .i64)) ow137 Z Z (.inl Z) Z Tryd.underlying25 ti3 Z Z Z (nr Z) Z (aC K (aC K (aC K aN))) (.cons _ _ 1 _ (by simp [topV]) Z (.cons _ _ 2 _ (by simp [topV]) Z (.cons _ _ 6 _ (by simp [topV]) Z .nil))) (fun _ => nd) (fun v294 V295 le296 ow297 => ?_)
             refine U.p Z Z (.inl Z) (S.assign Z (L 0 Z Z)) ?_
             refine U.done (nr Z) ?_
             refine blkN (sqN ?_)
             have ow299 := ow297.drop 1 Z
             have ow300 := ow299.drop 2 Z
             have ow301 := ow300.pick 0 Z
             have ow302 := ow301.pick 1 Z
             have ow303 := ow302.pick 2 Z
             exact ⟨_, V295, Z, ⟨v294, [1, 2, 6], Z, le296, ow303, h293⟩, (allCons (L 55 Z Z) (allCons (L 56 Z Z) (allCons (L 10 Z Z) (allCons (L 0 Z Z) (allCons (L 57 Z Z) (allCons (L 58 Z Z) allNil))))))⟩
            ·have h304 := ifF c292 h291
             refine WP.usreg Z ?_
             refine U.p Z Z (.inl Z) (S.eqlI Z (L 4 Z Z) K) ?_
             refine U.p Z Z (.inl Z) (S.assign Z (L 0 Z Z)) ?_
             refine U.done (nr Z) ?_
             refine WP.cond _ (L 0 Z Z) Z (fun c305 => ?_) (fun c305 => ?_)
             ·have h306 := ifT c305 h304
              refine WP.ureg Z ?_
              refine O.lit (R := (RT.int .i64)) ow137 Z Z (.inl Z) Z Tryd.underlying25 ti3 Z Z Z (nr Z) Z (aC K aN) (.cons _ _ 3 _ (by simp [topV]) Z .nil) (fun _ => nd) (fun v307 V308 le309 ow310 => ?_)
              refine U.p Z Z (.inl Z) (S.assign Z (L 0 Z Z)) ?_
              refine U.done (nr Z) ?_
              refine blkN (sqN ?_)
              have ow312 := ow310.drop 1 Z
              have ow313 := ow312.drop 2 Z
              have ow314 := ow313.pick 0 Z
              have ow315 := ow314.pick 1 Z
              have ow316 := ow315.pick 2 Z
              exact ⟨_, V308, Z, ⟨v307, [3], Z, le309, ow316, h306⟩, (allCons (L 57 Z Z) (allCons (L 58 Z Z) (allCons (L 12 Z Z) (allCons (L 0 Z Z) (allCons (L 59 Z Z) (allCons (L 60 Z Z) allNil))))))⟩
             ·have h317 := ifF c305 h304
              refine WP.usreg Z ?_
              refine U.p Z Z (.inl Z) (S.eqlI Z (L 6 Z Z) K) ?_
              refine U.p Z Z (.inl Z) (S.assign Z (L 0 Z Z)) ?_
              refine U.done (nr Z) ?_
              refine WP.cond _ (L 0 Z Z) Z (fun c318 => ?_) (fun c318 => ?_)
              ·have h319 := ifT c318 h317
               refine WP.ureg Z ?_
               refine O.lit (R := (RT.int .i64)) ow137 Z Z (.inl Z) Z Tryd.underlying25 ti3 Z Z Z (nr Z) Z (aC K aN) (.cons _ _ 4 _ (by simp [topV]) Z .nil) (fun _ => nd) (fun v320 V321 le322 ow323 => ?_)
               refine U.p Z Z (.inl Z) (S.assign Z (L 0 Z Z)) ?_
               refine U.done (nr Z) ?_
               refine blkN (sqN ?_)
               have ow325 := ow323.drop 1 Z
               have ow326 := ow325.drop 2 Z
               have ow327 := ow326.pick 0 Z
               have ow328 := ow327.pick 1 Z
               have ow329 := ow328.pick 2 Z
               exact ⟨_, V321, Z, ⟨v320, [4], Z, le322, ow329, h319⟩, (allCons (L 59 Z Z) (allCons (L 60 Z Z) (allCons (L 14 Z Z) (allCons (L 0 Z Z) (allCons (L 61 Z Z) (allCons (L 62 Z Z) allNil))))))⟩
              ·have h330 := ifF c318 h317
               refine WP.skip ?_
               refine blkN (sqN ?_)
               have ow331 := ow137.drop 2 Z
               have ow332 := ow331.pick 0 Z
               have ow333 := ow332.pick 1 Z
               have ow334 := ow333.pick 2 Z
               exact ⟨_, V135, Z, ⟨v134, [0], Z, (.refl _), ow334, h330⟩, (allCons (L 57 Z Z) (allCons (L 58 Z Z) (allCons (L 12 Z Z) (allCons (L 10 Z Z) (allCons (L 59 Z Z) (allCons (L 60 Z Z) allNil))))))⟩
        ·intro kk
         refine bcase (b := (decide (10 ≤ x61.1.op)) && (decide (x61.1.op ≤ 12))) (fun g335 => ?_) (fun g335 => ?_)
         ·skip
          refine U.p Z Z (.inr ⟨_, _, _, Z, Z, ((L 0 Z Z).trans (cB g335))⟩) (S.move Z (L 22 Z Z)) ?_
          refine U.p (v := .pointer (some ⟨b69, 4, none⟩)) Z Z (.inr ⟨_, _, _, Z, Z, ((L 1 Z Z).trans (cB g335))⟩) (S.fieldAddr Z (L 13 Z Z) Tryd.underlying50 Z ti3 Z Z) ?_
          refine U.k Z Z (.inr ⟨_, _, _, Z, Z, ((L 2 Z Z).trans (cB g335))⟩) (S.load Z (L 0 Z Z) Tryd.underlying3 Z ((ow76.own (k := 0) Z).cell Z)) nd ?_
          refine U.p Z Z (.inr ⟨_, _, _, Z, Z, ((L 3 Z Z).trans (cB g335))⟩) (S.add Z (L 2 Z Z) (L 0 Z Z)) ?_
          refine U.p Z Z (.inr ⟨_, _, _, Z, Z, ((L 4 Z Z).trans (cB g335))⟩) (S.lss Z (L 0 Z Z) K) ?_
          refine U.p Z Z (.inr ⟨_, _, _, Z, Z, ((L 5 Z Z).trans (cB g335))⟩) (S.move Z (L 0 Z Z)) ?_
          refine U.joinX 22 (fun e H => ∃ (u336 u337 u338 u339 u340 u341 : Value), H = V74.H ∧ e = [(74, .bool ((decide ((w64 (x37 + x61.1.imm)) < 0)) || (decide ((p0.code.length : Int) ≤ (w64 (x37 + x61.1.imm)))))), (73, u336), (72, u337), (71, u338), (70, u339), (69, u340), (68, u341)]) ?_ ?_
          ·rintro _ _ ⟨u336, u337, u338, u339, u340, u341, rfl, rfl⟩
           refine U.p Z Z (.inl Z) (S.pickT Z ((L 13 Z Z).trans (cB g335)) (L 0 Z Z)) ?_
           exact kk [(75, .bool ((decide ((w64 (x37 + x61.1.imm)) < 0)) || (decide ((p0.code.length : Int) ≤ (w64 (x37 + x61.1.imm)))))), (74, .bool ((decide ((w64 (x37 + x61.1.imm)) < 0)) || (decide ((p0.code.length : Int) ≤ (w64 (x37 + x61.1.imm)))))), (73, u336), (72, u337), (71, u338), (70, u339), (69, u340), (68, u341), (67, .bool (decide ((w64 (x37 + x61.1.imm)) < 0))), (66, .bool (decide ((w64 (x37 + x61.1.imm)) < 0))), (65, .int .i64 (w64 (x37 + x61.1.imm))), (64, .int .i64 x61.1.imm), (63, .pointer (some ⟨b69, 4, none⟩)), (62, .int .i64 x37)] _ ⟨.bool ((decide ((w64 (x37 + x61.1.imm)) < 0)) || (decide ((p0.code.length : Int) ≤ (w64 (x37 + x61.1.imm))))), u336, u337, u338, u339, u340, u341, .bool (decide ((w64 (x37 + x61.1.imm)) < 0)), .bool (decide ((w64 (x37 + x61.1.imm)) < 0)), .int .i64 (w64 (x37 + x61.1.imm)), .int .i64 x61.1.imm, .pointer (some ⟨b69, 4, none⟩), .int .i64 x37, Z, (by rw [g335, Bool.true_and])⟩
          ·intro kk
           refine bcase (b := decide ((w64 (x37 + x61.1.imm)) < 0)) (fun g345 => ?_) (fun g345 => ?_)
           ·skip
            refine U.x Z Z Z Z ((L 0 Z Z).trans (cB g345)) (by decide) ?_
            refine U.x Z Z Z Z ((L 1 Z Z).trans (cB g345)) (by decide) ?_
            refine U.x Z Z Z Z ((L 2 Z Z).trans (cB g345)) (by decide) ?_
            refine U.x Z Z Z Z ((L 3 Z Z).trans (cB g345)) (by decide) ?_
            refine U.x Z Z Z Z ((L 4 Z Z).trans (cB g345)) (by decide) ?_
            refine U.x Z Z Z Z ((L 5 Z Z).trans (cB g345)) (by decide) ?_
            refine U.p Z Z (.inr ⟨_, _, _, Z, Z, ((L 12 Z Z).trans (cB g335))⟩) (S.pickT Z ((L 6 Z Z).trans (cB g345)) K) ?_
            exact kk [(74, .bool true), (73, .tuple #[]), (72, .tuple #[]), (71, .tuple #[]), (70, .tuple #[]), (69, .tuple #[]), (68, .tuple #[])] _ ⟨.tuple #[], .tuple #[], .tuple #[], .tuple #[], .tuple #[], .tuple #[], Z, (by rw [g345, Bool.true_or])⟩
           ·skip
            refine U.p Z Z (.inr ⟨_, _, _, Z, Z, ((L 0 Z Z).trans (cB g345))⟩) (S.move Z (L 28 Z Z)) ?_
            refine U.p (v := .pointer (some ⟨b69, 4, none⟩)) Z Z (.inr ⟨_, _, _, Z, Z, ((L 1 Z Z).trans (cB g345))⟩) (S.fieldAddr Z (L 19 Z Z) Tryd.underlying50 Z ti3 Z Z) ?_
            refine U.k Z Z (.inr ⟨_, _, _, Z, Z, ((L 2 Z Z).trans (cB g345))⟩) (S.load Z (L 0 Z Z) Tryd.underlying3 Z ((ow76.own (k := 0) Z).cell Z)) nd ?_
            refine U.p Z Z (.inr ⟨_, _, _, Z, Z, ((L 3 Z Z).trans (cB g345))⟩) (S.add Z (L 2 Z Z) (L 0 Z Z)) ?_
            refine U.p Z Z (.inr ⟨_, _, _, Z, Z, ((L 4 Z Z).trans (cB g345))⟩) (S.move Z (L 36 Z Z)) ?_
            refine U.p Z Z (.inr ⟨_, _, _, Z, Z, ((L 5 Z Z).trans (cB g345))⟩) (S.geq Z (L 1 Z Z) (L 0 Z Z)) ?_
            refine U.p Z Z (.inr ⟨_, _, _, Z, Z, ((L 12 Z Z).trans (cB g335))⟩) (S.pickF Z ((L 6 Z Z).trans (cB g345)) (L 0 Z Z)) ?_
            exact kk [(74, .bool (decide ((p0.code.length : Int) ≤ (w64 (x37 + x61.1.imm))))), (73, .bool (decide ((p0.code.length : Int) ≤ (w64 (x37 + x61.1.imm))))), (72, .int .i64 (p0.code.length : Int)), (71, .int .i64 (w64 (x37 + x61.1.imm))), (70, .int .i64 x61.1.imm), (69, .pointer (some ⟨b69, 4, none⟩)), (68, .int .i64 x37)] _ ⟨.bool (decide ((p0.code.length : Int) ≤ (w64 (x37 + x61.1.imm)))), .int .i64 (p0.code.length : Int), .int .i64 (w64 (x37 + x61.1.imm)), .int .i64 x61.1.imm, .pointer (some ⟨b69, 4, none⟩), .int .i64 x37, Z, (by rw [g345, Bool.false_or])⟩
         ·skip
          refine U.x Z Z Z Z ((L 0 Z Z).trans (cB g335)) (by decide) ?_
          refine U.x Z Z Z Z ((L 1 Z Z).trans (cB g335)) (by decide) ?_
          refine U.x Z Z Z Z ((L 2 Z Z).trans (cB g335)) (by decide) ?_
          refine U.x Z Z Z Z ((L 3 Z Z).trans (cB g335)) (by decide) ?_
          refine U.x Z Z Z Z ((L 4 Z Z).trans (cB g335)) (by decide) ?_
          refine U.x Z Z Z Z ((L 5 Z Z).trans (cB g335)) (by decide) ?_
          refine U.z Z Z Z Z (L 0 Z Z) ?_
          refine U.z Z Z Z Z (L 1 Z Z) ?_
          refine U.z Z Z Z Z (L 2 Z Z) ?_
          refine U.z Z Z Z Z (L 3 Z Z) ?_
          refine U.z Z Z Z Z (L 4 Z Z) ?_
          refine U.z Z Z Z Z (L 5 Z Z) ?_
          refine U.x Z Z Z Z ((L 12 Z Z).trans (cB g335)) (by decide) ?_
          refine U.p Z Z (.inl Z) (S.pickF Z ((L 13 Z Z).trans (cB g335)) K) ?_
          exact kk [(75, .bool false), (74, .tuple #[]), (73, .tuple #[]), (72, .tuple #[]), (71, .tuple #[]), (70, .tuple #[]), (69, .tuple #[]), (68, .tuple #[]), (67, .tuple #[]), (66, .tuple #[]), (65, .tuple #[]), (64, .tuple #[]), (63, .tuple #[]), (62, .tuple #[])] _ ⟨.tuple #[], .tuple #[], .tuple #[], .tuple #[], .tuple #[], .tuple #[], .tuple #[], .tuple #[], .tuple #[], .tuple #[], .tuple #[], .tuple #[], .tuple #[], Z, (by rw [g335, Bool.false_and])⟩
       ·intro kk
        refine bcase (b := decide (10 ≤ x61.1.op)) (fun g346 => ?_) (fun g346 => ?_)
        ·skip
         refine U.p (v := .pointer (some ⟨b69, 0, none⟩)) Z Z (.inr ⟨_, _, _, Z, Z, ((L 0 Z Z).trans (cB g346))⟩) (S.fieldAddr Z (L 7 Z Z) Tryd.underlying50 Z ti3 Z Z) ?_
         refine U.k Z Z (.inr ⟨_, _, _, Z, Z, ((L 1 Z Z).trans (cB g346))⟩) (S.load Z (L 0 Z Z) Tryd.underlying3 Z ((ow76.own (k := 0) Z).cell Z)) nd ?_
         refine U.p Z Z (.inr ⟨_, _, _, Z, Z, ((L 2 Z Z).trans (cB g346))⟩) (S.leq Z (L 0 Z Z) K) ?_
         refine U.p Z Z (.inl Z) (S.pickT Z ((L 3 Z Z).trans (cB g346)) (L 0 Z Z)) ?_
         exact kk [(60, .bool (decide (x61.1.op ≤ 12))), (59, .bool (decide (x61.1.op ≤ 12))), (58, .int .i64 x61.1.op), (57, .pointer (some ⟨b69, 0, none⟩))] _ ⟨.bool (decide (x61.1.op ≤ 12)), .int .i64 x61.1.op, .pointer (some ⟨b69, 0, none⟩), Z, (by rw [g346, Bool.true_and])⟩
        ·skip
         refine U.x Z Z Z Z ((L 0 Z Z).trans (cB g346)) (by decide) ?_
         refine U.x Z Z Z Z ((L 1 Z Z).trans (cB g346)) (by decide) ?_
         refine U.x Z Z Z Z ((L 2 Z Z).trans (cB g346)) (by decide) ?_
         refine U.p Z Z (.inl Z) (S.pickF Z ((L 3 Z Z).trans (cB g346)) K) ?_
         exact kk [(60, .bool false), (59, .tuple #[]), (58, .tuple #[]), (57, .tuple #[])] _ ⟨.tuple #[], .tuple #[], .tuple #[], Z, (by rw [g346, Bool.false_and])⟩
     ·have h347 := ifF c48 h47
      refine WP.exit ?_
      refine sqE (sqE (blkE (sqN ?_)))
      have h348 := exitS h347 e45
      refine WP.seq ?_
      refine WP.usreg Z ?_
      refine U.p (v := .pointer (some ⟨b7, 2, none⟩)) Z Z (.inl Z) (S.fieldAddr Z (L 1 Z Z) Tryd.underlying27 Z ti25 Z Z) ?_
      refine U.k Z Z (.inl Z) (S.load Z (L 0 Z Z) Tryd.underlying25 Z ((ow42.own (k := 0) Z).cell Z)) nd ?_
      refine U.p Z Z (.inl Z) (f6.1.len Z (L 0 Z Z) Tryd.underlying25) ?_
      refine U.p Z Z (.inl Z) (S.move Z K) ?_
      refine U.done (nr Z) ?_
      refine WP.blk ?_
      have ow350 := ow42.drop 0 Z
      unfold ref15_Good_l3 at h348
      obtain ⟨n352, hn351⟩ := loopO_some.1 h348
      refine WP.loopI2 (fun n l V' => ∃ (x349 : Int), l = [(3, .int .i64 (p0.code.length : Int)), (147, v5), (148, .int .i64 (p0.threads.length : Int)), (149, .int .i64 x349)] ∧ V40.le V' ∧ Ow V' (Rs) ∧ itO (fun s => ref15_Good_l3b p0 s) n x349 = some r) n352 _ ⟨0, Z, .refl _, ow350, hn351⟩ (allCons (L 6 Z Z) (allCons (L 2 Z Z) (allCons (L 1 Z Z) (allCons (L 0 Z Z) allNil)))) ?_
      rintro _ _ V353 ⟨x349, rfl, le354, ow355, h359⟩
      obtain ⟨m356, q357, rfl, h360, e358⟩ := itS h359
      replace h360 : ref15_Good_l3b p0 x349 = some q357 := h360
      unfold ref15_Good_l3b at h360
      refine WP.usreg Z ?_
      refine U.p Z Z (.inl Z) (S.lss Z (L 3 Z Z) (L 2 Z Z)) ?_
      refine U.done (nr Z) ?_
      refine WP.seq ?_
      refine WP.cond _ (L 0 Z Z) Z (fun c361 => ?_) (fun c361 => ?_)
      ·have h362 := ifT c361 h360
       refine WP.skip ?_
       refine sqN ?_
       refine WP.seq ?_
       refine WP.blk ?_
       refine WP.usreg Z ?_
       obtain ⟨x363, hx364, h365⟩ := bindS h362
       obtain ⟨b366, o367, c368, cs369, hv370, hf371, hr372, hc373⟩ := f6.at hx364
       obtain rfl : cs369 = [.int .i64 x363] := hr372
       refine U.p Z Z (.inl Z) (S.index Z ((L 2 Z Z).trans hv370) (L 4 Z Z) Tryd.underlying25 ti3 (ix_ge hx364) (ix_lt hx364)) ?_
       refine U.k Z Z (.inl Z) (S.load Z (L 0 Z Z) Tryd.underlying3 Z (((le9.trans le41).trans le354).cell hf371 (hc373 0 _ Z))) nd ?_
       refine U.p Z Z (.inl Z) (S.assign Z (L 0 Z Z)) ?_
       refine U.done (nr Z) ?_
       refine WP.usreg Z ?_
       refine U.p Z Z (.inl Z) (S.move Z (L 0 Z Z)) ?_
       refine U.p Z Z (.inl Z) (S.lss Z (L 0 Z Z) K) ?_
       refine U.p Z Z (.inl Z) (S.move Z (L 0 Z Z)) ?_
       refine U.joinX 7 (fun e H => ∃ (u374 u375 u376 : Value), H = V353.H ∧ e = [(159, .bool ((decide (x363 < 0)) || (decide ((p0.code.length : Int) ≤ x363)))), (158, u374), (157, u375), (156, u376)]) ?_ ?_
       ·rintro _ _ ⟨u374, u375, u376, rfl, rfl⟩
        refine U.done (nr Z) ?_
        refine WP.cond _ (L 0 Z Z) Z (fun c380 => ?_) (fun c380 => ?_)
        ·have h381 := ifT c380 h365
         refine WP.usreg Z ?_
         refine U.p Z Z (.inl Z) (S.assign Z K) ?_
         refine U.done (nr Z) ?_
         refine WP.ret ?_
         refine blkR (sqR (sqR (blkR (sqR ?_))))
         have h382 := exitS h381 e358
         refine fin.slot (.inr Z) Z (L 0 Z Z) ⟨V353, Z, ((le9.trans le41).trans le354), ?_⟩
         have e383 := Option.some.inj h382
         subst e383
         exact ⟨rfl, ow355⟩
        ·have h384 := ifF c380 h365
         refine WP.skip ?_
         refine blkN (sqN ?_)
         refine WP.ureg Z ?_
         refine U.p Z Z (.inl Z) (S.add Z (L 14 Z Z) K) ?_
         refine U.p Z Z (.inl Z) (S.move Z (L 0 Z Z)) ?_
         refine U.done (nr Z) ?_
         refine sqN ?_
         exact ⟨_, V353, Z, ⟨m356, Nat.lt_succ_self _, w64 (x349 + 1), Z, le354, ow355, backS h384 e358⟩, (allCons (L 13 Z Z) (allCons (L 14 Z Z) (allCons (L 15 Z Z) (allCons (L 0 Z Z) allNil))))⟩
       ·intro kk
        refine bcase (b := decide (x363 < 0)) (fun g385 => ?_) (fun g385 => ?_)
        ·skip
         refine U.x Z Z Z Z ((L 0 Z Z).trans (cB g385)) (by decide) ?_
         refine U.x Z Z Z Z ((L 1 Z Z).trans (cB g385)) (by decide) ?_
         refine U.x Z Z Z Z ((L 2 Z Z).trans (cB g385)) (by decide) ?_
         refine U.p Z Z (.inl Z) (S.pickT Z ((L 3 Z Z).trans (cB g385)) K) ?_
         exact kk [(159, .bool true), (158, .tuple #[]), (157, .tuple #[]), (156, .tuple #[])] _ ⟨.tuple #[], .tuple #[], .tuple #[], Z, (by rw [g385, Bool.true_or])⟩
        ·skip
         refine U.p Z Z (.inr ⟨_, _, _, Z, Z, ((L 0 Z Z).trans (cB g385))⟩) (S.move Z (L 3 Z Z)) ?_
         refine U.p Z Z (.inr ⟨_, _, _, Z, Z, ((L 1 Z Z).trans (cB g385))⟩) (S.move Z (L 8 Z Z)) ?_
         refine U.p Z Z (.inr ⟨_, _, _, Z, Z, ((L 2 Z Z).trans (cB g385))⟩) (S.geq Z (L 1 Z Z) (L 0 Z Z)) ?_
         refine U.p Z Z (.inl Z) (S.pickF Z ((L 3 Z Z).trans (cB g385)) (L 0 Z Z)) ?_
         exact kk [(159, .bool (decide ((p0.code.length : Int) ≤ x363))), (158, .bool (decide ((p0.code.length : Int) ≤ x363))), (157, .int .i64 (p0.code.length : Int)), (156, .int .i64 x363)] _ ⟨.bool (decide ((p0.code.length : Int) ≤ x363)), .int .i64 (p0.code.length : Int), .int .i64 x363, Z, (by rw [g385, Bool.false_or])⟩
      ·have h386 := ifF c361 h360
       refine WP.exit ?_
       refine sqE (sqE (blkE (sqN ?_)))
       have h387 := exitS h386 e358
       refine WP.usreg Z ?_
       refine U.p Z Z (.inl Z) (S.assign Z K) ?_
       refine U.done (nr Z) ?_
       refine WP.ret ?_
       refine fin.slot (.inr Z) Z (L 0 Z Z) ⟨V353, Z, ((le9.trans le41).trans le354), ?_⟩
       have e388 := Option.some.inj h387
       subst e388
       exact ⟨rfl, ow355⟩
   ·intro kk
    refine bcase (b := ((decide ((p0.code.length : Int) < 1)) || (decide (8000 < (p0.code.length : Int)))) || (decide ((p0.notes.length : Int) ≠ (p0.code.length : Int)))) (fun g389 => ?_) (fun g389 => ?_)
    ·skip
     refine U.x Z Z Z Z ((L 0 Z Z).trans (cB g389)) (by decide) ?_
     refine U.x Z Z Z Z ((L 1 Z Z).trans (cB g389)) (by decide) ?_
     refine U.x Z Z Z Z ((L 2 Z Z).trans (cB g389)) (by decide) ?_
     refine U.x Z Z Z Z ((L 3 Z Z).trans (cB g389)) (by decide) ?_
     refine U.p Z Z (.inl Z) (S.pickT Z ((L 4 Z Z).trans (cB g389)) K) ?_
     exact kk [(35, .bool true), (34, .tuple #[]), (33, .tuple #[]), (32, .tuple #[]), (31, .tuple #[])] _ ⟨.tuple #[], .tuple #[], .tuple #[], .tuple #[], Z, (by rw [g389, Bool.true_or])⟩
    ·skip
     refine U.p (v := .pointer (some ⟨b7, 2, none⟩)) Z Z (.inr ⟨_, _, _, Z, Z, ((L 0 Z Z).trans (cB g389))⟩) (S.fieldAddr Z (L 19 Z Z) Tryd.underlying27 Z ti25 Z Z) ?_
     refine U.k Z Z (.inr ⟨_, _, _, Z, Z, ((L 1 Z Z).trans (cB g389))⟩) (S.load Z (L 0 Z Z) Tryd.underlying25 Z ((ow10.own (k := 0) Z).cell Z)) nd ?_
     refine U.p Z Z (.inr ⟨_, _, _, Z, Z, ((L 2 Z Z).trans (cB g389))⟩) (f6.1.len Z (L 0 Z Z) Tryd.underlying25) ?_
     refine U.p Z Z (.inr ⟨_, _, _, Z, Z, ((L 3 Z Z).trans (cB g389))⟩) (S.gtr Z (L 0 Z Z) K) ?_
     refine U.p Z Z (.inl Z) (S.pickF Z ((L 4 Z Z).trans (cB g389)) (L 0 Z Z)) ?_
     exact kk [(35, .bool (decide (8 < (p0.threads.length : Int)))), (34, .bool (decide (8 < (p0.threads.length : Int)))), (33, .int .i64 (p0.threads.length : Int)), (32, v5), (31, .pointer (some ⟨b7, 2, none⟩))] _ ⟨.bool (decide (8 < (p0.threads.length : Int))), .int .i64 (p0.threads.length : Int), v5, .pointer (some ⟨b7, 2, none⟩), Z, (by rw [g389, Bool.false_or])⟩
  ·intro kk
   refine bcase (b := (decide ((p0.code.length : Int) < 1)) || (decide (8000 < (p0.code.length : Int)))) (fun g390 => ?_) (fun g390 => ?_)
   ·skip
    refine U.x Z Z Z Z ((L 0 Z Z).trans (cB g390)) (by decide) ?_
    refine U.x Z Z Z Z ((L 1 Z Z).trans (cB g390)) (by decide) ?_
    refine U.x Z Z Z Z ((L 2 Z Z).trans (cB g390)) (by decide) ?_
    refine U.x Z Z Z Z ((L 3 Z Z).trans (cB g390)) (by decide) ?_
    refine U.x Z Z Z Z ((L 4 Z Z).trans (cB g390)) (by decide) ?_
    refine U.p Z Z (.inl Z) (S.pickT Z ((L 5 Z Z).trans (cB g390)) K) ?_
    exact kk [(29, .bool true), (28, .tuple #[]), (27, .tuple #[]), (26, .tuple #[]), (25, .tuple #[]), (24, .tuple #[])] _ ⟨.tuple #[], .tuple #[], .tuple #[], .tuple #[], .tuple #[], Z, (by rw [g390, Bool.true_or])⟩
   ·skip
    refine U.p (v := .pointer (some ⟨b7, 1, none⟩)) Z Z (.inr ⟨_, _, _, Z, Z, ((L 0 Z Z).trans (cB g390))⟩) (S.fieldAddr Z (L 12 Z Z) Tryd.underlying27 Z ti24 Z Z) ?_
    refine U.k Z Z (.inr ⟨_, _, _, Z, Z, ((L 1 Z Z).trans (cB g390))⟩) (S.load Z (L 0 Z Z) Tryd.underlying24 Z ((ow10.own (k := 0) Z).cell Z)) nd ?_
    refine U.p Z Z (.inr ⟨_, _, _, Z, Z, ((L 2 Z Z).trans (cB g390))⟩) (f4.1.len Z (L 0 Z Z) Tryd.underlying24) ?_
    refine U.p Z Z (.inr ⟨_, _, _, Z, Z, ((L 3 Z Z).trans (cB g390))⟩) (S.move Z (L 10 Z Z)) ?_
    refine U.p Z Z (.inr ⟨_, _, _, Z, Z, ((L 4 Z Z).trans (cB g390))⟩) (S.neqI Z (L 1 Z Z) (L 0 Z Z)) ?_
    refine U.p Z Z (.inl Z) (S.pickF Z ((L 5 Z Z).trans (cB g390)) (L 0 Z Z)) ?_
    exact kk [(29, .bool (decide ((p0.notes.length : Int) ≠ (p0.code.length : Int)))), (28, .bool (decide ((p0.notes.length : Int) ≠ (p0.code.length : Int)))), (27, .int .i64 (p0.code.length : Int)), (26, .int .i64 (p0.notes.length : Int)), (25, v3), (24, .pointer (some ⟨b7, 1, none⟩))] _ ⟨.bool (decide ((p0.notes.length : Int) ≠ (p0.code.length : Int))), .int .i64 (p0.code.length : Int), .int .i64 (p0.notes.length : Int), v3, .pointer (some ⟨b7, 1, none⟩), Z, (by rw [g390, Bool.false_or])⟩
 ·intro kk
  refine bcase (b := decide ((p0.code.length : Int) < 1)) (fun g391 => ?_) (fun g391 => ?_)
  ·skip
   refine U.x Z Z Z Z ((L 0 Z Z).trans (cB g391)) (by decide) ?_
   refine U.x Z Z Z Z ((L 1 Z Z).trans (cB g391)) (by decide) ?_
   refine U.p Z Z (.inl Z) (S.pickT Z ((L 2 Z Z).trans (cB g391)) K) ?_
   exact kk [(22, .bool true), (21, .tuple #[]), (20, .tuple #[])] _ ⟨.tuple #[], .tuple #[], Z, (by rw [g391, Bool.true_or])⟩
  ·skip
   refine U.p Z Z (.inr ⟨_, _, _, Z, Z, ((L 0 Z Z).trans (cB g391))⟩) (S.move Z (L 3 Z Z)) ?_
   refine U.p Z Z (.inr ⟨_, _, _, Z, Z, ((L 1 Z Z).trans (cB g391))⟩) (S.gtr Z (L 0 Z Z) K) ?_
   refine U.p Z Z (.inl Z) (S.pickF Z ((L 2 Z Z).trans (cB g391)) (L 0 Z Z)) ?_
   exact kk [(22, .bool (decide (8000 < (p0.code.length : Int)))), (21, .bool (decide (8000 < (p0.code.length : Int)))), (20, .int .i64 (p0.code.length : Int))] _ ⟨.bool (decide (8000 < (p0.code.length : Int))), .int .i64 (p0.code.length : Int), Z, (by rw [g391, Bool.false_or])⟩
theorem wk_strconv_Itoa (V : Vw) (Rs : List At) (gl : Glb V) (p0 : Int) (ow : Ow V (Rs)) (r : ByteArray) (h : strconv_Itoa p0 = some r) : ∃ v V', Cl Tryd.prog NG 27 #[.int .i64 p0] V.H v V'.H ∧ V.le V' ∧ (v = .string r ∧ Ow V' (Rs)) := by
 unfold strconv_Itoa at h
 exact itoa_cl gl.t4 (Nat.lt_of_lt_of_le (by decide) gl.lo) (by kernel_rfl) (fun w h0 h1 ht => (Tryd.strconv_Itoa p0 h0 h1 w ht).mono (by rintro e w2 ⟨rfl, k, os, rfl⟩; exact ⟨rfl, below_grown w k os⟩)) ow h
theorem wk_strings_Builder_WriteString (V : Vw) (Rs : List At) (gl : Glb V) (p0 : ByteArray) (p1 : ByteArray) (b1 : Nat) (ow : Ow V (.bd 59 5 b1 p0 :: Rs)) (r : ByteArray) (h : strings_Builder_WriteString p0 p1 = some r) : ∃ v V', Cl Tryd.prog NG 26 #[.pointer (some ⟨b1, 0, none⟩), .string p1] V.H v V'.H ∧ V.le V' ∧ (∃ (v3 : Value) (v4 : Value), v = .tuple #[v3, v4] ∧ Ow V' (.bd 59 5 b1 r :: Rs)) := by
 unfold strings_Builder_WriteString at h
 exact bw_cl (fun wb p v cs w hp hB hl => bw_calls { Tryd.lays156 with } Tryd.Builder_Extra_156 hp hB p1 hl) ow h
end Go.Vm.G15w
