/-
  What the functions compute is what the plain ones say, for all inputs at which those answer.
-/
import Derived.Test.YtdnnbobadopkeaaDoorEWG15b
set_option linter.unusedSimpArgs false
set_option linter.unusedVariables false
namespace Go.Vm.G15
open Go Go.Proofs
set_option maxHeartbeats 4000000 in
set_option maxRecDepth 10000 in
theorem wk_ref15_Bytes (V : Vw) (Rs : List At) (gl : Glb V) (p0 : TImage) (v1 : Value) (v3 : Value) (v5 : Value) (f2 : Fz (RT.int .u32) V v1 p0.code) (f4 : Fz RT_TNote V v3 p0.notes) (f6 : Fz (RT.int .i64) V v5 p0.threads) (ow : Ow V (Rs)) (r : ByteArray) (h : ref15_Bytes p0 = some r) : ∃ v V', Cl Tryd.prog NG 16 #[.agg #[v1, v3, v5]] V.H v V'.H ∧ V.le V' ∧ (v = .string r ∧ Ow V' (Rs)) := by
 refine Ct.of gl.lo Tryd.func16 rfl (nr rfl) ?_
 unfold ref15_Bytes at h
 refine WP.usreg rfl ?_
 refine O.box ow rfl rfl (.inl rfl) rfl (L 0 rfl rfl) (by simp [topV]) rfl nd (fun b7 V8 le9 ow10 => ?_)
 refine U.p rfl rfl (.inl rfl) (S.assign rfl K) ?_
 refine U.done (nr rfl) ?_
 refine WP.usdreg rfl rfl rfl ?_
 refine U.p (v := .pointer (some ⟨b7, 2, none⟩)) rfl rfl (.inl rfl) (S.fieldAddr rfl (L 1 rfl rfl) Tryd.underlying27 rfl ti25 rfl rfl) ?_
 refine U.k rfl rfl (.inl rfl) (S.load rfl (L 0 rfl rfl) Tryd.underlying25 rfl ((ow10.own (k := 0) rfl).cell rfl)) (fun _ => (okH.nil (fun r h => by cases h; exact (ow10.own (k := 0) rfl).lt))) ?_
 refine U.p rfl rfl (.inl rfl) (f6.1.len rfl (L 0 rfl rfl) Tryd.underlying25) ?_
 refine U.p rfl rfl (.inl rfl) (S.conv rfl (L 0 rfl rfl) Tryd.underlying3 Tryd.underlying5) ?_
 refine O.litX (R := (RT.int .u8)) ow10 rfl rfl (.inl rfl) rfl Tryd.underlying46 ti5 rfl rfl rfl (nr rfl) rfl (aC (L 0 rfl rfl) aN) (.cons _ _ (IntKind.wrap .u8 (p0.threads.length : Int)) _ (by simp [topV]) rfl .nil) (fun _ => (fun _ => (okH.cons trivial (okH.nil (fun r h => nomatch h))))) (fun v12 V13 le14 hb16 ow15 => ?_)
 obtain ⟨V18, eV22, le19, f20, ow21⟩ := ow15.osfz (k := 0) rfl
 rw [← eV22]
 obtain ⟨sx24, hx25, h26⟩ := bindS h
 refine O.strFB f20 hb16 hx25 rfl rfl (.inl rfl) rfl (L 0 rfl rfl) Tryd.underlying46 Tryd.underlying5 Tryd.underlying9 (fun _ => (okH.cons trivial (okH.cons trivial (okH.nil (fun r h => by cases h; exact (V18.wf _ (f20.frz hb16))))))) ?_
 obtain ⟨x27, hx28, h29⟩ := bindS h26
 refine U.p rfl rfl (.inl rfl) (S.addS hx28 rfl K (L 0 rfl rfl)) ?_
 refine U.p (v := .pointer (some ⟨b7, 0, none⟩)) rfl rfl (.inl rfl) (S.fieldAddr rfl (L 8 rfl rfl) Tryd.underlying27 rfl ti23 rfl rfl) ?_
 refine U.k rfl rfl (.inl rfl) (S.load rfl (L 0 rfl rfl) Tryd.underlying23 rfl ((ow21.own (k := 0) rfl).cell rfl)) (fun _ => (okH.cons trivial (okH.cons trivial (okH.cons trivial (okH.nil (fun r h => by cases h; exact (ow21.own (k := 0) rfl).lt)))))) ?_
 refine U.p rfl rfl (.inl rfl) (f2.1.len rfl (L 0 rfl rfl) Tryd.underlying23) ?_
 obtain ⟨x30, hx31, h32⟩ := bindS h29
 refine O.call (V := V18) rfl rfl (.inl rfl) rfl en31 (aC (L 0 rfl rfl) aN) (wk_ref15_four V18 _ (gl.up ((le9.trans le14).trans le19)) (p0.code.length : Int) ow21 _ hx31) (fun v33 V34 le35 hp36 => by obtain ⟨rfl, ow37⟩ := hp36; exact (fun _ => (okH.cons (Or.inl rfl) (okH.cons (Or.inr (le35.get _ (f20.frz hb16))) (okH.cons (Or.inr (le35.get _ (f20.frz hb16))) (okH.cons (Or.inr (((ow37.own (k := 0) rfl).get.trans (ow21.own (k := 0) rfl).get.symm))) (okH.nil (fun r h => nomatch h)))))))) (fun v33 V34 le35 hp36 => ?_)
 obtain ⟨rfl, ow37⟩ := hp36
 obtain ⟨x38, hx39, h40⟩ := bindS h32
 refine U.p rfl rfl (.inl rfl) (S.addS hx39 rfl (L 4 rfl rfl) (L 0 rfl rfl)) ?_
 refine U.p rfl rfl (.inl rfl) (S.assign rfl (L 0 rfl rfl)) ?_
 refine U.done (nr rfl) ?_
 refine WP.seq ?_
 refine WP.usreg rfl ?_
 refine U.p (v := .pointer (some ⟨b7, 2, none⟩)) rfl rfl (.inl rfl) (S.fieldAddr rfl (L 14 rfl rfl) Tryd.underlying27 rfl ti25 rfl rfl) ?_
 refine U.k rfl rfl (.inl rfl) (S.load rfl (L 0 rfl rfl) Tryd.underlying25 rfl ((ow37.own (k := 0) rfl).cell rfl)) nd ?_
 refine U.p rfl rfl (.inl rfl) (f6.1.len rfl (L 0 rfl rfl) Tryd.underlying25) ?_
 refine U.p rfl rfl (.inl rfl) (S.move rfl K) ?_
 refine U.done (nr rfl) ?_
 refine WP.blk ?_
 unfold ref15_Bytes_l1 at h40
 obtain ⟨n44, hn43⟩ := loopO_some.1 h40
 refine WP.loopI2 (fun n l V' => ∃ (x41 : ByteArray) (x42 : Int), l = [(1, .pointer (some ⟨b7, 0, none⟩)), (3, .string x41), (23, v5), (24, .int .i64 (p0.threads.length : Int)), (25, .int .i64 x42)] ∧ V34.le V' ∧ Ow V' (.pt b7 (.cells 0 [v1, v3, v5]) :: Rs) ∧ itO (fun s => ref15_Bytes_l1b p0 s.1 s.2) n (x41, x42) = some r) n44 _ ⟨x38, 0, rfl, .refl _, ow37, hn43⟩ (allCons (L 18 rfl rfl) (allCons (L 4 rfl rfl) (allCons (L 2 rfl rfl) (allCons (L 1 rfl rfl) (allCons (L 0 rfl rfl) allNil))))) ?_
 rintro _ _ V45 ⟨x41, x42, rfl, le46, ow47, h51⟩
 obtain ⟨m48, q49, rfl, h52, e50⟩ := itS h51
 replace h52 : ref15_Bytes_l1b p0 x41 x42 = some q49 := h52
 unfold ref15_Bytes_l1b at h52
 refine WP.usreg rfl ?_
 refine U.p rfl rfl (.inl rfl) (S.lss rfl (L 4 rfl rfl) (L 3 rfl rfl)) ?_
 refine U.done (nr rfl) ?_
 refine WP.seq ?_
 refine WP.cond _ (L 0 rfl rfl) rfl (fun c53 => ?_) (fun c53 => ?_)
 ·have h54 := ifT c53 h52
  refine WP.skip ?_
  refine sqN ?_
  refine WP.seq ?_
  refine WP.blk ?_
  refine WP.usreg rfl ?_
  obtain ⟨x55, hx56, h57⟩ := bindS h54
  obtain ⟨b58, o59, c60, cs61, hv62, hf63, hr64, hc65⟩ := f6.at hx56
  obtain rfl : cs61 = [.int .i64 x55] := hr64
  refine U.p rfl rfl (.inl rfl) (S.index rfl ((L 3 rfl rfl).trans hv62) (L 5 rfl rfl) Tryd.underlying25 ti3 (ix_ge hx56) (ix_lt hx56)) ?_
  refine U.k rfl rfl (.inl rfl) (S.load rfl (L 0 rfl rfl) Tryd.underlying3 rfl (((((le9.trans le14).trans le19).trans le35).trans le46).cell hf63 (hc65 0 _ rfl))) nd ?_
  refine U.p rfl rfl (.inl rfl) (S.assign rfl (L 0 rfl rfl)) ?_
  refine U.done (nr rfl) ?_
  refine WP.ureg rfl ?_
  refine U.p rfl rfl (.inl rfl) (S.move rfl (L 5 rfl rfl)) ?_
  refine U.p rfl rfl (.inl rfl) (S.move rfl (L 1 rfl rfl)) ?_
  obtain ⟨x66, hx67, h68⟩ := bindS h57
  refine O.call (V := V45) rfl rfl (.inl rfl) rfl en31 (aC (L 0 rfl rfl) aN) (wk_ref15_four V45 _ (gl.up ((((le9.trans le14).trans le19).trans le35).trans le46)) x55 ow47 _ hx67) (fun _ _ _ _ => nd) (fun v69 V70 le71 hp72 => ?_)
  obtain ⟨rfl, ow73⟩ := hp72
  obtain ⟨x74, hx75, h76⟩ := bindS h68
  refine U.p rfl rfl (.inl rfl) (S.addS hx75 rfl (L 2 rfl rfl) (L 0 rfl rfl)) ?_
  refine U.p rfl rfl (.inl rfl) (S.assign rfl (L 0 rfl rfl)) ?_
  refine U.done (nr rfl) ?_
  refine blkN (sqN ?_)
  refine WP.ureg rfl ?_
  refine U.p rfl rfl (.inl rfl) (S.add rfl (L 13 rfl rfl) K) ?_
  refine U.p rfl rfl (.inl rfl) (S.move rfl (L 0 rfl rfl)) ?_
  refine U.done (nr rfl) ?_
  refine sqN ?_
  exact ⟨_, V70, rfl, ⟨m48, Nat.lt_succ_self _, x74, w64 (x42 + 1), rfl, (le46.trans le71), ow73, backS h76 e50⟩, (allCons (L 11 rfl rfl) (allCons (L 2 rfl rfl) (allCons (L 13 rfl rfl) (allCons (L 14 rfl rfl) (allCons (L 0 rfl rfl) allNil)))))⟩
 ·have h77 := ifF c53 h52
  refine WP.exit ?_
  refine sqE (sqE (blkE (sqN ?_)))
  have h78 := exitS h77 e50
  refine WP.seq ?_
  refine WP.usreg rfl ?_
  refine U.p (v := .pointer (some ⟨b7, 0, none⟩)) rfl rfl (.inl rfl) (S.fieldAddr rfl (L 1 rfl rfl) Tryd.underlying27 rfl ti23 rfl rfl) ?_
  refine U.k rfl rfl (.inl rfl) (S.load rfl (L 0 rfl rfl) Tryd.underlying23 rfl ((ow47.own (k := 0) rfl).cell rfl)) nd ?_
  refine U.p rfl rfl (.inl rfl) (f2.1.len rfl (L 0 rfl rfl) Tryd.underlying23) ?_
  refine U.p rfl rfl (.inl rfl) (S.move rfl K) ?_
  refine U.done (nr rfl) ?_
  refine WP.blk ?_
  unfold ref15_Bytes_l2 at h78
  obtain ⟨n82, hn81⟩ := loopO_some.1 h78
  refine WP.loopI2 (fun n l V' => ∃ (x79 : ByteArray) (x80 : Int), l = [(1, .pointer (some ⟨b7, 0, none⟩)), (3, .string x79), (35, v1), (36, .int .i64 (p0.code.length : Int)), (37, .int .i64 x80)] ∧ V45.le V' ∧ Ow V' (.pt b7 (.cells 0 [v1, v3, v5]) :: Rs) ∧ itO (fun s => ref15_Bytes_l2b p0 s.1 s.2) n (x79, x80) = some r) n82 _ ⟨x41, 0, rfl, .refl _, ow47, hn81⟩ (allCons (L 5 rfl rfl) (allCons (L 6 rfl rfl) (allCons (L 2 rfl rfl) (allCons (L 1 rfl rfl) (allCons (L 0 rfl rfl) allNil))))) ?_
  rintro _ _ V83 ⟨x79, x80, rfl, le84, ow85, h89⟩
  obtain ⟨m86, q87, rfl, h90, e88⟩ := itS h89
  replace h90 : ref15_Bytes_l2b p0 x79 x80 = some q87 := h90
  unfold ref15_Bytes_l2b at h90
  refine WP.usreg rfl ?_
  refine U.p rfl rfl (.inl rfl) (S.lss rfl (L 4 rfl rfl) (L 3 rfl rfl)) ?_
  refine U.done (nr rfl) ?_
  refine WP.seq ?_
  refine WP.cond _ (L 0 rfl rfl) rfl (fun c91 => ?_) (fun c91 => ?_)
  ·have h92 := ifT c91 h90
   refine WP.skip ?_
   refine sqN ?_
   refine WP.seq ?_
   refine WP.blk ?_
   refine WP.usreg rfl ?_
   refine U.p rfl rfl (.inl rfl) (S.move rfl (L 5 rfl rfl)) ?_
   obtain ⟨x93, hx94, h95⟩ := bindS h92
   obtain ⟨b96, o97, c98, cs99, hv100, hf101, hr102, hc103⟩ := f2.at hx94
   obtain rfl : cs99 = [.int .u32 x93] := hr102
   refine U.p rfl rfl (.inl rfl) (S.index rfl ((L 4 rfl rfl).trans hv100) (L 6 rfl rfl) Tryd.underlying23 ti39 (ix_ge hx94) (ix_lt hx94)) ?_
   refine U.k rfl rfl (.inl rfl) (S.load rfl (L 0 rfl rfl) Tryd.underlying39 rfl ((((((le9.trans le14).trans le19).trans le35).trans le46).trans le84).cell hf101 (hc103 0 _ rfl))) nd ?_
   refine U.p rfl rfl (.inl rfl) (S.assign rfl (L 2 rfl rfl)) ?_
   refine U.p rfl rfl (.inl rfl) (S.assign rfl (L 1 rfl rfl)) ?_
   refine U.done (nr rfl) ?_
   refine WP.usreg rfl ?_
   refine U.p (v := .pointer (some ⟨b7, 1, none⟩)) rfl rfl (.inl rfl) (S.fieldAddr rfl (L 6 rfl rfl) Tryd.underlying27 rfl ti24 rfl rfl) ?_
   refine U.k rfl rfl (.inl rfl) (S.load rfl (L 0 rfl rfl) Tryd.underlying24 rfl ((ow85.own (k := 0) rfl).cell rfl)) nd ?_
   refine U.p rfl rfl (.inl rfl) (S.move rfl (L 3 rfl rfl)) ?_
   obtain ⟨x104, hx105, h106⟩ := bindS h95
   obtain ⟨b107, o108, c109, cs110, hv111, hf112, hr113, hc114⟩ := f4.at hx105
   obtain rfl : cs110 = [.int .i64 x104.role, .int .i64 x104.what, .bool x104.volatile, .bool x104.final] := hr113
   refine U.p rfl rfl (.inl rfl) (S.index rfl ((L 1 rfl rfl).trans hv111) (L 0 rfl rfl) Tryd.underlying24 ti42 (ix_ge hx105) (ix_lt hx105)) ?_
   refine U.k rfl rfl (.inl rfl) (S.loadN (cs := [.int .i64 x104.role, .int .i64 x104.what, .bool x104.volatile, .bool x104.final]) rfl (L 0 rfl rfl) Tryd.underlying42 rfl ti42 rfl (fun j v hj => (((((le9.trans le14).trans le19).trans le35).trans le46).trans le84).cell hf112 (hc114 j v hj))) nd ?_
   refine O.alloc ow85 rfl rfl (.inl rfl) rfl ti42 rfl rfl nd (fun b115 V116 le117 ow118 => ?_)
   refine O.store (k := 0) (cs := [.int .i64 x104.role, .int .i64 x104.what, .bool x104.volatile, .bool x104.final]) (c' := [.int .i64 x104.role, .int .i64 x104.what, .bool x104.volatile, .bool x104.final]) ow118 rfl rfl rfl (.inl rfl) rfl (L 0 rfl rfl) (L 1 rfl rfl) ti42 (by simp [topV]) rfl rfl (nr rfl) rfl rfl nd (fun V120 le121 ow122 => ?_)
   refine U.done (nr rfl) ?_
   refine WP.usreg rfl ?_
   refine U.p (v := .pointer (some ⟨b115, 0, none⟩)) rfl rfl (.inl rfl) (S.fieldAddr rfl (L 0 rfl rfl) Tryd.underlying42 rfl ti3 rfl rfl) ?_
   refine U.k rfl rfl (.inl rfl) (S.load rfl (L 0 rfl rfl) Tryd.underlying3 rfl ((ow122.own (k := 0) rfl).cell rfl)) nd ?_
   refine U.p (v := .pointer (some ⟨b115, 1, none⟩)) rfl rfl (.inl rfl) (S.fieldAddr rfl (L 2 rfl rfl) Tryd.underlying42 rfl ti3 rfl rfl) ?_
   refine U.k rfl rfl (.inl rfl) (S.load rfl (L 0 rfl rfl) Tryd.underlying3 rfl ((ow122.own (k := 0) rfl).cell rfl)) nd ?_
   refine U.p rfl rfl (.inl rfl) (S.mul rfl K (L 0 rfl rfl)) ?_
   refine U.p rfl rfl (.inl rfl) (S.add rfl (L 3 rfl rfl) (L 0 rfl rfl)) ?_
   refine U.p rfl rfl (.inl rfl) (S.assign rfl (L 0 rfl rfl)) ?_
   refine U.done (nr rfl) ?_
   refine WP.seqI (fun l V' => ∃ (x123 : Int), l = [(1, .pointer (some ⟨b7, 0, none⟩)), (3, .string x79), (7, .int .u32 x93), (8, .pointer (some ⟨b115, 0, none⟩)), (9, .int .i64 x123), (35, v1), (36, .int .i64 (p0.code.length : Int)), (37, .int .i64 x80)] ∧ V120.le V' ∧ Ow V' (.pt b7 (.cells 0 [v1, v3, v5]) :: .pt b115 (.cells 4 [.int .i64 x104.role, .int .i64 x104.what, .bool x104.volatile, .bool x104.final]) :: Rs) ∧ ref15_Bytes_k1 x79 x80 x93 x104 x123 = some q87) ?_ ?_
   ·rintro _ V124 ⟨x123, rfl, le125, ow126, h127⟩
    unfold ref15_Bytes_k1 at h127
    refine WP.seqI (fun l V' => ∃ (x128 : Int), l = [(1, .pointer (some ⟨b7, 0, none⟩)), (3, .string x79), (7, .int .u32 x93), (9, .int .i64 x128), (35, v1), (36, .int .i64 (p0.code.length : Int)), (37, .int .i64 x80)] ∧ V124.le V' ∧ Ow V' (.pt b7 (.cells 0 [v1, v3, v5]) :: Rs) ∧ ref15_Bytes_k2 x79 x80 x93 x128 = some q87) ?_ ?_
    ·rintro _ V129 ⟨x128, rfl, le130, ow131, h132⟩
     unfold ref15_Bytes_k2 at h132
     refine WP.udreg rfl rfl rfl ?_
     refine U.p rfl rfl (.inl rfl) (S.move rfl (L 1 rfl rfl)) ?_
     refine U.p rfl rfl (.inl rfl) (S.move rfl (L 3 rfl rfl)) ?_
     refine U.p rfl rfl (.inl rfl) (S.conv rfl (L 0 rfl rfl) Tryd.underlying39 Tryd.underlying3) ?_
     obtain ⟨x133, hx134, h135⟩ := bindS h132
     refine O.call (V := V129) rfl rfl (.inl rfl) rfl en31 (aC (L 0 rfl rfl) aN) (wk_ref15_four V129 _ (gl.up (((((((((le9.trans le14).trans le19).trans le35).trans le46).trans le84).trans le117).trans le121).trans le125).trans le130)) (w64 x93) ow131 _ hx134) (fun v136 V137 le138 hp139 => by obtain ⟨rfl, ow140⟩ := hp139; exact (fun _ => (okH.nil (fun r h => nomatch h)))) (fun v136 V137 le138 hp139 => ?_)
     obtain ⟨rfl, ow140⟩ := hp139
     obtain ⟨x141, hx142, h143⟩ := bindS h135
     refine U.p rfl rfl (.inl rfl) (S.addS hx142 rfl (L 3 rfl rfl) (L 0 rfl rfl)) ?_
     refine U.p rfl rfl (.inl rfl) (S.move rfl (L 8 rfl rfl)) ?_
     refine U.p rfl rfl (.inl rfl) (S.conv rfl (L 0 rfl rfl) Tryd.underlying3 Tryd.underlying5) ?_
     refine O.litX (R := (RT.int .u8)) ow140 rfl rfl (.inl rfl) rfl Tryd.underlying46 ti5 rfl rfl rfl (nr rfl) rfl (aC (L 0 rfl rfl) aN) (.cons _ _ (IntKind.wrap .u8 x128) _ (by simp [topV]) rfl .nil) (fun _ => (fun _ => (okH.cons trivial (okH.nil (fun r h => nomatch h))))) (fun v144 V145 le146 hb148 ow147 => ?_)
     obtain ⟨V150, eV154, le151, f152, ow153⟩ := ow147.osfz (k := 0) rfl
     rw [← eV154]
     obtain ⟨sx156, hx157, h158⟩ := bindS h143
     refine O.strFB f152 hb148 hx157 rfl rfl (.inl rfl) rfl (L 0 rfl rfl) Tryd.underlying46 Tryd.underlying5 Tryd.underlying9 (fun _ => (okH.cons trivial (okH.cons (Or.inr (Or.inr (le138.next))) (okH.nil (fun r h => by cases h; exact (V150.wf _ (f152.frz hb148))))))) ?_
     obtain ⟨x159, hx160, h161⟩ := bindS h158
     refine U.p rfl rfl (.inl rfl) (S.addS hx160 rfl (L 4 rfl rfl) (L 0 rfl rfl)) ?_
     refine U.p rfl rfl (.inl rfl) (S.assign rfl (L 0 rfl rfl)) ?_
     refine U.done (nr rfl) ?_
     refine blkN (sqN ?_)
     refine WP.ureg rfl ?_
     refine U.p rfl rfl (.inl rfl) (S.add rfl (L 17 rfl rfl) K) ?_
     refine U.p rfl rfl (.inl rfl) (S.move rfl (L 0 rfl rfl)) ?_
     refine U.done (nr rfl) ?_
     refine sqN ?_
     exact ⟨_, V150, rfl, ⟨m86, Nat.lt_succ_self _, x159, w64 (x80 + 1), rfl, (((((((le84.trans le117).trans le121).trans le125).trans le130).trans le138).trans le146).trans le151), ow153, backS h161 e88⟩, (allCons (L 13 rfl rfl) (allCons (L 2 rfl rfl) (allCons (L 17 rfl rfl) (allCons (L 18 rfl rfl) (allCons (L 0 rfl rfl) allNil)))))⟩
    ·skip
     refine WP.usreg rfl ?_
     refine U.p (v := .pointer (some ⟨b115, 3, none⟩)) rfl rfl (.inl rfl) (S.fieldAddr rfl (L 3 rfl rfl) Tryd.underlying42 rfl ti4 rfl rfl) ?_
     refine U.k rfl rfl (.inl rfl) (S.load rfl (L 0 rfl rfl) Tryd.underlying4 rfl ((ow126.own (k := 1) rfl).cell rfl)) nd ?_
     refine U.done (nr rfl) ?_
     refine WP.cond _ (L 0 rfl rfl) rfl (fun c162 => ?_) (fun c162 => ?_)
     ·have h163 := ifT c162 h127
      refine WP.ureg rfl ?_
      refine U.p rfl rfl (.inl rfl) (S.move rfl (L 6 rfl rfl)) ?_
      refine U.p rfl rfl (.inl rfl) (S.add rfl (L 0 rfl rfl) K) ?_
      refine U.p rfl rfl (.inl rfl) (S.assign rfl (L 0 rfl rfl)) ?_
      refine U.done (nr rfl) ?_
      refine sqN ?_
      have ow164 := ow126.drop 1 rfl
      exact ⟨_, V124, rfl, ⟨w64 (x123 + 128), rfl, (.refl _), ow164, h163⟩, (allCons (L 5 rfl rfl) (allCons (L 6 rfl rfl) (allCons (L 7 rfl rfl) (allCons (L 0 rfl rfl) (allCons (L 10 rfl rfl) (allCons (L 11 rfl rfl) (allCons (L 12 rfl rfl) allNil)))))))⟩
     ·have h165 := ifF c162 h127
      refine WP.skip ?_
      refine sqN ?_
      have ow166 := ow126.drop 1 rfl
      exact ⟨_, V124, rfl, ⟨x123, rfl, (.refl _), ow166, h165⟩, (allCons (L 2 rfl rfl) (allCons (L 3 rfl rfl) (allCons (L 4 rfl rfl) (allCons (L 6 rfl rfl) (allCons (L 7 rfl rfl) (allCons (L 8 rfl rfl) (allCons (L 9 rfl rfl) allNil)))))))⟩
   ·skip
    refine WP.usreg rfl ?_
    refine U.p (v := .pointer (some ⟨b115, 2, none⟩)) rfl rfl (.inl rfl) (S.fieldAddr rfl (L 7 rfl rfl) Tryd.underlying42 rfl ti4 rfl rfl) ?_
    refine U.k rfl rfl (.inl rfl) (S.load rfl (L 0 rfl rfl) Tryd.underlying4 rfl ((ow122.own (k := 0) rfl).cell rfl)) nd ?_
    refine U.done (nr rfl) ?_
    refine WP.cond _ (L 0 rfl rfl) rfl (fun c167 => ?_) (fun c167 => ?_)
    ·have h168 := ifT c167 h106
     refine WP.ureg rfl ?_
     refine U.p rfl rfl (.inl rfl) (S.move rfl (L 2 rfl rfl)) ?_
     refine U.p rfl rfl (.inl rfl) (S.add rfl (L 0 rfl rfl) K) ?_
     refine U.p rfl rfl (.inl rfl) (S.assign rfl (L 0 rfl rfl)) ?_
     refine U.done (nr rfl) ?_
     refine sqN ?_
     have ow169 := ow122.pick 0 rfl
     have ow170 := ow169.pick 1 rfl
     exact ⟨_, V120, rfl, ⟨w64 ((w64 (x104.role + (w64 (8 * x104.what)))) + 64), rfl, (.refl _), ow170, h168⟩, (allCons (L 24 rfl rfl) (allCons (L 25 rfl rfl) (allCons (L 18 rfl rfl) (allCons (L 12 rfl rfl) (allCons (L 0 rfl rfl) (allCons (L 26 rfl rfl) (allCons (L 27 rfl rfl) (allCons (L 28 rfl rfl) allNil))))))))⟩
    ·have h171 := ifF c167 h106
     refine WP.skip ?_
     refine sqN ?_
     have ow172 := ow122.pick 0 rfl
     have ow173 := ow172.pick 1 rfl
     exact ⟨_, V120, rfl, ⟨w64 (x104.role + (w64 (8 * x104.what))), rfl, (.refl _), ow173, h171⟩, (allCons (L 21 rfl rfl) (allCons (L 22 rfl rfl) (allCons (L 15 rfl rfl) (allCons (L 9 rfl rfl) (allCons (L 2 rfl rfl) (allCons (L 23 rfl rfl) (allCons (L 24 rfl rfl) (allCons (L 25 rfl rfl) allNil))))))))⟩
  ·have h174 := ifF c91 h90
   refine WP.exit ?_
   refine sqE (sqE (blkE (sqN ?_)))
   have h175 := exitS h174 e88
   refine WP.usreg rfl ?_
   refine U.p rfl rfl (.inl rfl) (S.move rfl (L 2 rfl rfl)) ?_
   refine U.p rfl rfl (.inl rfl) (S.assign rfl (L 0 rfl rfl)) ?_
   refine U.done (nr rfl) ?_
   refine WP.ret ?_
   refine fin.slot (.inr rfl) rfl (L 0 rfl rfl) ⟨V83, rfl, (((((le9.trans le14).trans le19).trans le35).trans le46).trans le84), ?_⟩
   have ow176 := ow85.drop 0 rfl
   have e177 := Option.some.inj h175
   subst e177
   exact ⟨rfl, ow176⟩
set_option maxHeartbeats 4000000 in
set_option maxRecDepth 10000 in
theorem wk_ref15_Read (V : Vw) (Rs : List At) (gl : Glb V) (p0 : ByteArray) (ow : Ow V (Rs)) (r : TImage × Bool) (h : ref15_Read p0 = some r) : ∃ v V', Cl Tryd.prog NG 8 #[.string p0] V.H v V'.H ∧ V.le V' ∧ (∃ (v1 : Value) (v3 : Value) (v5 : Value), v = .tuple #[.agg #[v1, v3, v5], .bool r.2] ∧ Fz (RT.int .u32) V' v1 r.1.code ∧ Fz RT_TNote V' v3 r.1.notes ∧ Fz (RT.int .i64) V' v5 r.1.threads ∧ Ow V' (Rs)) := by
 refine Ct.of gl.lo Tryd.func8 rfl (nr rfl) ?_
 unfold ref15_Read at h
 refine WP.usreg rfl ?_
 refine O.alloc ow rfl rfl (.inl rfl) rfl ti27 rfl rfl nd (fun b7 V8 le9 ow10 => ?_)
 refine U.p rfl rfl (.inl rfl) (S.assign rfl K) ?_
 refine U.done (nr rfl) ?_
 refine WP.usreg rfl ?_
 refine O.alloc ow10 rfl rfl (.inl rfl) rfl ti27 rfl rfl nd (fun b12 V13 le14 ow15 => ?_)
 refine U.done (nr rfl) ?_
 refine WP.seq ?_
 refine WP.usreg rfl ?_
 refine U.p rfl rfl (.inl rfl) (S.move rfl (L 3 rfl rfl)) ?_
 refine U.p rfl rfl (.inl rfl) (S.lenStr rfl (L 0 rfl rfl) Tryd.underlying9) ?_
 refine U.p rfl rfl (.inl rfl) (S.lss rfl (L 0 rfl rfl) K) ?_
 refine U.done (nr rfl) ?_
 refine WP.cond _ (L 0 rfl rfl) rfl (fun c17 => ?_) (fun c17 => ?_)
 ·have h18 := ifT c17 h
  refine WP.usreg rfl ?_
  refine U.k rfl rfl (.inl rfl) (S.loadB rfl (L 3 rfl rfl) Tryd.underlying27 rfl ti27 (ow15.own (k := 0) rfl).get rfl) nd ?_
  refine O.store (k := 1) (cs := [.slice none 0 0, .slice none 0 0, .slice none 0 0]) (c' := [.slice none 0 0, .slice none 0 0, .slice none 0 0]) ow15 rfl rfl rfl (.inl rfl) rfl (L 6 rfl rfl) (L 0 rfl rfl) ti27 (by simp [topV]) rfl rfl (nr rfl) rfl rfl nd (fun V19 le20 ow21 => ?_)
  refine U.p rfl rfl (.inl rfl) (S.assign rfl K) ?_
  refine U.done (nr rfl) ?_
  refine WP.ret ?_
  refine sqR ?_
  refine fin.mix (.inr rfl) (resA (L 7 rfl rfl) Tryd.underlying27 rfl ti27 (ow21.own (k := 1) rfl).get rfl (resT (L 0 rfl rfl) res0)) rfl ⟨V19, rfl, ((le9.trans le14).trans le20), ?_⟩
  have ow22 := ow21.drop 0 rfl
  have ow23 := ow22.drop 0 rfl
  have e24 := Option.some.inj h18
  subst e24
  exact ⟨(.slice none 0 0), (.slice none 0 0), (.slice none 0 0), rfl, Fz.nil, Fz.nil, Fz.nil, ow23⟩
 ·have h25 := ifF c17 h
  refine WP.skip ?_
  refine sqN ?_
  refine WP.usdreg rfl rfl rfl ?_
  refine U.p rfl rfl (.inl rfl) (S.move rfl (L 6 rfl rfl)) ?_
  obtain ⟨x26, hx27, h28⟩ := bindS h25
  refine U.p rfl rfl (.inl rfl) (S.indexS hx27 rfl (L 0 rfl rfl) K Tryd.underlying9) ?_
  refine U.p rfl rfl (.inl rfl) (S.conv rfl (L 0 rfl rfl) Tryd.underlying5 Tryd.underlying3) ?_
  refine U.p rfl rfl (.inl rfl) (S.move rfl (L 9 rfl rfl)) ?_
  obtain ⟨x29, hx30, h31⟩ := bindS h28
  refine O.call (V := V13) rfl rfl (.inl rfl) rfl en19 (aC (L 0 rfl rfl) (aC K aN)) (wk_ref15_num V13 _ (gl.up (le9.trans le14)) p0 5 ow15 _ hx30) (fun v32 V33 le34 hp35 => by obtain ⟨rfl, ow36⟩ := hp35; exact (fun _ => (okH.nil (fun r h => nomatch h)))) (fun v32 V33 le34 hp35 => ?_)
  obtain ⟨rfl, ow36⟩ := hp35
  refine U.p rfl rfl (.inl rfl) (S.assign rfl (L 2 rfl rfl)) ?_
  refine U.p rfl rfl (.inl rfl) (S.assign rfl (L 1 rfl rfl)) ?_
  refine U.done (nr rfl) ?_
  refine WP.seq ?_
  refine WP.usreg rfl ?_
  refine U.p rfl rfl (.inl rfl) (S.move rfl (L 0 rfl rfl)) ?_
  refine U.p rfl rfl (.inl rfl) (S.gtr rfl (L 0 rfl rfl) K) ?_
  refine U.p rfl rfl (.inl rfl) (S.move rfl (L 0 rfl rfl)) ?_
  refine U.joinX 13 (fun e H => ∃ (u37 u38 u39 u40 u41 u42 u43 u44 u45 : Value), H = V33.H ∧ e = [(32, .bool ((decide (8000 < x29)) || (decide ((p0.size : Int) ≠ (w64 ((w64 (9 + (w64 (4 * (w64 x26))))) + (w64 (5 * x29)))))))), (31, u37), (30, u38), (29, u39), (28, u40), (27, u41), (26, u42), (25, u43), (24, u44), (23, u45)]) ?_ ?_
  ·rintro _ _ ⟨u37, u38, u39, u40, u41, u42, u43, u44, u45, rfl, rfl⟩
   refine U.done (nr rfl) ?_
   refine WP.cond _ (L 0 rfl rfl) rfl (fun c49 => ?_) (fun c49 => ?_)
   ·have h50 := ifT c49 h31
    refine WP.usreg rfl ?_
    refine U.k rfl rfl (.inl rfl) (S.loadB rfl (L 23 rfl rfl) Tryd.underlying27 rfl ti27 (ow36.own (k := 0) rfl).get rfl) nd ?_
    refine O.store (k := 1) (cs := [.slice none 0 0, .slice none 0 0, .slice none 0 0]) (c' := [.slice none 0 0, .slice none 0 0, .slice none 0 0]) ow36 rfl rfl rfl (.inl rfl) rfl (L 26 rfl rfl) (L 0 rfl rfl) ti27 (by simp [topV]) rfl rfl (nr rfl) rfl rfl nd (fun V51 le52 ow53 => ?_)
    refine U.p rfl rfl (.inl rfl) (S.assign rfl K) ?_
    refine U.done (nr rfl) ?_
    refine WP.ret ?_
    refine sqR ?_
    refine fin.mix (.inr rfl) (resA (L 27 rfl rfl) Tryd.underlying27 rfl ti27 (ow53.own (k := 1) rfl).get rfl (resT (L 0 rfl rfl) res0)) rfl ⟨V51, rfl, (((le9.trans le14).trans le34).trans le52), ?_⟩
    have ow54 := ow53.drop 0 rfl
    have ow55 := ow54.drop 0 rfl
    have e56 := Option.some.inj h50
    subst e56
    exact ⟨(.slice none 0 0), (.slice none 0 0), (.slice none 0 0), rfl, Fz.nil, Fz.nil, Fz.nil, ow55⟩
   ·have h57 := ifF c49 h31
    refine WP.skip ?_
    refine sqN ?_
    refine WP.seq ?_
    refine WP.usreg rfl ?_
    refine U.p rfl rfl (.inl rfl) (S.assign rfl K) ?_
    refine U.done (nr rfl) ?_
    refine WP.blk ?_
    have ow62 := ow36.nil (RT.int .i64)
    have ow64 := ow62.pick 0 rfl
    have ow65 := ow64.pick 1 rfl
    have ow66 := ow65.pick 2 rfl
    unfold ref15_Read_l1 at h57
    obtain ⟨n68, hn67⟩ := loopO_some.1 h57
    refine WP.loopI2 (fun n l V' => ∃ (v59 : Value) (xs60 : List Int) (x61 : Int), l = [(0, .string p0), (2, .pointer (some ⟨b7, 0, none⟩)), (4, .pointer (some ⟨b12, 0, none⟩)), (5, .int .i64 (w64 x26)), (6, .int .i64 x29), (7, .int .i64 x61)] ∧ V33.le V' ∧ Ow V' (.pt b7 (.cells 3 [.slice none 0 0, .slice none 0 0, .slice none 0 0]) :: .pt b12 (.cells 3 [.slice none 0 0, .slice none 0 0, v59]) :: .os (RT.int .i64) v59 xs60 :: Rs) ∧ itO (fun s => ref15_Read_l1b p0 x26 x29 s.1 s.2) n (xs60, x61) = some r) n68 _ ⟨(.slice none 0 0), [], 0, rfl, .refl _, ow66, hn67⟩ (allCons (L 27 rfl rfl) (allCons (L 26 rfl rfl) (allCons (L 24 rfl rfl) (allCons (L 15 rfl rfl) (allCons (L 14 rfl rfl) (allCons (L 0 rfl rfl) allNil)))))) ?_
    rintro _ _ V69 ⟨v59, xs60, x61, rfl, le70, ow71, h75⟩
    obtain ⟨m72, q73, rfl, h76, e74⟩ := itS h75
    replace h76 : ref15_Read_l1b p0 x26 x29 xs60 x61 = some q73 := h76
    unfold ref15_Read_l1b at h76
    refine WP.seq ?_
    refine WP.usreg rfl ?_
    refine U.p rfl rfl (.inl rfl) (S.move rfl (L 5 rfl rfl)) ?_
    refine U.p rfl rfl (.inl rfl) (S.move rfl (L 4 rfl rfl)) ?_
    refine U.p rfl rfl (.inl rfl) (S.lss rfl (L 1 rfl rfl) (L 0 rfl rfl)) ?_
    refine U.done (nr rfl) ?_
    refine WP.cond _ (L 0 rfl rfl) rfl (fun c77 => ?_) (fun c77 => ?_)
    ·have h78 := ifT c77 h76
     refine WP.skip ?_
     refine sqN ?_
     refine WP.seq ?_
     refine WP.blk ?_
     refine WP.udreg rfl rfl rfl ?_
     refine U.p (v := .pointer (some ⟨b12, 2, none⟩)) rfl rfl (.inl rfl) (S.fieldAddr rfl (L 5 rfl rfl) Tryd.underlying27 rfl ti25 rfl rfl) ?_
     refine U.k rfl rfl (.inl rfl) (S.load rfl (L 0 rfl rfl) Tryd.underlying25 rfl ((ow71.own (k := 1) rfl).cell rfl)) (fun _ => (okH.nil (fun r h => by cases h; exact (ow71.own (k := 1) rfl).lt))) ?_
     refine U.p rfl rfl (.inl rfl) (S.move rfl (L 5 rfl rfl)) ?_
     refine U.p rfl rfl (.inl rfl) (S.move rfl (L 11 rfl rfl)) ?_
     refine U.p rfl rfl (.inl rfl) (S.mul rfl K (L 0 rfl rfl)) ?_
     refine U.p rfl rfl (.inl rfl) (S.add rfl K (L 0 rfl rfl)) ?_
     obtain ⟨x79, hx80, h81⟩ := bindS h78
     refine O.call (V := V69) rfl rfl (.inl rfl) rfl en19 (aC (L 3 rfl rfl) (aC (L 0 rfl rfl) aN)) (wk_ref15_num V69 _ (gl.up (((le9.trans le14).trans le34).trans le70)) p0 (w64 (9 + (w64 (4 * x61)))) ow71 _ hx80) (fun v82 V83 le84 hp85 => by obtain ⟨rfl, ow86⟩ := hp85; exact (fun _ => (okH.cons (Or.inr (((ow86.own (k := 1) rfl).get.trans (ow71.own (k := 1) rfl).get.symm))) (okH.nil (fun r h => nomatch h))))) (fun v82 V83 le84 hp85 => ?_)
     obtain ⟨rfl, ow86⟩ := hp85
     refine O.lit (R := (RT.int .i64)) ow86 rfl rfl (.inl rfl) rfl Tryd.underlying25 ti3 rfl rfl rfl (nr rfl) rfl (aC (L 0 rfl rfl) aN) (.cons _ _ x79 _ (by simp [topV]) rfl .nil) (fun _ => (fun _ => (okH.cons trivial (okH.cons trivial (okH.nil (fun r h => nomatch h)))))) (fun v87 V88 le89 ow90 => ?_)
     obtain ⟨xs92, hx93, h94⟩ := bindS h81
     refine O.append (k := 3) ow90 rfl rfl rfl (.inl rfl) rfl (L 6 rfl rfl) (L 0 rfl rfl) Tryd.underlying25 ti3 rfl rfl (nr rfl) (ow90.src (k := 0) rfl Tryd.underlying25) hx93 (fun V1 hs => (fun _ => (okH.cons (Or.inl rfl) (okH.cons rfl (okH.cons (Or.inl rfl) (okH.nil (fun r h => nomatch h))))))) (fun v95 V96 le97 ow98 => ?_)
     refine U.p (v := .pointer (some ⟨b12, 2, none⟩)) rfl rfl (.inl rfl) (S.fieldAddr rfl (L 14 rfl rfl) Tryd.underlying27 rfl ti25 rfl rfl) ?_
     refine O.store (k := 2) (cs := [v95]) (c' := [.slice none 0 0, .slice none 0 0, v95]) ow98 rfl rfl rfl (.inl rfl) rfl (L 0 rfl rfl) (L 1 rfl rfl) ti25 (ow98.osne (k := 3) rfl) (by rw [ow98.oscells (k := 3) rfl]) rfl (nr rfl) (by have q0 := (ow98.osone (k := 3) rfl); simp only [List.all_cons, List.all_nil, q0]; rfl) rfl (fun _ => (okH.cons rfl (okH.cons (Or.inl rfl) (okH.cons rfl (okH.cons (Or.inl rfl) (okH.nil (fun r h => nomatch h))))))) (fun V100 le101 ow102 => ?_)
     refine U.done (nr rfl) ?_
     refine blkN (sqN ?_)
     refine WP.ureg rfl ?_
     refine U.p rfl rfl (.inl rfl) (S.move rfl (L 18 rfl rfl)) ?_
     refine U.p rfl rfl (.inl rfl) (S.add rfl (L 0 rfl rfl) K) ?_
     refine U.p rfl rfl (.inl rfl) (S.assign rfl (L 0 rfl rfl)) ?_
     refine U.done (nr rfl) ?_
     refine sqN ?_
     have ow103 := ow102.drop 0 rfl
     exact ⟨_, V100, rfl, ⟨m72, Nat.lt_succ_self _, v95, xs92, w64 (x61 + 1), rfl, ((((le70.trans le84).trans le89).trans le97).trans le101), ow103, backS h94 e74⟩, (allCons (L 16 rfl rfl) (allCons (L 17 rfl rfl) (allCons (L 18 rfl rfl) (allCons (L 19 rfl rfl) (allCons (L 20 rfl rfl) (allCons (L 0 rfl rfl) allNil))))))⟩
    ·have h104 := ifF c77 h76
     refine WP.exit ?_
     refine sqE (sqE (blkE (sqN ?_)))
     have h105 := exitS h104 e74
     refine WP.seq ?_
     refine WP.usreg rfl ?_
     refine U.p rfl rfl (.inl rfl) (S.assign rfl K) ?_
     refine U.done (nr rfl) ?_
     refine WP.blk ?_
     have ow113 := ow71.nil (RT.int .u32)
     have ow115 := ow113.nil RT_TNote
     have ow117 := ow115.pick 4 rfl
     have ow118 := ow117.pick 1 rfl
     have ow119 := ow118.pick 2 rfl
     have ow120 := ow119.pick 4 rfl
     have ow121 := ow120.pick 4 rfl
     unfold ref15_Read_l2 at h105
     obtain ⟨n123, hn122⟩ := loopO_some.1 h105
     refine WP.loopI2 (fun n l V' => ∃ (v107 : Value) (xs108 : List Int) (v110 : Value) (xs111 : List TNote) (x112 : Int), l = [(0, .string p0), (2, .pointer (some ⟨b7, 0, none⟩)), (4, .pointer (some ⟨b12, 0, none⟩)), (5, .int .i64 (w64 x26)), (6, .int .i64 x29), (8, .int .i64 x112)] ∧ V69.le V' ∧ Ow V' (.pt b7 (.cells 3 [.slice none 0 0, .slice none 0 0, .slice none 0 0]) :: .pt b12 (.cells 3 [v107, v110, v59]) :: .os (RT.int .u32) v107 xs108 :: .os RT_TNote v110 xs111 :: .os (RT.int .i64) v59 xs60 :: Rs) ∧ itO (fun s => ref15_Read_l2b p0 x26 x29 xs60 s.1 s.2.1 s.2.2) n (xs108, xs111, x112) = some r) n123 _ ⟨(.slice none 0 0), [], (.slice none 0 0), [], 0, rfl, .refl _, ow121, hn122⟩ (allCons (L 4 rfl rfl) (allCons (L 5 rfl rfl) (allCons (L 6 rfl rfl) (allCons (L 7 rfl rfl) (allCons (L 8 rfl rfl) (allCons (L 0 rfl rfl) allNil)))))) ?_
     rintro _ _ V124 ⟨v107, xs108, v110, xs111, x112, rfl, le125, ow126, h130⟩
     obtain ⟨m127, q128, rfl, h131, e129⟩ := itS h130
     replace h131 : ref15_Read_l2b p0 x26 x29 xs60 xs108 xs111 x112 = some q128 := h131
     unfold ref15_Read_l2b at h131
     refine WP.seq ?_
     refine WP.usreg rfl ?_
     refine U.p rfl rfl (.inl rfl) (S.move rfl (L 5 rfl rfl)) ?_
     refine U.p rfl rfl (.inl rfl) (S.move rfl (L 5 rfl rfl)) ?_
     refine U.p rfl rfl (.inl rfl) (S.lss rfl (L 1 rfl rfl) (L 0 rfl rfl)) ?_
     refine U.done (nr rfl) ?_
     refine WP.cond _ (L 0 rfl rfl) rfl (fun c132 => ?_) (fun c132 => ?_)
     ·have h133 := ifT c132 h131
      refine WP.skip ?_
      refine sqN ?_
      refine WP.seq ?_
      refine WP.blk ?_
      refine WP.usreg rfl ?_
      refine U.p rfl rfl (.inl rfl) (S.move rfl (L 6 rfl rfl)) ?_
      refine U.p rfl rfl (.inl rfl) (S.mul rfl K (L 0 rfl rfl)) ?_
      refine U.p rfl rfl (.inl rfl) (S.add rfl K (L 0 rfl rfl)) ?_
      refine U.p rfl rfl (.inl rfl) (S.move rfl (L 11 rfl rfl)) ?_
      refine U.p rfl rfl (.inl rfl) (S.mul rfl K (L 0 rfl rfl)) ?_
      refine U.p rfl rfl (.inl rfl) (S.add rfl (L 2 rfl rfl) (L 0 rfl rfl)) ?_
      refine U.p rfl rfl (.inl rfl) (S.assign rfl (L 0 rfl rfl)) ?_
      refine U.done (nr rfl) ?_
      refine WP.usreg rfl ?_
      refine U.p rfl rfl (.inl rfl) (S.move rfl (L 10 rfl rfl)) ?_
      refine U.p rfl rfl (.inl rfl) (S.move rfl (L 1 rfl rfl)) ?_
      refine U.p rfl rfl (.inl rfl) (S.add rfl (L 0 rfl rfl) K) ?_
      obtain ⟨x134, hx135, h136⟩ := bindS h133
      refine U.p rfl rfl (.inl rfl) (S.indexS hx135 rfl (L 2 rfl rfl) (L 0 rfl rfl) Tryd.underlying9) ?_
      refine U.p rfl rfl (.inl rfl) (S.conv rfl (L 0 rfl rfl) Tryd.underlying5 Tryd.underlying3) ?_
      refine U.p rfl rfl (.inl rfl) (S.assign rfl (L 0 rfl rfl)) ?_
      refine U.done (nr rfl) ?_
      refine WP.usdreg rfl rfl rfl ?_
      refine U.p (v := .pointer (some ⟨b12, 0, none⟩)) rfl rfl (.inl rfl) (S.fieldAddr rfl (L 18 rfl rfl) Tryd.underlying27 rfl ti23 rfl rfl) ?_
      refine U.k rfl rfl (.inl rfl) (S.load rfl (L 0 rfl rfl) Tryd.underlying23 rfl ((ow126.own (k := 1) rfl).cell rfl)) (fun _ => (okH.nil (fun r h => by cases h; exact (ow126.own (k := 1) rfl).lt))) ?_
      refine U.p rfl rfl (.inl rfl) (S.move rfl (L 18 rfl rfl)) ?_
      refine U.p rfl rfl (.inl rfl) (S.move rfl (L 9 rfl rfl)) ?_
      obtain ⟨x137, hx138, h139⟩ := bindS h136
      refine O.call (V := V124) rfl rfl (.inl rfl) rfl en19 (aC (L 1 rfl rfl) (aC (L 0 rfl rfl) aN)) (wk_ref15_num V124 _ (gl.up ((((le9.trans le14).trans le34).trans le70).trans le125)) p0 (w64 ((w64 (9 + (w64 (4 * (w64 x26))))) + (w64 (5 * x112)))) ow126 _ hx138) (fun v140 V141 le142 hp143 => by obtain ⟨rfl, ow144⟩ := hp143; exact (fun _ => (okH.cons (Or.inr (((ow144.own (k := 1) rfl).get.trans (ow126.own (k := 1) rfl).get.symm))) (okH.nil (fun r h => nomatch h))))) (fun v140 V141 le142 hp143 => ?_)
      obtain ⟨rfl, ow144⟩ := hp143
      refine U.p rfl rfl (.inl rfl) (S.conv rfl (L 0 rfl rfl) Tryd.underlying3 Tryd.underlying39) ?_
      refine O.lit (R := (RT.int .u32)) ow144 rfl rfl (.inl rfl) rfl Tryd.underlying23 ti39 rfl rfl rfl (nr rfl) rfl (aC (L 0 rfl rfl) aN) (.cons _ _ (IntKind.wrap .u32 x137) _ (by simp [topV]) rfl .nil) (fun _ => (fun _ => (okH.cons trivial (okH.cons trivial (okH.nil (fun r h => nomatch h)))))) (fun v145 V146 le147 ow148 => ?_)
      obtain ⟨xs150, hx151, h152⟩ := bindS h139
      refine O.append (k := 3) ow148 rfl rfl rfl (.inl rfl) rfl (L 5 rfl rfl) (L 0 rfl rfl) Tryd.underlying23 ti39 rfl rfl (nr rfl) (ow148.src (k := 0) rfl Tryd.underlying23) hx151 (fun V1 hs => (fun _ => (okH.cons (Or.inl rfl) (okH.cons rfl (okH.cons (Or.inl rfl) (okH.nil (fun r h => nomatch h))))))) (fun v153 V154 le155 ow156 => ?_)
      refine U.p (v := .pointer (some ⟨b12, 0, none⟩)) rfl rfl (.inl rfl) (S.fieldAddr rfl (L 26 rfl rfl) Tryd.underlying27 rfl ti23 rfl rfl) ?_
      refine O.store (k := 2) (cs := [v153]) (c' := [v153, v110, v59]) ow156 rfl rfl rfl (.inl rfl) rfl (L 0 rfl rfl) (L 1 rfl rfl) ti23 (ow156.osne (k := 3) rfl) (by rw [ow156.oscells (k := 3) rfl]) rfl (nr rfl) (by have q0 := (ow156.osone (k := 3) rfl); simp only [List.all_cons, List.all_nil, q0]; rfl) rfl (fun _ => (okH.cons rfl (okH.cons (Or.inl rfl) (okH.cons rfl (okH.cons (Or.inl rfl) (okH.nil (fun r h => nomatch h))))))) (fun V158 le159 ow160 => ?_)
      refine U.done (nr rfl) ?_
      refine WP.ureg rfl ?_
      refine U.p (v := .pointer (some ⟨b12, 1, none⟩)) rfl rfl (.inl rfl) (S.fieldAddr rfl (L 27 rfl rfl) Tryd.underlying27 rfl ti24 rfl rfl) ?_
      refine U.k rfl rfl (.inl rfl) (S.load rfl (L 0 rfl rfl) Tryd.underlying24 rfl ((ow160.own (k := 2) rfl).cell rfl)) nd ?_
      refine U.p rfl rfl (.inl rfl) (S.move rfl (L 11 rfl rfl)) ?_
      obtain ⟨x161, hx162, h163⟩ := bindS h152
      refine U.p rfl rfl (.inl rfl) (S.rem hx162 rfl (L 0 rfl rfl) K) ?_
      refine U.p rfl rfl (.inl rfl) (S.move rfl (L 13 rfl rfl)) ?_
      obtain ⟨x164, hx165, h166⟩ := bindS h163
      refine U.p rfl rfl (.inl rfl) (S.quo hx165 rfl (L 0 rfl rfl) K) ?_
      obtain ⟨x167, hx168, h169⟩ := bindS h166
      refine U.p rfl rfl (.inl rfl) (S.rem hx168 rfl (L 0 rfl rfl) K) ?_
      refine U.p rfl rfl (.inl rfl) (S.move rfl (L 16 rfl rfl)) ?_
      obtain ⟨x170, hx171, h172⟩ := bindS h169
      refine U.p rfl rfl (.inl rfl) (S.quo hx171 rfl (L 0 rfl rfl) K) ?_
      obtain ⟨x173, hx174, h175⟩ := bindS h172
      refine U.p rfl rfl (.inl rfl) (S.rem hx174 rfl (L 0 rfl rfl) K) ?_
      refine U.p rfl rfl (.inl rfl) (S.eqlI rfl (L 0 rfl rfl) K) ?_
      refine U.p rfl rfl (.inl rfl) (S.move rfl (L 20 rfl rfl)) ?_
      obtain ⟨x176, hx177, h178⟩ := bindS h175
      refine U.p rfl rfl (.inl rfl) (S.quo hx177 rfl (L 0 rfl rfl) K) ?_
      refine U.p rfl rfl (.inl rfl) (S.eqlI rfl (L 0 rfl rfl) K) ?_
      refine U.p (v := .agg #[.int .i64 x161, .int .i64 x167, .bool (decide (x173 = 1)), .bool (decide (x176 = 1))]) rfl rfl (.inl rfl) (S.build (vs := [.int .i64 x161, .int .i64 x167, .bool (decide (x173 = 1)), .bool (decide (x176 = 1))]) rfl ti42 rfl pl42 (aC (L 10 rfl rfl) (aC (L 7 rfl rfl) (aC (L 3 rfl rfl) (aC (L 0 rfl rfl) aN)))) (allC (by simp [topV]) (allC (by simp [topV]) (allC (by simp [topV]) (allC (by simp [topV]) allN)))) rfl) ?_
      refine O.lit (R := RT_TNote) ow160 rfl rfl (.inl rfl) rfl Tryd.underlying24 ti42 rfl rfl rfl (nr rfl) rfl (aC (L 0 rfl rfl) aN) (.cons _ _ (⟨x161, x167, decide (x173 = 1), decide (x176 = 1)⟩ : TNote) _ (by simp [topV]) rfl .nil) (fun _ => nd) (fun v179 V180 le181 ow182 => ?_)
      obtain ⟨xs184, hx185, h186⟩ := bindS h178
      refine O.append (k := 5) ow182 rfl rfl rfl (.inl rfl) rfl (L 14 rfl rfl) (L 0 rfl rfl) Tryd.underlying24 ti42 rfl rfl (nr rfl) (ow182.src (k := 0) rfl Tryd.underlying24) hx185 (fun _ _ => nd) (fun v187 V188 le189 ow190 => ?_)
      refine U.p (v := .pointer (some ⟨b12, 1, none⟩)) rfl rfl (.inl rfl) (S.fieldAddr rfl (L 44 rfl rfl) Tryd.underlying27 rfl ti24 rfl rfl) ?_
      refine O.store (k := 3) (cs := [v187]) (c' := [v153, v187, v59]) ow190 rfl rfl rfl (.inl rfl) rfl (L 0 rfl rfl) (L 1 rfl rfl) ti24 (ow190.osne (k := 5) rfl) (by rw [ow190.oscells (k := 5) rfl]) rfl (nr rfl) (by have q0 := (ow190.osone (k := 5) rfl); simp only [List.all_cons, List.all_nil, q0]; rfl) rfl nd (fun V192 le193 ow194 => ?_)
      refine U.done (nr rfl) ?_
      refine blkN (sqN ?_)
      refine WP.ureg rfl ?_
      refine U.p rfl rfl (.inl rfl) (S.move rfl (L 48 rfl rfl)) ?_
      refine U.p rfl rfl (.inl rfl) (S.add rfl (L 0 rfl rfl) K) ?_
      refine U.p rfl rfl (.inl rfl) (S.assign rfl (L 0 rfl rfl)) ?_
      refine U.done (nr rfl) ?_
      refine sqN ?_
      have ow195 := ow194.drop 0 rfl
      have ow196 := ow195.drop 0 rfl
      exact ⟨_, V192, rfl, ⟨m127, Nat.lt_succ_self _, v153, xs150, v187, xs184, w64 (x112 + 1), rfl, (((((((le125.trans le142).trans le147).trans le155).trans le159).trans le181).trans le189).trans le193), ow196, backS h186 e129⟩, (allCons (L 46 rfl rfl) (allCons (L 47 rfl rfl) (allCons (L 48 rfl rfl) (allCons (L 49 rfl rfl) (allCons (L 50 rfl rfl) (allCons (L 0 rfl rfl) allNil))))))⟩
     ·have h197 := ifF c132 h131
      refine WP.exit ?_
      refine sqE (sqE (blkE (sqN ?_)))
      have h198 := exitS h197 e129
      refine WP.seq ?_
      refine WP.usreg rfl ?_
      refine U.k rfl rfl (.inl rfl) (S.loadB rfl (L 5 rfl rfl) Tryd.underlying27 rfl ti27 (ow126.own (k := 1) rfl).get rfl) nd ?_
      obtain ⟨V199, eV203, le200, f201, ow202⟩ := ow126.osfz (k := 2) rfl
      rw [← eV203]
      obtain ⟨V205, eV209, le206, f207, ow208⟩ := ow202.osfz (k := 2) rfl
      rw [← eV209]
      have f211 := f201.up le206
      obtain ⟨V212, eV216, le213, f214, ow215⟩ := ow208.osfz (k := 2) rfl
      rw [← eV216]
      have f218 := f211.up le213
      have f219 := f207.up le213
      obtain ⟨x220, hx221, h222⟩ := bindS h198
      refine O.call (V := V212) rfl rfl (.inl rfl) rfl en12 (aC (L 0 rfl rfl) aN) (wk_ref15_Good V212 _ (gl.up (((((((le9.trans le14).trans le34).trans le70).trans le125).trans le200).trans le206).trans le213)) (⟨xs108, xs111, xs60⟩ : TImage) v107 v110 v59 f218 f219 f214 ow215 _ hx221) (fun _ _ _ _ => nd) (fun v223 V224 le225 hp226 => ?_)
      obtain ⟨rfl, ow227⟩ := hp226
      refine U.p rfl rfl (.inl rfl) (S.not rfl (L 0 rfl rfl)) ?_
      refine U.p rfl rfl (.inl rfl) (S.move rfl (L 0 rfl rfl)) ?_
      obtain ⟨y228, hy229, h230⟩ := bindS h222
      refine U.joinX 9 (fun e H => ∃ (u231 u232 u233 u234 : Value), ∃ V' : Vw, H = V'.H ∧ V224.le V' ∧ e = [(100, .bool y228), (99, u231), (98, u232), (97, u233), (96, u234)] ∧ Ow V' (.pt b7 (.cells 3 [.slice none 0 0, .slice none 0 0, .slice none 0 0]) :: .pt b12 (.cells 3 [v107, v110, v59]) :: Rs)) ?_ ?_
      ·rintro _ _ ⟨u231, u232, u233, u234, V235, rfl, le236, rfl, ow237⟩
       refine U.done (nr rfl) ?_
       refine WP.cond _ (L 0 rfl rfl) rfl (fun c238 => ?_) (fun c238 => ?_)
       ·have h239 := ifT c238 h230
        refine WP.usreg rfl ?_
        refine U.p (v := .agg #[.slice none 0 0, .slice none 0 0, .slice none 0 0]) rfl rfl (.inl rfl) (S.build (vs := []) rfl ti27 rfl pl27 aN allN rfl) ?_
        refine O.store (k := 0) (cs := [.slice none 0 0, .slice none 0 0, .slice none 0 0]) (c' := [.slice none 0 0, .slice none 0 0, .slice none 0 0]) ow237 rfl rfl rfl (.inl rfl) rfl (L 14 rfl rfl) (L 0 rfl rfl) ti27 (by simp [topV]) rfl rfl (nr rfl) rfl rfl nd (fun V240 le241 ow242 => ?_)
        refine U.p rfl rfl (.inl rfl) (S.assign rfl K) ?_
        refine U.done (nr rfl) ?_
        refine WP.ret ?_
        refine sqR ?_
        refine fin.mix (.inr rfl) (resA (L 15 rfl rfl) Tryd.underlying27 rfl ti27 (ow242.own (k := 0) rfl).get rfl (resT (L 0 rfl rfl) res0)) rfl ⟨V240, rfl, ((((((((((le9.trans le14).trans le34).trans le70).trans le125).trans le200).trans le206).trans le213).trans le225).trans le236).trans le241), ?_⟩
        have ow243 := ow242.drop 0 rfl
        have ow244 := ow243.drop 0 rfl
        have e245 := Option.some.inj h239
        subst e245
        exact ⟨(.slice none 0 0), (.slice none 0 0), (.slice none 0 0), rfl, Fz.nil, Fz.nil, Fz.nil, ow244⟩
       ·have h246 := ifF c238 h230
        refine WP.skip ?_
        refine sqN ?_
        refine WP.usreg rfl ?_
        refine U.k rfl rfl (.inl rfl) (S.loadB rfl (L 14 rfl rfl) Tryd.underlying27 rfl ti27 (ow237.own (k := 1) rfl).get rfl) nd ?_
        refine O.store (k := 0) (cs := [v107, v110, v59]) (c' := [v107, v110, v59]) ow237 rfl rfl rfl (.inl rfl) rfl (L 14 rfl rfl) (L 0 rfl rfl) ti27 (by simp [topV]) rfl rfl (nr rfl) (by have q0 := f218.one; have q1 := f219.one; have q2 := f214.one; simp only [List.all_cons, List.all_nil, q0, q1, q2]; rfl) rfl nd (fun V247 le248 ow249 => ?_)
        refine U.p rfl rfl (.inl rfl) (S.assign rfl K) ?_
        refine U.done (nr rfl) ?_
        refine WP.ret ?_
        have f250 := f218.up ((le225.trans le236).trans le248)
        have f251 := f219.up ((le225.trans le236).trans le248)
        have f252 := f214.up ((le225.trans le236).trans le248)
        refine fin.mix (.inr rfl) (resA (L 15 rfl rfl) Tryd.underlying27 rfl ti27 (ow249.own (k := 0) rfl).get rfl (resT (L 0 rfl rfl) res0)) rfl ⟨V247, rfl, ((((((((((le9.trans le14).trans le34).trans le70).trans le125).trans le200).trans le206).trans le213).trans le225).trans le236).trans le248), ?_⟩
        have ow253 := ow249.drop 0 rfl
        have ow254 := ow253.drop 0 rfl
        have e255 := Option.some.inj h246
        subst e255
        exact ⟨v107, v110, v59, rfl, f250, f251, f252, ow254⟩
      ·intro kk
       refine bcase (b := !x220) (fun g256 => ?_) (fun g256 => ?_)
       ·have h257 := ifT g256 hy229
        have k258 : x220 = false := nT g256
        refine U.x rfl rfl rfl rfl ((L 0 rfl rfl).trans (congrArg Value.bool g256)) (by decide) ?_
        refine U.x rfl rfl rfl rfl ((L 1 rfl rfl).trans (congrArg Value.bool g256)) (by decide) ?_
        refine U.x rfl rfl rfl rfl ((L 2 rfl rfl).trans (congrArg Value.bool g256)) (by decide) ?_
        refine U.x rfl rfl rfl rfl ((L 3 rfl rfl).trans (congrArg Value.bool g256)) (by decide) ?_
        refine U.p rfl rfl (.inl rfl) (S.pickT rfl ((L 4 rfl rfl).trans (congrArg Value.bool g256)) K) ?_
        have e259 := Option.some.inj h257
        subst e259
        exact kk [(100, .bool true), (99, .tuple #[]), (98, .tuple #[]), (97, .tuple #[]), (96, .tuple #[])] _ ⟨.tuple #[], .tuple #[], .tuple #[], .tuple #[], V224, rfl, (.refl _), rfl, ow227⟩
       ·have h260 := ifF g256 hy229
        have k261 : x220 = true := nF g256
        refine U.k rfl rfl (.inr ⟨_, _, _, rfl, rfl, ((L 0 rfl rfl).trans (congrArg Value.bool g256))⟩) (S.loadB rfl (L 9 rfl rfl) Tryd.underlying27 rfl ti27 (ow227.own (k := 1) rfl).get rfl) nd ?_
        have f262 := f218.up le225
        have f263 := f219.up le225
        have f264 := f214.up le225
        obtain ⟨x265, hx266, h267⟩ := bindS h260
        refine O.call (V := V224) rfl rfl (.inr ⟨_, _, _, rfl, rfl, ((L 1 rfl rfl).trans (congrArg Value.bool g256))⟩) rfl en16 (aC (L 0 rfl rfl) aN) (wk_ref15_Bytes V224 _ (gl.up ((((((((le9.trans le14).trans le34).trans le70).trans le125).trans le200).trans le206).trans le213).trans le225)) (⟨xs108, xs111, xs60⟩ : TImage) v107 v110 v59 f262 f263 f264 ow227 _ hx266) (fun _ _ _ _ => nd) (fun v268 V269 le270 hp271 => ?_)
        obtain ⟨rfl, ow272⟩ := hp271
        refine U.p rfl rfl (.inr ⟨_, _, _, rfl, rfl, ((L 2 rfl rfl).trans (congrArg Value.bool g256))⟩) (S.move rfl (L 9 rfl rfl)) ?_
        refine U.p rfl rfl (.inr ⟨_, _, _, rfl, rfl, ((L 3 rfl rfl).trans (congrArg Value.bool g256))⟩) (S.neqS rfl (L 1 rfl rfl) (L 0 rfl rfl)) ?_
        refine U.p rfl rfl (.inl rfl) (S.pickF rfl ((L 4 rfl rfl).trans (congrArg Value.bool g256)) (L 0 rfl rfl)) ?_
        have e273 := Option.some.inj h267
        subst e273
        exact kk [(100, .bool (decide (x265 ≠ p0))), (99, .bool (decide (x265 ≠ p0))), (98, .string p0), (97, .string x265), (96, .agg #[v107, v110, v59])] _ ⟨.bool (decide (x265 ≠ p0)), .string p0, .string x265, .agg #[v107, v110, v59], V269, rfl, le270, rfl, ow272⟩
  ·intro kk
   refine bcase (b := decide (8000 < x29)) (fun g274 => ?_) (fun g274 => ?_)
   ·skip
    refine U.x rfl rfl rfl rfl ((L 0 rfl rfl).trans (congrArg Value.bool g274)) (by decide) ?_
    refine U.x rfl rfl rfl rfl ((L 1 rfl rfl).trans (congrArg Value.bool g274)) (by decide) ?_
    refine U.x rfl rfl rfl rfl ((L 2 rfl rfl).trans (congrArg Value.bool g274)) (by decide) ?_
    refine U.x rfl rfl rfl rfl ((L 3 rfl rfl).trans (congrArg Value.bool g274)) (by decide) ?_
    refine U.x rfl rfl rfl rfl ((L 4 rfl rfl).trans (congrArg Value.bool g274)) (by decide) ?_
    refine U.x rfl rfl rfl rfl ((L 5 rfl rfl).trans (congrArg Value.bool g274)) (by decide) ?_
    refine U.x rfl rfl rfl rfl ((L 6 rfl rfl).trans (congrArg Value.bool g274)) (by decide) ?_
    refine U.x rfl rfl rfl rfl ((L 7 rfl rfl).trans (congrArg Value.bool g274)) (by decide) ?_
    refine U.x rfl rfl rfl rfl ((L 8 rfl rfl).trans (congrArg Value.bool g274)) (by decide) ?_
    refine U.p rfl rfl (.inl rfl) (S.pickT rfl ((L 9 rfl rfl).trans (congrArg Value.bool g274)) K) ?_
    exact kk [(32, .bool true), (31, .tuple #[]), (30, .tuple #[]), (29, .tuple #[]), (28, .tuple #[]), (27, .tuple #[]), (26, .tuple #[]), (25, .tuple #[]), (24, .tuple #[]), (23, .tuple #[])] _ ⟨.tuple #[], .tuple #[], .tuple #[], .tuple #[], .tuple #[], .tuple #[], .tuple #[], .tuple #[], .tuple #[], rfl, (by rw [g274, Bool.true_or])⟩
   ·skip
    refine U.p rfl rfl (.inr ⟨_, _, _, rfl, rfl, ((L 0 rfl rfl).trans (congrArg Value.bool g274))⟩) (S.move rfl (L 16 rfl rfl)) ?_
    refine U.p rfl rfl (.inr ⟨_, _, _, rfl, rfl, ((L 1 rfl rfl).trans (congrArg Value.bool g274))⟩) (S.lenStr rfl (L 0 rfl rfl) Tryd.underlying9) ?_
    refine U.p rfl rfl (.inr ⟨_, _, _, rfl, rfl, ((L 2 rfl rfl).trans (congrArg Value.bool g274))⟩) (S.move rfl (L 6 rfl rfl)) ?_
    refine U.p rfl rfl (.inr ⟨_, _, _, rfl, rfl, ((L 3 rfl rfl).trans (congrArg Value.bool g274))⟩) (S.mul rfl K (L 0 rfl rfl)) ?_
    refine U.p rfl rfl (.inr ⟨_, _, _, rfl, rfl, ((L 4 rfl rfl).trans (congrArg Value.bool g274))⟩) (S.add rfl K (L 0 rfl rfl)) ?_
    refine U.p rfl rfl (.inr ⟨_, _, _, rfl, rfl, ((L 5 rfl rfl).trans (congrArg Value.bool g274))⟩) (S.move rfl (L 8 rfl rfl)) ?_
    refine U.p rfl rfl (.inr ⟨_, _, _, rfl, rfl, ((L 6 rfl rfl).trans (congrArg Value.bool g274))⟩) (S.mul rfl K (L 0 rfl rfl)) ?_
    refine U.p rfl rfl (.inr ⟨_, _, _, rfl, rfl, ((L 7 rfl rfl).trans (congrArg Value.bool g274))⟩) (S.add rfl (L 2 rfl rfl) (L 0 rfl rfl)) ?_
    refine U.p rfl rfl (.inr ⟨_, _, _, rfl, rfl, ((L 8 rfl rfl).trans (congrArg Value.bool g274))⟩) (S.neqI rfl (L 6 rfl rfl) (L 0 rfl rfl)) ?_
    refine U.p rfl rfl (.inl rfl) (S.pickF rfl ((L 9 rfl rfl).trans (congrArg Value.bool g274)) (L 0 rfl rfl)) ?_
    exact kk [(32, .bool (decide ((p0.size : Int) ≠ (w64 ((w64 (9 + (w64 (4 * (w64 x26))))) + (w64 (5 * x29))))))), (31, .bool (decide ((p0.size : Int) ≠ (w64 ((w64 (9 + (w64 (4 * (w64 x26))))) + (w64 (5 * x29))))))), (30, .int .i64 (w64 ((w64 (9 + (w64 (4 * (w64 x26))))) + (w64 (5 * x29))))), (29, .int .i64 (w64 (5 * x29))), (28, .int .i64 x29), (27, .int .i64 (w64 (9 + (w64 (4 * (w64 x26)))))), (26, .int .i64 (w64 (4 * (w64 x26)))), (25, .int .i64 (w64 x26)), (24, .int .i64 (p0.size : Int)), (23, .string p0)] _ ⟨.bool (decide ((p0.size : Int) ≠ (w64 ((w64 (9 + (w64 (4 * (w64 x26))))) + (w64 (5 * x29)))))), .int .i64 (w64 ((w64 (9 + (w64 (4 * (w64 x26))))) + (w64 (5 * x29)))), .int .i64 (w64 (5 * x29)), .int .i64 x29, .int .i64 (w64 (9 + (w64 (4 * (w64 x26))))), .int .i64 (w64 (4 * (w64 x26))), .int .i64 (w64 x26), .int .i64 (p0.size : Int), .string p0, rfl, (by rw [g274, Bool.false_or])⟩
set_option maxHeartbeats 4000000 in
set_option maxRecDepth 10000 in
theorem wk_ref15_Same (V : Vw) (Rs : List At) (gl : Glb V) (p0 : TImage) (p1 : TImage) (v1 : Value) (v3 : Value) (v5 : Value) (v7 : Value) (v9 : Value) (v11 : Value) (f2 : Fz (RT.int .u32) V v1 p0.code) (f4 : Fz RT_TNote V v3 p0.notes) (f6 : Fz (RT.int .i64) V v5 p0.threads) (f8 : Fz (RT.int .u32) V v7 p1.code) (f10 : Fz RT_TNote V v9 p1.notes) (f12 : Fz (RT.int .i64) V v11 p1.threads) (ow : Ow V (Rs)) (r : Bool) (h : ref15_Same p0 p1 = some r) : ∃ v V', Cl Tryd.prog NG 9 #[.agg #[v1, v3, v5], .agg #[v7, v9, v11]] V.H v V'.H ∧ V.le V' ∧ (v = .bool r ∧ Ow V' (Rs)) := by
 refine Ct.of gl.lo Tryd.func9 rfl (nr rfl) ?_
 unfold ref15_Same at h
 refine WP.usreg rfl ?_
 refine O.box ow rfl rfl (.inl rfl) rfl (L 0 rfl rfl) (by simp [topV]) rfl nd (fun b13 V14 le15 ow16 => ?_)
 refine O.box ow16 rfl rfl (.inl rfl) rfl (L 2 rfl rfl) (by simp [topV]) rfl nd (fun b18 V19 le20 ow21 => ?_)
 refine U.p rfl rfl (.inl rfl) (S.assign rfl K) ?_
 refine U.done (nr rfl) ?_
 refine WP.seq ?_
 refine WP.usreg rfl ?_
 refine U.p (v := .pointer (some ⟨b13, 0, none⟩)) rfl rfl (.inl rfl) (S.fieldAddr rfl (L 2 rfl rfl) Tryd.underlying27 rfl ti23 rfl rfl) ?_
 refine U.k rfl rfl (.inl rfl) (S.load rfl (L 0 rfl rfl) Tryd.underlying23 rfl ((ow21.own (k := 1) rfl).cell rfl)) nd ?_
 refine U.p rfl rfl (.inl rfl) (f2.1.len rfl (L 0 rfl rfl) Tryd.underlying23) ?_
 refine U.p (v := .pointer (some ⟨b18, 0, none⟩)) rfl rfl (.inl rfl) (S.fieldAddr rfl (L 4 rfl rfl) Tryd.underlying27 rfl ti23 rfl rfl) ?_
 refine U.k rfl rfl (.inl rfl) (S.load rfl (L 0 rfl rfl) Tryd.underlying23 rfl ((ow21.own (k := 0) rfl).cell rfl)) nd ?_
 refine U.p rfl rfl (.inl rfl) (f8.1.len rfl (L 0 rfl rfl) Tryd.underlying23) ?_
 refine U.p rfl rfl (.inl rfl) (S.neqI rfl (L 3 rfl rfl) (L 0 rfl rfl)) ?_
 refine U.p rfl rfl (.inl rfl) (S.move rfl (L 0 rfl rfl)) ?_
 refine U.joinX 16 (fun e H => ∃ (u23 u24 u25 u26 u27 u28 u29 : Value), H = V19.H ∧ e = [(23, .bool ((decide ((p0.code.length : Int) ≠ (p1.code.length : Int))) || (decide ((p0.notes.length : Int) ≠ (p1.notes.length : Int))))), (22, u23), (21, u24), (20, u25), (19, u26), (18, u27), (17, u28), (16, u29)]) ?_ ?_
 ·rintro _ _ ⟨u23, u24, u25, u26, u27, u28, u29, rfl, rfl⟩
  refine U.p rfl rfl (.inl rfl) (S.move rfl (L 0 rfl rfl)) ?_
  refine U.joinX 25 (fun e H => ∃ (u33 u34 u35 u36 u37 u38 u39 : Value), H = V19.H ∧ e = [(32, .bool (((decide ((p0.code.length : Int) ≠ (p1.code.length : Int))) || (decide ((p0.notes.length : Int) ≠ (p1.notes.length : Int)))) || (decide ((p0.threads.length : Int) ≠ (p1.threads.length : Int))))), (31, u33), (30, u34), (29, u35), (28, u36), (27, u37), (26, u38), (25, u39)]) ?_ ?_
  ·rintro _ _ ⟨u33, u34, u35, u36, u37, u38, u39, rfl, rfl⟩
   refine U.done (nr rfl) ?_
   refine WP.cond _ (L 0 rfl rfl) rfl (fun c43 => ?_) (fun c43 => ?_)
   ·have h44 := ifT c43 h
    refine WP.usreg rfl ?_
    refine U.p rfl rfl (.inl rfl) (S.assign rfl K) ?_
    refine U.done (nr rfl) ?_
    refine WP.ret ?_
    refine sqR ?_
    refine fin.slot (.inr rfl) rfl (L 0 rfl rfl) ⟨V19, rfl, (le15.trans le20), ?_⟩
    have ow45 := ow21.drop 0 rfl
    have ow46 := ow45.drop 0 rfl
    have e47 := Option.some.inj h44
    subst e47
    exact ⟨rfl, ow46⟩
   ·have h48 := ifF c43 h
    refine WP.skip ?_
    refine sqN ?_
    refine WP.seq ?_
    refine WP.usreg rfl ?_
    refine U.p (v := .pointer (some ⟨b13, 0, none⟩)) rfl rfl (.inl rfl) (S.fieldAddr rfl (L 27 rfl rfl) Tryd.underlying27 rfl ti23 rfl rfl) ?_
    refine U.k rfl rfl (.inl rfl) (S.load rfl (L 0 rfl rfl) Tryd.underlying23 rfl ((ow21.own (k := 1) rfl).cell rfl)) nd ?_
    refine U.p rfl rfl (.inl rfl) (f2.1.len rfl (L 0 rfl rfl) Tryd.underlying23) ?_
    refine U.p rfl rfl (.inl rfl) (S.move rfl K) ?_
    refine U.done (nr rfl) ?_
    refine WP.blk ?_
    have ow50 := ow21.pick 0 rfl
    have ow51 := ow50.pick 1 rfl
    unfold ref15_Same_l1 at h48
    obtain ⟨n53, hn52⟩ := loopO_some.1 h48
    refine WP.loopI2 (fun n l V' => ∃ (x49 : Int), l = [(2, .pointer (some ⟨b13, 0, none⟩)), (3, .pointer (some ⟨b18, 0, none⟩)), (35, .int .i64 (p0.code.length : Int)), (36, .int .i64 x49)] ∧ V19.le V' ∧ Ow V' (.pt b13 (.cells 0 [v1, v3, v5]) :: .pt b18 (.cells 0 [v7, v9, v11]) :: Rs) ∧ itO (fun s => ref15_Same_l1b p0 p1 s) n x49 = some r) n53 _ ⟨0, rfl, .refl _, ow51, hn52⟩ (allCons (L 31 rfl rfl) (allCons (L 30 rfl rfl) (allCons (L 1 rfl rfl) (allCons (L 0 rfl rfl) allNil)))) ?_
    rintro _ _ V54 ⟨x49, rfl, le55, ow56, h60⟩
    obtain ⟨m57, q58, rfl, h61, e59⟩ := itS h60
    replace h61 : ref15_Same_l1b p0 p1 x49 = some q58 := h61
    unfold ref15_Same_l1b at h61
    refine WP.usreg rfl ?_
    refine U.p rfl rfl (.inl rfl) (S.lss rfl (L 3 rfl rfl) (L 2 rfl rfl)) ?_
    refine U.done (nr rfl) ?_
    refine WP.seq ?_
    refine WP.cond _ (L 0 rfl rfl) rfl (fun c62 => ?_) (fun c62 => ?_)
    ·have h63 := ifT c62 h61
     refine WP.skip ?_
     refine sqN ?_
     refine WP.seq ?_
     refine WP.blk ?_
     refine WP.usreg rfl ?_
     refine U.p rfl rfl (.inl rfl) (S.move rfl (L 4 rfl rfl)) ?_
     refine U.p rfl rfl (.inl rfl) (S.assign rfl (L 0 rfl rfl)) ?_
     refine U.done (nr rfl) ?_
     refine WP.usdreg rfl rfl rfl ?_
     refine U.p (v := .pointer (some ⟨b13, 0, none⟩)) rfl rfl (.inl rfl) (S.fieldAddr rfl (L 3 rfl rfl) Tryd.underlying27 rfl ti23 rfl rfl) ?_
     refine U.k rfl rfl (.inl rfl) (S.load rfl (L 0 rfl rfl) Tryd.underlying23 rfl ((ow56.own (k := 0) rfl).cell rfl)) (fun _ => (okH.nil (fun r h => by cases h; exact (ow56.own (k := 0) rfl).lt))) ?_
     refine U.p rfl rfl (.inl rfl) (S.move rfl (L 2 rfl rfl)) ?_
     obtain ⟨x64, hx65, h66⟩ := bindS h63
     obtain ⟨b67, o68, c69, cs70, hv71, hf72, hr73, hc74⟩ := f2.at hx65
     obtain rfl : cs70 = [.int .u32 x64] := hr73
     refine U.p rfl rfl (.inl rfl) (S.index rfl ((L 1 rfl rfl).trans hv71) (L 0 rfl rfl) Tryd.underlying23 ti39 (ix_ge hx65) (ix_lt hx65)) ?_
     refine U.k rfl rfl (.inl rfl) (S.load rfl (L 0 rfl rfl) Tryd.underlying39 rfl (((le15.trans le20).trans le55).cell hf72 (hc74 0 _ rfl))) (fun _ => (okH.cons trivial (okH.nil (fun r h => by cases h; exact (V54.wf _ (((le15.trans le20).trans le55).sub _ hf72)))))) ?_
     refine U.p (v := .pointer (some ⟨b18, 0, none⟩)) rfl rfl (.inl rfl) (S.fieldAddr rfl (L 9 rfl rfl) Tryd.underlying27 rfl ti23 rfl rfl) ?_
     refine U.k rfl rfl (.inl rfl) (S.load rfl (L 0 rfl rfl) Tryd.underlying23 rfl ((ow56.own (k := 1) rfl).cell rfl)) (fun _ => (okH.cons trivial (okH.cons trivial (okH.nil (fun r h => by cases h; exact (ow56.own (k := 1) rfl).lt))))) ?_
     refine U.p rfl rfl (.inl rfl) (S.move rfl (L 7 rfl rfl)) ?_
     obtain ⟨x75, hx76, h77⟩ := bindS h66
     obtain ⟨b78, o79, c80, cs81, hv82, hf83, hr84, hc85⟩ := f8.at hx76
     obtain rfl : cs81 = [.int .u32 x75] := hr84
     refine U.p rfl rfl (.inl rfl) (S.index rfl ((L 1 rfl rfl).trans hv82) (L 0 rfl rfl) Tryd.underlying23 ti39 (ix_ge hx76) (ix_lt hx76)) ?_
     refine U.k rfl rfl (.inl rfl) (S.load rfl (L 0 rfl rfl) Tryd.underlying39 rfl (((le15.trans le20).trans le55).cell hf83 (hc85 0 _ rfl))) (fun _ => (okH.cons trivial (okH.cons trivial (okH.cons trivial (okH.nil (fun r h => by cases h; exact (V54.wf _ (((le15.trans le20).trans le55).sub _ hf83)))))))) ?_
     refine U.p rfl rfl (.inl rfl) (S.neqI rfl (L 5 rfl rfl) (L 0 rfl rfl)) ?_
     refine U.done (nr rfl) ?_
     refine WP.cond _ (L 0 rfl rfl) rfl (fun c86 => ?_) (fun c86 => ?_)
     ·have h87 := ifT c86 h77
      refine WP.usreg rfl ?_
      refine U.p rfl rfl (.inl rfl) (S.assign rfl K) ?_
      refine U.done (nr rfl) ?_
      refine WP.ret ?_
      refine blkR (sqR (sqR (blkR (sqR ?_))))
      have h88 := exitS h87 e59
      refine fin.slot (.inr rfl) rfl (L 0 rfl rfl) ⟨V54, rfl, ((le15.trans le20).trans le55), ?_⟩
      have ow89 := ow56.drop 0 rfl
      have ow90 := ow89.drop 0 rfl
      have e91 := Option.some.inj h88
      subst e91
      exact ⟨rfl, ow90⟩
     ·have h92 := ifF c86 h77
      refine WP.skip ?_
      refine blkN (sqN ?_)
      refine WP.ureg rfl ?_
      refine U.p rfl rfl (.inl rfl) (S.add rfl (L 17 rfl rfl) K) ?_
      refine U.p rfl rfl (.inl rfl) (S.move rfl (L 0 rfl rfl)) ?_
      refine U.done (nr rfl) ?_
      refine sqN ?_
      exact ⟨_, V54, rfl, ⟨m57, Nat.lt_succ_self _, w64 (x49 + 1), rfl, le55, ow56, backS h92 e59⟩, (allCons (L 16 rfl rfl) (allCons (L 17 rfl rfl) (allCons (L 18 rfl rfl) (allCons (L 0 rfl rfl) allNil))))⟩
    ·have h93 := ifF c62 h61
     refine WP.exit ?_
     refine sqE (sqE (blkE (sqN ?_)))
     have h94 := exitS h93 e59
     refine WP.seq ?_
     refine WP.usreg rfl ?_
     refine U.p (v := .pointer (some ⟨b13, 1, none⟩)) rfl rfl (.inl rfl) (S.fieldAddr rfl (L 1 rfl rfl) Tryd.underlying27 rfl ti24 rfl rfl) ?_
     refine U.k rfl rfl (.inl rfl) (S.load rfl (L 0 rfl rfl) Tryd.underlying24 rfl ((ow56.own (k := 0) rfl).cell rfl)) nd ?_
     refine U.p rfl rfl (.inl rfl) (f4.1.len rfl (L 0 rfl rfl) Tryd.underlying24) ?_
     refine U.p rfl rfl (.inl rfl) (S.move rfl K) ?_
     refine U.done (nr rfl) ?_
     refine WP.blk ?_
     unfold ref15_Same_l2 at h94
     obtain ⟨n97, hn96⟩ := loopO_some.1 h94
     refine WP.loopI2 (fun n l V' => ∃ (x95 : Int), l = [(2, .pointer (some ⟨b13, 0, none⟩)), (3, .pointer (some ⟨b18, 0, none⟩)), (53, .int .i64 (p0.notes.length : Int)), (54, .int .i64 x95)] ∧ V54.le V' ∧ Ow V' (.pt b13 (.cells 0 [v1, v3, v5]) :: .pt b18 (.cells 0 [v7, v9, v11]) :: Rs) ∧ itO (fun s => ref15_Same_l2b p0 p1 s) n x95 = some r) n97 _ ⟨0, rfl, .refl _, ow56, hn96⟩ (allCons (L 5 rfl rfl) (allCons (L 6 rfl rfl) (allCons (L 1 rfl rfl) (allCons (L 0 rfl rfl) allNil)))) ?_
     rintro _ _ V98 ⟨x95, rfl, le99, ow100, h104⟩
     obtain ⟨m101, q102, rfl, h105, e103⟩ := itS h104
     replace h105 : ref15_Same_l2b p0 p1 x95 = some q102 := h105
     unfold ref15_Same_l2b at h105
     refine WP.usreg rfl ?_
     refine U.p rfl rfl (.inl rfl) (S.lss rfl (L 3 rfl rfl) (L 2 rfl rfl)) ?_
     refine U.done (nr rfl) ?_
     refine WP.seq ?_
     refine WP.cond _ (L 0 rfl rfl) rfl (fun c106 => ?_) (fun c106 => ?_)
     ·have h107 := ifT c106 h105
      refine WP.skip ?_
      refine sqN ?_
      refine WP.seq ?_
      refine WP.blk ?_
      refine WP.usreg rfl ?_
      refine U.p rfl rfl (.inl rfl) (S.move rfl (L 4 rfl rfl)) ?_
      refine U.p rfl rfl (.inl rfl) (S.assign rfl (L 0 rfl rfl)) ?_
      refine U.done (nr rfl) ?_
      refine WP.usdreg rfl rfl rfl ?_
      refine U.p (v := .pointer (some ⟨b13, 1, none⟩)) rfl rfl (.inl rfl) (S.fieldAddr rfl (L 3 rfl rfl) Tryd.underlying27 rfl ti24 rfl rfl) ?_
      refine U.k rfl rfl (.inl rfl) (S.load rfl (L 0 rfl rfl) Tryd.underlying24 rfl ((ow100.own (k := 0) rfl).cell rfl)) (fun _ => (okH.nil (fun r h => by cases h; exact (ow100.own (k := 0) rfl).lt))) ?_
      refine U.p rfl rfl (.inl rfl) (S.move rfl (L 2 rfl rfl)) ?_
      obtain ⟨x108, hx109, h110⟩ := bindS h107
      obtain ⟨b111, o112, c113, cs114, hv115, hf116, hr117, hc118⟩ := f4.at hx109
      obtain rfl : cs114 = [.int .i64 x108.role, .int .i64 x108.what, .bool x108.volatile, .bool x108.final] := hr117
      refine U.p rfl rfl (.inl rfl) (S.index rfl ((L 1 rfl rfl).trans hv115) (L 0 rfl rfl) Tryd.underlying24 ti42 (ix_ge hx109) (ix_lt hx109)) ?_
      refine U.k rfl rfl (.inl rfl) (S.loadN (cs := [.int .i64 x108.role, .int .i64 x108.what, .bool x108.volatile, .bool x108.final]) rfl (L 0 rfl rfl) Tryd.underlying42 rfl ti42 rfl (fun j v hj => (((le15.trans le20).trans le55).trans le99).cell hf116 (hc118 j v hj))) (fun _ => (okH.cons trivial (okH.nil (fun r h => by cases h; exact (V98.wf _ ((((le15.trans le20).trans le55).trans le99).sub _ hf116)))))) ?_
      refine U.p (v := .pointer (some ⟨b18, 1, none⟩)) rfl rfl (.inl rfl) (S.fieldAddr rfl (L 9 rfl rfl) Tryd.underlying27 rfl ti24 rfl rfl) ?_
      refine U.k rfl rfl (.inl rfl) (S.load rfl (L 0 rfl rfl) Tryd.underlying24 rfl ((ow100.own (k := 1) rfl).cell rfl)) (fun _ => (okH.cons trivial (okH.cons trivial (okH.nil (fun r h => by cases h; exact (ow100.own (k := 1) rfl).lt))))) ?_
      refine U.p rfl rfl (.inl rfl) (S.move rfl (L 7 rfl rfl)) ?_
      obtain ⟨x119, hx120, h121⟩ := bindS h110
      obtain ⟨b122, o123, c124, cs125, hv126, hf127, hr128, hc129⟩ := f10.at hx120
      obtain rfl : cs125 = [.int .i64 x119.role, .int .i64 x119.what, .bool x119.volatile, .bool x119.final] := hr128
      refine U.p rfl rfl (.inl rfl) (S.index rfl ((L 1 rfl rfl).trans hv126) (L 0 rfl rfl) Tryd.underlying24 ti42 (ix_ge hx120) (ix_lt hx120)) ?_
      refine U.k rfl rfl (.inl rfl) (S.loadN (cs := [.int .i64 x119.role, .int .i64 x119.what, .bool x119.volatile, .bool x119.final]) rfl (L 0 rfl rfl) Tryd.underlying42 rfl ti42 rfl (fun j v hj => (((le15.trans le20).trans le55).trans le99).cell hf127 (hc129 j v hj))) (fun _ => (okH.cons trivial (okH.cons trivial (okH.cons trivial (okH.nil (fun r h => by cases h; exact (V98.wf _ ((((le15.trans le20).trans le55).trans le99).sub _ hf127)))))))) ?_
      refine U.p rfl rfl (.inl rfl) (S.neqT (flA (flC (.int _ _) (flC (.int _ _) (flC (.bool _) (flC (.bool _) flN))))) (flA (flC (.int _ _) (flC (.int _ _) (flC (.bool _) (flC (.bool _) flN))))) rfl (L 5 rfl rfl) (L 0 rfl rfl) Tryd.underlying42 (by kernel_rfl) (by kernel_rfl) (.cons _ _ _ _ _ _ (by decide) (part_cell Tryd.underlying3 rfl rfl) (part_cell Tryd.underlying3 rfl rfl) (eqIn_int Tryd.underlying3 9998) (.cons _ _ _ _ _ _ (by decide) (part_cell Tryd.underlying3 rfl rfl) (part_cell Tryd.underlying3 rfl rfl) (eqIn_int Tryd.underlying3 9998) (.cons _ _ _ _ _ _ (by decide) (part_cell Tryd.underlying4 rfl rfl) (part_cell Tryd.underlying4 rfl rfl) (eqIn_b Tryd.underlying4 9998) (.cons _ _ _ _ _ _ (by decide) (part_cell Tryd.underlying4 rfl rfl) (part_cell Tryd.underlying4 rfl rfl) (eqIn_b Tryd.underlying4 9998) .nil))))) ?_
      refine U.done (nr rfl) ?_
      refine WP.cond _ (L 0 rfl rfl) rfl (fun c130 => ?_) (fun c130 => ?_)
      ·have h131 := ifT c130 h121
       have k132 : ((decide (x108.role = x119.role)) && ((decide (x108.what = x119.what)) && ((x108.volatile == x119.volatile) && ((x108.final == x119.final) && true)))) = false := nT c130
       refine WP.usreg rfl ?_
       refine U.p rfl rfl (.inl rfl) (S.assign rfl K) ?_
       refine U.done (nr rfl) ?_
       refine WP.ret ?_
       refine blkR (sqR (sqR (blkR (sqR ?_))))
       have h133 := exitS h131 e103
       refine fin.slot (.inr rfl) rfl (L 0 rfl rfl) ⟨V98, rfl, (((le15.trans le20).trans le55).trans le99), ?_⟩
       have ow134 := ow100.drop 0 rfl
       have ow135 := ow134.drop 0 rfl
       have e136 := Option.some.inj h133
       subst e136
       exact ⟨rfl, ow135⟩
      ·have h137 := ifF c130 h121
       have k138 : ((decide (x108.role = x119.role)) && ((decide (x108.what = x119.what)) && ((x108.volatile == x119.volatile) && ((x108.final == x119.final) && true)))) = true := nF c130
       refine WP.skip ?_
       refine blkN (sqN ?_)
       refine WP.ureg rfl ?_
       refine U.p rfl rfl (.inl rfl) (S.add rfl (L 17 rfl rfl) K) ?_
       refine U.p rfl rfl (.inl rfl) (S.move rfl (L 0 rfl rfl)) ?_
       refine U.done (nr rfl) ?_
       refine sqN ?_
       exact ⟨_, V98, rfl, ⟨m101, Nat.lt_succ_self _, w64 (x95 + 1), rfl, le99, ow100, backS h137 e103⟩, (allCons (L 16 rfl rfl) (allCons (L 17 rfl rfl) (allCons (L 18 rfl rfl) (allCons (L 0 rfl rfl) allNil))))⟩
     ·have h139 := ifF c106 h105
      refine WP.exit ?_
      refine sqE (sqE (blkE (sqN ?_)))
      have h140 := exitS h139 e103
      refine WP.seq ?_
      refine WP.usreg rfl ?_
      refine U.p (v := .pointer (some ⟨b13, 2, none⟩)) rfl rfl (.inl rfl) (S.fieldAddr rfl (L 1 rfl rfl) Tryd.underlying27 rfl ti25 rfl rfl) ?_
      refine U.k rfl rfl (.inl rfl) (S.load rfl (L 0 rfl rfl) Tryd.underlying25 rfl ((ow100.own (k := 0) rfl).cell rfl)) nd ?_
      refine U.p rfl rfl (.inl rfl) (f6.1.len rfl (L 0 rfl rfl) Tryd.underlying25) ?_
      refine U.p rfl rfl (.inl rfl) (S.move rfl K) ?_
      refine U.done (nr rfl) ?_
      refine WP.blk ?_
      unfold ref15_Same_l3 at h140
      obtain ⟨n143, hn142⟩ := loopO_some.1 h140
      refine WP.loopI2 (fun n l V' => ∃ (x141 : Int), l = [(2, .pointer (some ⟨b13, 0, none⟩)), (3, .pointer (some ⟨b18, 0, none⟩)), (71, .int .i64 (p0.threads.length : Int)), (72, .int .i64 x141)] ∧ V98.le V' ∧ Ow V' (.pt b13 (.cells 0 [v1, v3, v5]) :: .pt b18 (.cells 0 [v7, v9, v11]) :: Rs) ∧ itO (fun s => ref15_Same_l3b p0 p1 s) n x141 = some r) n143 _ ⟨0, rfl, .refl _, ow100, hn142⟩ (allCons (L 5 rfl rfl) (allCons (L 6 rfl rfl) (allCons (L 1 rfl rfl) (allCons (L 0 rfl rfl) allNil)))) ?_
      rintro _ _ V144 ⟨x141, rfl, le145, ow146, h150⟩
      obtain ⟨m147, q148, rfl, h151, e149⟩ := itS h150
      replace h151 : ref15_Same_l3b p0 p1 x141 = some q148 := h151
      unfold ref15_Same_l3b at h151
      refine WP.usreg rfl ?_
      refine U.p rfl rfl (.inl rfl) (S.lss rfl (L 3 rfl rfl) (L 2 rfl rfl)) ?_
      refine U.done (nr rfl) ?_
      refine WP.seq ?_
      refine WP.cond _ (L 0 rfl rfl) rfl (fun c152 => ?_) (fun c152 => ?_)
      ·have h153 := ifT c152 h151
       refine WP.skip ?_
       refine sqN ?_
       refine WP.seq ?_
       refine WP.blk ?_
       refine WP.usreg rfl ?_
       refine U.p rfl rfl (.inl rfl) (S.move rfl (L 4 rfl rfl)) ?_
       refine U.p rfl rfl (.inl rfl) (S.assign rfl (L 0 rfl rfl)) ?_
       refine U.done (nr rfl) ?_
       refine WP.usdreg rfl rfl rfl ?_
       refine U.p (v := .pointer (some ⟨b13, 2, none⟩)) rfl rfl (.inl rfl) (S.fieldAddr rfl (L 3 rfl rfl) Tryd.underlying27 rfl ti25 rfl rfl) ?_
       refine U.k rfl rfl (.inl rfl) (S.load rfl (L 0 rfl rfl) Tryd.underlying25 rfl ((ow146.own (k := 0) rfl).cell rfl)) (fun _ => (okH.nil (fun r h => by cases h; exact (ow146.own (k := 0) rfl).lt))) ?_
       refine U.p rfl rfl (.inl rfl) (S.move rfl (L 2 rfl rfl)) ?_
       obtain ⟨x154, hx155, h156⟩ := bindS h153
       obtain ⟨b157, o158, c159, cs160, hv161, hf162, hr163, hc164⟩ := f6.at hx155
       obtain rfl : cs160 = [.int .i64 x154] := hr163
       refine U.p rfl rfl (.inl rfl) (S.index rfl ((L 1 rfl rfl).trans hv161) (L 0 rfl rfl) Tryd.underlying25 ti3 (ix_ge hx155) (ix_lt hx155)) ?_
       refine U.k rfl rfl (.inl rfl) (S.load rfl (L 0 rfl rfl) Tryd.underlying3 rfl (((((le15.trans le20).trans le55).trans le99).trans le145).cell hf162 (hc164 0 _ rfl))) (fun _ => (okH.cons trivial (okH.nil (fun r h => by cases h; exact (V144.wf _ (((((le15.trans le20).trans le55).trans le99).trans le145).sub _ hf162)))))) ?_
       refine U.p (v := .pointer (some ⟨b18, 2, none⟩)) rfl rfl (.inl rfl) (S.fieldAddr rfl (L 9 rfl rfl) Tryd.underlying27 rfl ti25 rfl rfl) ?_
       refine U.k rfl rfl (.inl rfl) (S.load rfl (L 0 rfl rfl) Tryd.underlying25 rfl ((ow146.own (k := 1) rfl).cell rfl)) (fun _ => (okH.cons trivial (okH.cons trivial (okH.nil (fun r h => by cases h; exact (ow146.own (k := 1) rfl).lt))))) ?_
       refine U.p rfl rfl (.inl rfl) (S.move rfl (L 7 rfl rfl)) ?_
       obtain ⟨x165, hx166, h167⟩ := bindS h156
       obtain ⟨b168, o169, c170, cs171, hv172, hf173, hr174, hc175⟩ := f12.at hx166
       obtain rfl : cs171 = [.int .i64 x165] := hr174
       refine U.p rfl rfl (.inl rfl) (S.index rfl ((L 1 rfl rfl).trans hv172) (L 0 rfl rfl) Tryd.underlying25 ti3 (ix_ge hx166) (ix_lt hx166)) ?_
       refine U.k rfl rfl (.inl rfl) (S.load rfl (L 0 rfl rfl) Tryd.underlying3 rfl (((((le15.trans le20).trans le55).trans le99).trans le145).cell hf173 (hc175 0 _ rfl))) (fun _ => (okH.cons trivial (okH.cons trivial (okH.cons trivial (okH.nil (fun r h => by cases h; exact (V144.wf _ (((((le15.trans le20).trans le55).trans le99).trans le145).sub _ hf173)))))))) ?_
       refine U.p rfl rfl (.inl rfl) (S.neqI rfl (L 5 rfl rfl) (L 0 rfl rfl)) ?_
       refine U.done (nr rfl) ?_
       refine WP.cond _ (L 0 rfl rfl) rfl (fun c176 => ?_) (fun c176 => ?_)
       ·have h177 := ifT c176 h167
        refine WP.usreg rfl ?_
        refine U.p rfl rfl (.inl rfl) (S.assign rfl K) ?_
        refine U.done (nr rfl) ?_
        refine WP.ret ?_
        refine blkR (sqR (sqR (blkR (sqR ?_))))
        have h178 := exitS h177 e149
        refine fin.slot (.inr rfl) rfl (L 0 rfl rfl) ⟨V144, rfl, ((((le15.trans le20).trans le55).trans le99).trans le145), ?_⟩
        have ow179 := ow146.drop 0 rfl
        have ow180 := ow179.drop 0 rfl
        have e181 := Option.some.inj h178
        subst e181
        exact ⟨rfl, ow180⟩
       ·have h182 := ifF c176 h167
        refine WP.skip ?_
        refine blkN (sqN ?_)
        refine WP.ureg rfl ?_
        refine U.p rfl rfl (.inl rfl) (S.add rfl (L 17 rfl rfl) K) ?_
        refine U.p rfl rfl (.inl rfl) (S.move rfl (L 0 rfl rfl)) ?_
        refine U.done (nr rfl) ?_
        refine sqN ?_
        exact ⟨_, V144, rfl, ⟨m147, Nat.lt_succ_self _, w64 (x141 + 1), rfl, le145, ow146, backS h182 e149⟩, (allCons (L 16 rfl rfl) (allCons (L 17 rfl rfl) (allCons (L 18 rfl rfl) (allCons (L 0 rfl rfl) allNil))))⟩
      ·have h183 := ifF c152 h151
       refine WP.exit ?_
       refine sqE (sqE (blkE (sqN ?_)))
       have h184 := exitS h183 e149
       refine WP.usreg rfl ?_
       refine U.p rfl rfl (.inl rfl) (S.assign rfl K) ?_
       refine U.done (nr rfl) ?_
       refine WP.ret ?_
       refine fin.slot (.inr rfl) rfl (L 0 rfl rfl) ⟨V144, rfl, ((((le15.trans le20).trans le55).trans le99).trans le145), ?_⟩
       have ow185 := ow146.drop 0 rfl
       have ow186 := ow185.drop 0 rfl
       have e187 := Option.some.inj h184
       subst e187
       exact ⟨rfl, ow186⟩
  ·intro kk
   refine bcase (b := (decide ((p0.code.length : Int) ≠ (p1.code.length : Int))) || (decide ((p0.notes.length : Int) ≠ (p1.notes.length : Int)))) (fun g188 => ?_) (fun g188 => ?_)
   ·skip
    refine U.x rfl rfl rfl rfl ((L 0 rfl rfl).trans (congrArg Value.bool g188)) (by decide) ?_
    refine U.x rfl rfl rfl rfl ((L 1 rfl rfl).trans (congrArg Value.bool g188)) (by decide) ?_
    refine U.x rfl rfl rfl rfl ((L 2 rfl rfl).trans (congrArg Value.bool g188)) (by decide) ?_
    refine U.x rfl rfl rfl rfl ((L 3 rfl rfl).trans (congrArg Value.bool g188)) (by decide) ?_
    refine U.x rfl rfl rfl rfl ((L 4 rfl rfl).trans (congrArg Value.bool g188)) (by decide) ?_
    refine U.x rfl rfl rfl rfl ((L 5 rfl rfl).trans (congrArg Value.bool g188)) (by decide) ?_
    refine U.x rfl rfl rfl rfl ((L 6 rfl rfl).trans (congrArg Value.bool g188)) (by decide) ?_
    refine U.p rfl rfl (.inl rfl) (S.pickT rfl ((L 7 rfl rfl).trans (congrArg Value.bool g188)) K) ?_
    exact kk [(32, .bool true), (31, .tuple #[]), (30, .tuple #[]), (29, .tuple #[]), (28, .tuple #[]), (27, .tuple #[]), (26, .tuple #[]), (25, .tuple #[])] _ ⟨.tuple #[], .tuple #[], .tuple #[], .tuple #[], .tuple #[], .tuple #[], .tuple #[], rfl, (by rw [g188, Bool.true_or])⟩
   ·skip
    refine U.p (v := .pointer (some ⟨b13, 2, none⟩)) rfl rfl (.inr ⟨_, _, _, rfl, rfl, ((L 0 rfl rfl).trans (congrArg Value.bool g188))⟩) (S.fieldAddr rfl (L 19 rfl rfl) Tryd.underlying27 rfl ti25 rfl rfl) ?_
    refine U.k rfl rfl (.inr ⟨_, _, _, rfl, rfl, ((L 1 rfl rfl).trans (congrArg Value.bool g188))⟩) (S.load rfl (L 0 rfl rfl) Tryd.underlying25 rfl ((ow21.own (k := 1) rfl).cell rfl)) nd ?_
    refine U.p rfl rfl (.inr ⟨_, _, _, rfl, rfl, ((L 2 rfl rfl).trans (congrArg Value.bool g188))⟩) (f6.1.len rfl (L 0 rfl rfl) Tryd.underlying25) ?_
    refine U.p (v := .pointer (some ⟨b18, 2, none⟩)) rfl rfl (.inr ⟨_, _, _, rfl, rfl, ((L 3 rfl rfl).trans (congrArg Value.bool g188))⟩) (S.fieldAddr rfl (L 21 rfl rfl) Tryd.underlying27 rfl ti25 rfl rfl) ?_
    refine U.k rfl rfl (.inr ⟨_, _, _, rfl, rfl, ((L 4 rfl rfl).trans (congrArg Value.bool g188))⟩) (S.load rfl (L 0 rfl rfl) Tryd.underlying25 rfl ((ow21.own (k := 0) rfl).cell rfl)) nd ?_
    refine U.p rfl rfl (.inr ⟨_, _, _, rfl, rfl, ((L 5 rfl rfl).trans (congrArg Value.bool g188))⟩) (f12.1.len rfl (L 0 rfl rfl) Tryd.underlying25) ?_
    refine U.p rfl rfl (.inr ⟨_, _, _, rfl, rfl, ((L 6 rfl rfl).trans (congrArg Value.bool g188))⟩) (S.neqI rfl (L 3 rfl rfl) (L 0 rfl rfl)) ?_
    refine U.p rfl rfl (.inl rfl) (S.pickF rfl ((L 7 rfl rfl).trans (congrArg Value.bool g188)) (L 0 rfl rfl)) ?_
    exact kk [(32, .bool (decide ((p0.threads.length : Int) ≠ (p1.threads.length : Int)))), (31, .bool (decide ((p0.threads.length : Int) ≠ (p1.threads.length : Int)))), (30, .int .i64 (p1.threads.length : Int)), (29, v11), (28, .pointer (some ⟨b18, 2, none⟩)), (27, .int .i64 (p0.threads.length : Int)), (26, v5), (25, .pointer (some ⟨b13, 2, none⟩))] _ ⟨.bool (decide ((p0.threads.length : Int) ≠ (p1.threads.length : Int))), .int .i64 (p1.threads.length : Int), v11, .pointer (some ⟨b18, 2, none⟩), .int .i64 (p0.threads.length : Int), v5, .pointer (some ⟨b13, 2, none⟩), rfl, (by rw [g188, Bool.false_or])⟩
 ·intro kk
  refine bcase (b := decide ((p0.code.length : Int) ≠ (p1.code.length : Int))) (fun g189 => ?_) (fun g189 => ?_)
  ·skip
   refine U.x rfl rfl rfl rfl ((L 0 rfl rfl).trans (congrArg Value.bool g189)) (by decide) ?_
   refine U.x rfl rfl rfl rfl ((L 1 rfl rfl).trans (congrArg Value.bool g189)) (by decide) ?_
   refine U.x rfl rfl rfl rfl ((L 2 rfl rfl).trans (congrArg Value.bool g189)) (by decide) ?_
   refine U.x rfl rfl rfl rfl ((L 3 rfl rfl).trans (congrArg Value.bool g189)) (by decide) ?_
   refine U.x rfl rfl rfl rfl ((L 4 rfl rfl).trans (congrArg Value.bool g189)) (by decide) ?_
   refine U.x rfl rfl rfl rfl ((L 5 rfl rfl).trans (congrArg Value.bool g189)) (by decide) ?_
   refine U.x rfl rfl rfl rfl ((L 6 rfl rfl).trans (congrArg Value.bool g189)) (by decide) ?_
   refine U.p rfl rfl (.inl rfl) (S.pickT rfl ((L 7 rfl rfl).trans (congrArg Value.bool g189)) K) ?_
   exact kk [(23, .bool true), (22, .tuple #[]), (21, .tuple #[]), (20, .tuple #[]), (19, .tuple #[]), (18, .tuple #[]), (17, .tuple #[]), (16, .tuple #[])] _ ⟨.tuple #[], .tuple #[], .tuple #[], .tuple #[], .tuple #[], .tuple #[], .tuple #[], rfl, (by rw [g189, Bool.true_or])⟩
  ·skip
   refine U.p (v := .pointer (some ⟨b13, 1, none⟩)) rfl rfl (.inr ⟨_, _, _, rfl, rfl, ((L 0 rfl rfl).trans (congrArg Value.bool g189))⟩) (S.fieldAddr rfl (L 10 rfl rfl) Tryd.underlying27 rfl ti24 rfl rfl) ?_
   refine U.k rfl rfl (.inr ⟨_, _, _, rfl, rfl, ((L 1 rfl rfl).trans (congrArg Value.bool g189))⟩) (S.load rfl (L 0 rfl rfl) Tryd.underlying24 rfl ((ow21.own (k := 1) rfl).cell rfl)) nd ?_
   refine U.p rfl rfl (.inr ⟨_, _, _, rfl, rfl, ((L 2 rfl rfl).trans (congrArg Value.bool g189))⟩) (f4.1.len rfl (L 0 rfl rfl) Tryd.underlying24) ?_
   refine U.p (v := .pointer (some ⟨b18, 1, none⟩)) rfl rfl (.inr ⟨_, _, _, rfl, rfl, ((L 3 rfl rfl).trans (congrArg Value.bool g189))⟩) (S.fieldAddr rfl (L 12 rfl rfl) Tryd.underlying27 rfl ti24 rfl rfl) ?_
   refine U.k rfl rfl (.inr ⟨_, _, _, rfl, rfl, ((L 4 rfl rfl).trans (congrArg Value.bool g189))⟩) (S.load rfl (L 0 rfl rfl) Tryd.underlying24 rfl ((ow21.own (k := 0) rfl).cell rfl)) nd ?_
   refine U.p rfl rfl (.inr ⟨_, _, _, rfl, rfl, ((L 5 rfl rfl).trans (congrArg Value.bool g189))⟩) (f10.1.len rfl (L 0 rfl rfl) Tryd.underlying24) ?_
   refine U.p rfl rfl (.inr ⟨_, _, _, rfl, rfl, ((L 6 rfl rfl).trans (congrArg Value.bool g189))⟩) (S.neqI rfl (L 3 rfl rfl) (L 0 rfl rfl)) ?_
   refine U.p rfl rfl (.inl rfl) (S.pickF rfl ((L 7 rfl rfl).trans (congrArg Value.bool g189)) (L 0 rfl rfl)) ?_
   exact kk [(23, .bool (decide ((p0.notes.length : Int) ≠ (p1.notes.length : Int)))), (22, .bool (decide ((p0.notes.length : Int) ≠ (p1.notes.length : Int)))), (21, .int .i64 (p1.notes.length : Int)), (20, v9), (19, .pointer (some ⟨b18, 1, none⟩)), (18, .int .i64 (p0.notes.length : Int)), (17, v3), (16, .pointer (some ⟨b13, 1, none⟩))] _ ⟨.bool (decide ((p0.notes.length : Int) ≠ (p1.notes.length : Int))), .int .i64 (p1.notes.length : Int), v9, .pointer (some ⟨b18, 1, none⟩), .int .i64 (p0.notes.length : Int), v3, .pointer (some ⟨b13, 1, none⟩), rfl, (by rw [g189, Bool.false_or])⟩
set_option maxHeartbeats 4000000 in
set_option maxRecDepth 10000 in
theorem wk_law15_ImageReads (V : Vw) (Rs : List At) (gl : Glb V) (p0 : ByteArray) (ow : Ow V (Rs)) (r : Bool) (h : law15_ImageReads p0 = some r) : ∃ v V', Cl Tryd.prog NG 3 #[.string p0] V.H v V'.H ∧ V.le V' ∧ (v = .bool r ∧ Ow V' (Rs)) := by
 refine Ct.of gl.lo Tryd.func3 rfl (nr rfl) ?_
 unfold law15_ImageReads at h
 refine WP.usreg rfl ?_
 refine U.p rfl rfl (.inl rfl) (S.assign rfl K) ?_
 refine U.done (nr rfl) ?_
 refine WP.seq ?_
 refine WP.usreg rfl ?_
 obtain ⟨x1, hx2, h3⟩ := bindS h
 refine O.call (V := V) rfl rfl (.inl rfl) rfl en6 aN (wk_law15_alive V _ gl ow _ hx2) (fun _ _ _ _ => nd) (fun v4 V5 le6 hp7 => ?_)
 obtain ⟨rfl, ow8⟩ := hp7
 refine U.p rfl rfl (.inl rfl) (S.not rfl (L 0 rfl rfl)) ?_
 refine U.done (nr rfl) ?_
 refine WP.cond _ (L 0 rfl rfl) rfl (fun c9 => ?_) (fun c9 => ?_)
 ·have h10 := ifT c9 h3
  have k11 : x1 = false := nT c9
  refine WP.usreg rfl ?_
  refine U.p rfl rfl (.inl rfl) (S.assign rfl K) ?_
  refine U.done (nr rfl) ?_
  refine WP.ret ?_
  refine sqR ?_
  refine fin.slot (.inr rfl) rfl (L 0 rfl rfl) ⟨V5, rfl, le6, ?_⟩
  have e12 := Option.some.inj h10
  subst e12
  exact ⟨rfl, ow8⟩
 ·have h13 := ifF c9 h3
  have k14 : x1 = true := nF c9
  refine WP.skip ?_
  refine sqN ?_
  refine WP.seq ?_
  refine WP.usreg rfl ?_
  refine U.p rfl rfl (.inl rfl) (S.move rfl (L 3 rfl rfl)) ?_
  refine U.p rfl rfl (.inl rfl) (S.lenStr rfl (L 0 rfl rfl) Tryd.underlying9) ?_
  refine U.p rfl rfl (.inl rfl) (S.gtr rfl (L 0 rfl rfl) K) ?_
  refine U.done (nr rfl) ?_
  refine WP.cond _ (L 0 rfl rfl) rfl (fun c15 => ?_) (fun c15 => ?_)
  ·have h16 := ifT c15 h13
   refine WP.usreg rfl ?_
   refine U.p rfl rfl (.inl rfl) (S.assign rfl K) ?_
   refine U.done (nr rfl) ?_
   refine WP.ret ?_
   refine sqR ?_
   refine fin.slot (.inr rfl) rfl (L 0 rfl rfl) ⟨V5, rfl, le6, ?_⟩
   have e17 := Option.some.inj h16
   subst e17
   exact ⟨rfl, ow8⟩
  ·have h18 := ifF c15 h13
   refine WP.skip ?_
   refine sqN ?_
   refine WP.usreg rfl ?_
   refine U.p rfl rfl (.inl rfl) (S.move rfl (L 6 rfl rfl)) ?_
   obtain ⟨x19, hx20, h21⟩ := bindS h18
   refine O.call (V := V5) rfl rfl (.inl rfl) rfl en7 (aC (L 0 rfl rfl) aN) (wk_image_Decode V5 _ (gl.up le6) p0 ow8 _ hx20) (fun _ _ _ _ => nd) (fun v22 V23 le24 hp25 => ?_)
   obtain ⟨v27, v29, v31, rfl, f28, f30, f32, ow26⟩ := hp25
   refine U.p rfl rfl (.inl rfl) (S.move rfl (L 0 rfl rfl)) ?_
   refine U.p rfl rfl (.inl rfl) (S.extract rfl (L 0 rfl rfl) rfl (nr rfl)) ?_
   refine U.p rfl rfl (.inl rfl) (S.extract rfl (L 1 rfl rfl) rfl (nr rfl)) ?_
   refine O.alloc ow26 rfl rfl (.inl rfl) rfl ti27 rfl rfl nd (fun b33 V34 le35 ow36 => ?_)
   refine O.store (k := 0) (cs := [v27, v29, v31]) (c' := [v27, v29, v31]) ow36 rfl rfl rfl (.inl rfl) rfl (L 0 rfl rfl) (L 2 rfl rfl) ti27 (by simp [topV]) rfl rfl (nr rfl) (by have q0 := f28.one; have q1 := f30.one; have q2 := f32.one; simp only [List.all_cons, List.all_nil, q0, q1, q2]; rfl) rfl nd (fun V38 le39 ow40 => ?_)
   refine U.p rfl rfl (.inl rfl) (S.assign rfl (L 1 rfl rfl)) ?_
   refine U.done (nr rfl) ?_
   refine WP.usreg rfl ?_
   refine U.p rfl rfl (.inl rfl) (S.move rfl (L 13 rfl rfl)) ?_
   obtain ⟨x41, hx42, h43⟩ := bindS h21
   refine O.call (V := V38) rfl rfl (.inl rfl) rfl en8 (aC (L 0 rfl rfl) aN) (wk_ref15_Read V38 _ (gl.up (((le6.trans le24).trans le35).trans le39)) p0 ow40 _ hx42) (fun _ _ _ _ => nd) (fun v44 V45 le46 hp47 => ?_)
   obtain ⟨v49, v51, v53, rfl, f50, f52, f54, ow48⟩ := hp47
   refine U.p rfl rfl (.inl rfl) (S.move rfl (L 0 rfl rfl)) ?_
   refine U.p rfl rfl (.inl rfl) (S.extract rfl (L 0 rfl rfl) rfl (nr rfl)) ?_
   refine U.p rfl rfl (.inl rfl) (S.extract rfl (L 1 rfl rfl) rfl (nr rfl)) ?_
   refine O.alloc ow48 rfl rfl (.inl rfl) rfl ti27 rfl rfl nd (fun b55 V56 le57 ow58 => ?_)
   refine O.store (k := 0) (cs := [v49, v51, v53]) (c' := [v49, v51, v53]) ow58 rfl rfl rfl (.inl rfl) rfl (L 0 rfl rfl) (L 2 rfl rfl) ti27 (by simp [topV]) rfl rfl (nr rfl) (by have q0 := f50.one; have q1 := f52.one; have q2 := f54.one; simp only [List.all_cons, List.all_nil, q0, q1, q2]; rfl) rfl nd (fun V60 le61 ow62 => ?_)
   refine U.p rfl rfl (.inl rfl) (S.assign rfl (L 1 rfl rfl)) ?_
   refine U.done (nr rfl) ?_
   refine WP.seq ?_
   refine WP.usreg rfl ?_
   refine U.k rfl rfl (.inl rfl) (S.loadB rfl (L 8 rfl rfl) Tryd.underlying27 rfl ti27 (ow62.own (k := 1) rfl).get rfl) nd ?_
   refine U.k rfl rfl (.inl rfl) (S.loadB rfl (L 2 rfl rfl) Tryd.underlying27 rfl ti27 (ow62.own (k := 0) rfl).get rfl) nd ?_
   have f63 := f28.up ((((le35.trans le39).trans le46).trans le57).trans le61)
   have f64 := f30.up ((((le35.trans le39).trans le46).trans le57).trans le61)
   have f65 := f32.up ((((le35.trans le39).trans le46).trans le57).trans le61)
   have f66 := f50.up (le57.trans le61)
   have f67 := f52.up (le57.trans le61)
   have f68 := f54.up (le57.trans le61)
   obtain ⟨x69, hx70, h71⟩ := bindS h43
   refine O.call (V := V60) rfl rfl (.inl rfl) rfl en9 (aC (L 1 rfl rfl) (aC (L 0 rfl rfl) aN)) (wk_ref15_Same V60 _ (gl.up ((((((le6.trans le24).trans le35).trans le39).trans le46).trans le57).trans le61)) x19.1 x41.1 v27 v29 v31 v49 v51 v53 f63 f64 f65 f66 f67 f68 ow62 _ hx70) (fun _ _ _ _ => nd) (fun v72 V73 le74 hp75 => ?_)
   obtain ⟨rfl, ow76⟩ := hp75
   refine U.p rfl rfl (.inl rfl) (S.not rfl (L 0 rfl rfl)) ?_
   refine U.p rfl rfl (.inl rfl) (S.move rfl (L 0 rfl rfl)) ?_
   refine U.joinX 10 (fun e H => ∃ (u77 u78 u79 u80 : Value), H = V73.H ∧ e = [(33, .bool ((!x69) || (!((decide (x19.2 = 0)) == x41.2)))), (32, u77), (31, u78), (30, u79), (29, u80)]) ?_ ?_
   ·rintro _ _ ⟨u77, u78, u79, u80, rfl, rfl⟩
    refine U.p rfl rfl (.inl rfl) (S.move rfl (L 0 rfl rfl)) ?_
    refine U.joinX 18 (fun e H => ∃ (u84 u85 u86 u87 u88 u89 : Value), H = V73.H ∧ e = [(41, .bool (((!x69) || (!((decide (x19.2 = 0)) == x41.2))) || ((!x41.2) && (decide (x19.2 ≠ 4))))), (40, u84), (39, u85), (38, u86), (37, u87), (36, u88), (35, u89)]) ?_ ?_
    ·rintro _ _ ⟨u84, u85, u86, u87, u88, u89, rfl, rfl⟩
     refine U.done (nr rfl) ?_
     refine WP.cond _ (L 0 rfl rfl) rfl (fun c93 => ?_) (fun c93 => ?_)
     ·have h94 := ifT c93 h71
      refine WP.usreg rfl ?_
      refine U.p rfl rfl (.inl rfl) (S.assign rfl K) ?_
      refine U.done (nr rfl) ?_
      refine WP.ret ?_
      refine sqR ?_
      refine fin.slot (.inr rfl) rfl (L 0 rfl rfl) ⟨V73, rfl, (((((((le6.trans le24).trans le35).trans le39).trans le46).trans le57).trans le61).trans le74), ?_⟩
      have ow95 := ow76.drop 0 rfl
      have ow96 := ow95.drop 0 rfl
      have e97 := Option.some.inj h94
      subst e97
      exact ⟨rfl, ow96⟩
     ·have h98 := ifF c93 h71
      refine WP.skip ?_
      refine sqN ?_
      refine WP.usreg rfl ?_
      refine U.k rfl rfl (.inl rfl) (S.loadB rfl (L 26 rfl rfl) Tryd.underlying27 rfl ti27 (ow76.own (k := 1) rfl).get rfl) nd ?_
      have f99 := f63.up le74
      have f100 := f64.up le74
      have f101 := f65.up le74
      obtain ⟨x102, hx103, h104⟩ := bindS h98
      refine O.call (V := V73) rfl rfl (.inl rfl) rfl en10 (aC (L 0 rfl rfl) aN) (wk_image_Encode V73 _ (gl.up (((((((le6.trans le24).trans le35).trans le39).trans le46).trans le57).trans le61).trans le74)) x19.1 v27 v29 v31 f99 f100 f101 ow76 _ hx103) (fun _ _ _ _ => nd) (fun v105 V106 le107 hp108 => ?_)
      obtain ⟨rfl, ow109⟩ := hp108
      refine U.p rfl rfl (.inl rfl) (S.move rfl (L 0 rfl rfl)) ?_
      refine U.p rfl rfl (.inl rfl) (S.extract rfl (L 0 rfl rfl) rfl (nr rfl)) ?_
      refine U.p rfl rfl (.inl rfl) (S.extract rfl (L 1 rfl rfl) rfl (nr rfl)) ?_
      refine U.p rfl rfl (.inl rfl) (S.assign rfl (L 1 rfl rfl)) ?_
      refine U.p rfl rfl (.inl rfl) (S.assign rfl (L 1 rfl rfl)) ?_
      refine U.done (nr rfl) ?_
      refine WP.usreg rfl ?_
      refine U.p rfl rfl (.inl rfl) (S.move rfl (L 25 rfl rfl)) ?_
      refine U.p rfl rfl (.inl rfl) (S.not rfl (L 0 rfl rfl)) ?_
      refine U.p rfl rfl (.inl rfl) (S.move rfl (L 0 rfl rfl)) ?_
      refine U.joinX 11 (fun e H => ∃ (u110 u111 u112 u113 u114 u115 u116 : Value), H = V106.H ∧ e = [(57, .bool ((!x41.2) || ((decide (x102.2 = 0)) && (decide (x102.1 = p0))))), (56, u110), (55, u111), (54, u112), (53, u113), (52, u114), (51, u115), (50, u116)]) ?_ ?_
      ·rintro _ _ ⟨u110, u111, u112, u113, u114, u115, u116, rfl, rfl⟩
       refine U.p rfl rfl (.inl rfl) (S.assign rfl (L 0 rfl rfl)) ?_
       refine U.done (nr rfl) ?_
       refine WP.ret ?_
       refine fin.slot (.inr rfl) rfl (L 0 rfl rfl) ⟨V106, rfl, ((((((((le6.trans le24).trans le35).trans le39).trans le46).trans le57).trans le61).trans le74).trans le107), ?_⟩
       have ow120 := ow109.drop 0 rfl
       have ow121 := ow120.drop 0 rfl
       have e122 := Option.some.inj h104
       subst e122
       exact ⟨rfl, ow121⟩
      ·intro kk
       refine bcase (b := !x41.2) (fun g123 => ?_) (fun g123 => ?_)
       ·skip
        have k124 : x41.2 = false := nT g123
        refine U.x rfl rfl rfl rfl ((L 0 rfl rfl).trans (congrArg Value.bool g123)) (by decide) ?_
        refine U.x rfl rfl rfl rfl ((L 1 rfl rfl).trans (congrArg Value.bool g123)) (by decide) ?_
        refine U.x rfl rfl rfl rfl ((L 2 rfl rfl).trans (congrArg Value.bool g123)) (by decide) ?_
        refine U.z rfl rfl rfl rfl (L 0 rfl rfl) ?_
        refine U.z rfl rfl rfl rfl (L 1 rfl rfl) ?_
        refine U.z rfl rfl rfl rfl (L 2 rfl rfl) ?_
        refine U.x rfl rfl rfl rfl ((L 6 rfl rfl).trans (congrArg Value.bool g123)) (by decide) ?_
        refine U.p rfl rfl (.inl rfl) (S.pickT rfl ((L 7 rfl rfl).trans (congrArg Value.bool g123)) K) ?_
        exact kk [(57, .bool true), (56, .tuple #[]), (55, .tuple #[]), (54, .tuple #[]), (53, .tuple #[]), (52, .tuple #[]), (51, .tuple #[]), (50, .tuple #[])] _ ⟨.tuple #[], .tuple #[], .tuple #[], .tuple #[], .tuple #[], .tuple #[], .tuple #[], rfl, (by rw [g123, Bool.true_or])⟩
       ·skip
        have k125 : x41.2 = true := nF g123
        refine U.p rfl rfl (.inr ⟨_, _, _, rfl, rfl, ((L 0 rfl rfl).trans (congrArg Value.bool g123))⟩) (S.move rfl (L 3 rfl rfl)) ?_
        refine U.p rfl rfl (.inr ⟨_, _, _, rfl, rfl, ((L 1 rfl rfl).trans (congrArg Value.bool g123))⟩) (S.eqlI rfl (L 0 rfl rfl) K) ?_
        refine U.p rfl rfl (.inr ⟨_, _, _, rfl, rfl, ((L 2 rfl rfl).trans (congrArg Value.bool g123))⟩) (S.move rfl (L 0 rfl rfl)) ?_
        refine U.joinX 10 (fun e H => ∃ (u126 u127 u128 : Value), H = V106.H ∧ e = [(56, .bool ((decide (x102.2 = 0)) && (decide (x102.1 = p0)))), (55, u126), (54, u127), (53, u128)]) ?_ ?_
        ·rintro _ _ ⟨u126, u127, u128, rfl, rfl⟩
         refine U.p rfl rfl (.inl rfl) (S.pickF rfl ((L 7 rfl rfl).trans (congrArg Value.bool g123)) (L 0 rfl rfl)) ?_
         exact kk [(57, .bool ((decide (x102.2 = 0)) && (decide (x102.1 = p0)))), (56, .bool ((decide (x102.2 = 0)) && (decide (x102.1 = p0)))), (55, u126), (54, u127), (53, u128), (52, .bool (decide (x102.2 = 0))), (51, .bool (decide (x102.2 = 0))), (50, .int .i64 x102.2)] _ ⟨.bool ((decide (x102.2 = 0)) && (decide (x102.1 = p0))), u126, u127, u128, .bool (decide (x102.2 = 0)), .bool (decide (x102.2 = 0)), .int .i64 x102.2, rfl, (by rw [g123, Bool.false_or])⟩
        ·intro kk
         refine bcase (b := decide (x102.2 = 0)) (fun g132 => ?_) (fun g132 => ?_)
         ·skip
          refine U.p rfl rfl (.inr ⟨_, _, _, rfl, rfl, ((L 0 rfl rfl).trans (congrArg Value.bool g132))⟩) (S.move rfl (L 7 rfl rfl)) ?_
          refine U.p rfl rfl (.inr ⟨_, _, _, rfl, rfl, ((L 1 rfl rfl).trans (congrArg Value.bool g132))⟩) (S.move rfl (L 52 rfl rfl)) ?_
          refine U.p rfl rfl (.inr ⟨_, _, _, rfl, rfl, ((L 2 rfl rfl).trans (congrArg Value.bool g132))⟩) (S.eqlS rfl (L 1 rfl rfl) (L 0 rfl rfl)) ?_
          refine U.p rfl rfl (.inr ⟨_, _, _, rfl, rfl, ((L 6 rfl rfl).trans (congrArg Value.bool g123))⟩) (S.pickT rfl ((L 3 rfl rfl).trans (congrArg Value.bool g132)) (L 0 rfl rfl)) ?_
          exact kk [(56, .bool (decide (x102.1 = p0))), (55, .bool (decide (x102.1 = p0))), (54, .string p0), (53, .string x102.1)] _ ⟨.bool (decide (x102.1 = p0)), .string p0, .string x102.1, rfl, (by rw [g132, Bool.true_and])⟩
         ·skip
          refine U.x rfl rfl rfl rfl ((L 0 rfl rfl).trans (congrArg Value.bool g132)) (by decide) ?_
          refine U.x rfl rfl rfl rfl ((L 1 rfl rfl).trans (congrArg Value.bool g132)) (by decide) ?_
          refine U.x rfl rfl rfl rfl ((L 2 rfl rfl).trans (congrArg Value.bool g132)) (by decide) ?_
          refine U.p rfl rfl (.inr ⟨_, _, _, rfl, rfl, ((L 6 rfl rfl).trans (congrArg Value.bool g123))⟩) (S.pickF rfl ((L 3 rfl rfl).trans (congrArg Value.bool g132)) K) ?_
          exact kk [(56, .bool false), (55, .tuple #[]), (54, .tuple #[]), (53, .tuple #[])] _ ⟨.tuple #[], .tuple #[], .tuple #[], rfl, (by rw [g132, Bool.false_and])⟩
    ·intro kk
     refine bcase (b := (!x69) || (!((decide (x19.2 = 0)) == x41.2))) (fun g133 => ?_) (fun g133 => ?_)
     ·skip
      refine U.x rfl rfl rfl rfl ((L 0 rfl rfl).trans (congrArg Value.bool g133)) (by decide) ?_
      refine U.x rfl rfl rfl rfl ((L 1 rfl rfl).trans (congrArg Value.bool g133)) (by decide) ?_
      refine U.x rfl rfl rfl rfl ((L 2 rfl rfl).trans (congrArg Value.bool g133)) (by decide) ?_
      refine U.z rfl rfl rfl rfl (L 0 rfl rfl) ?_
      refine U.z rfl rfl rfl rfl (L 1 rfl rfl) ?_
      refine U.x rfl rfl rfl rfl ((L 5 rfl rfl).trans (congrArg Value.bool g133)) (by decide) ?_
      refine U.p rfl rfl (.inl rfl) (S.pickT rfl ((L 6 rfl rfl).trans (congrArg Value.bool g133)) K) ?_
      exact kk [(41, .bool true), (40, .tuple #[]), (39, .tuple #[]), (38, .tuple #[]), (37, .tuple #[]), (36, .tuple #[]), (35, .tuple #[])] _ ⟨.tuple #[], .tuple #[], .tuple #[], .tuple #[], .tuple #[], .tuple #[], rfl, (by rw [g133, Bool.true_or])⟩
     ·skip
      refine U.p rfl rfl (.inr ⟨_, _, _, rfl, rfl, ((L 0 rfl rfl).trans (congrArg Value.bool g133))⟩) (S.move rfl (L 11 rfl rfl)) ?_
      refine U.p rfl rfl (.inr ⟨_, _, _, rfl, rfl, ((L 1 rfl rfl).trans (congrArg Value.bool g133))⟩) (S.not rfl (L 0 rfl rfl)) ?_
      refine U.p rfl rfl (.inr ⟨_, _, _, rfl, rfl, ((L 2 rfl rfl).trans (congrArg Value.bool g133))⟩) (S.move rfl (L 0 rfl rfl)) ?_
      refine U.joinX 17 (fun e H => ∃ (u134 u135 : Value), H = V73.H ∧ e = [(40, .bool ((!x41.2) && (decide (x19.2 ≠ 4)))), (39, u134), (38, u135)]) ?_ ?_
      ·rintro _ _ ⟨u134, u135, rfl, rfl⟩
       refine U.p rfl rfl (.inl rfl) (S.pickF rfl ((L 6 rfl rfl).trans (congrArg Value.bool g133)) (L 0 rfl rfl)) ?_
       exact kk [(41, .bool ((!x41.2) && (decide (x19.2 ≠ 4)))), (40, .bool ((!x41.2) && (decide (x19.2 ≠ 4)))), (39, u134), (38, u135), (37, .bool (!x41.2)), (36, .bool (!x41.2)), (35, .bool x41.2)] _ ⟨.bool ((!x41.2) && (decide (x19.2 ≠ 4))), u134, u135, .bool (!x41.2), .bool (!x41.2), .bool x41.2, rfl, (by rw [g133, Bool.false_or])⟩
      ·intro kk
       refine bcase (b := !x41.2) (fun g139 => ?_) (fun g139 => ?_)
       ·skip
        have k140 : x41.2 = false := nT g139
        refine U.p rfl rfl (.inr ⟨_, _, _, rfl, rfl, ((L 0 rfl rfl).trans (congrArg Value.bool g139))⟩) (S.move rfl (L 21 rfl rfl)) ?_
        refine U.p rfl rfl (.inr ⟨_, _, _, rfl, rfl, ((L 1 rfl rfl).trans (congrArg Value.bool g139))⟩) (S.neqI rfl (L 0 rfl rfl) K) ?_
        refine U.p rfl rfl (.inr ⟨_, _, _, rfl, rfl, ((L 5 rfl rfl).trans (congrArg Value.bool g133))⟩) (S.pickT rfl ((L 2 rfl rfl).trans (congrArg Value.bool g139)) (L 0 rfl rfl)) ?_
        exact kk [(40, .bool (decide (x19.2 ≠ 4))), (39, .bool (decide (x19.2 ≠ 4))), (38, .int .i64 x19.2)] _ ⟨.bool (decide (x19.2 ≠ 4)), .int .i64 x19.2, rfl, (by rw [g139, Bool.true_and])⟩
       ·skip
        have k141 : x41.2 = true := nF g139
        refine U.x rfl rfl rfl rfl ((L 0 rfl rfl).trans (congrArg Value.bool g139)) (by decide) ?_
        refine U.x rfl rfl rfl rfl ((L 1 rfl rfl).trans (congrArg Value.bool g139)) (by decide) ?_
        refine U.p rfl rfl (.inr ⟨_, _, _, rfl, rfl, ((L 5 rfl rfl).trans (congrArg Value.bool g133))⟩) (S.pickF rfl ((L 2 rfl rfl).trans (congrArg Value.bool g139)) K) ?_
        exact kk [(40, .bool false), (39, .tuple #[]), (38, .tuple #[])] _ ⟨.tuple #[], .tuple #[], rfl, (by rw [g139, Bool.false_and])⟩
   ·intro kk
    refine bcase (b := !x69) (fun g142 => ?_) (fun g142 => ?_)
    ·skip
     have k143 : x69 = false := nT g142
     refine U.x rfl rfl rfl rfl ((L 0 rfl rfl).trans (congrArg Value.bool g142)) (by decide) ?_
     refine U.x rfl rfl rfl rfl ((L 1 rfl rfl).trans (congrArg Value.bool g142)) (by decide) ?_
     refine U.x rfl rfl rfl rfl ((L 2 rfl rfl).trans (congrArg Value.bool g142)) (by decide) ?_
     refine U.x rfl rfl rfl rfl ((L 3 rfl rfl).trans (congrArg Value.bool g142)) (by decide) ?_
     refine U.p rfl rfl (.inl rfl) (S.pickT rfl ((L 4 rfl rfl).trans (congrArg Value.bool g142)) K) ?_
     exact kk [(33, .bool true), (32, .tuple #[]), (31, .tuple #[]), (30, .tuple #[]), (29, .tuple #[])] _ ⟨.tuple #[], .tuple #[], .tuple #[], .tuple #[], rfl, (by rw [g142, Bool.true_or])⟩
    ·skip
     have k144 : x69 = true := nF g142
     refine U.p rfl rfl (.inr ⟨_, _, _, rfl, rfl, ((L 0 rfl rfl).trans (congrArg Value.bool g142))⟩) (S.move rfl (L 12 rfl rfl)) ?_
     refine U.p rfl rfl (.inr ⟨_, _, _, rfl, rfl, ((L 1 rfl rfl).trans (congrArg Value.bool g142))⟩) (S.eqlI rfl (L 0 rfl rfl) K) ?_
     refine U.p rfl rfl (.inr ⟨_, _, _, rfl, rfl, ((L 2 rfl rfl).trans (congrArg Value.bool g142))⟩) (S.move rfl (L 7 rfl rfl)) ?_
     refine U.p rfl rfl (.inr ⟨_, _, _, rfl, rfl, ((L 3 rfl rfl).trans (congrArg Value.bool g142))⟩) (S.neqB rfl (L 1 rfl rfl) (L 0 rfl rfl) Tryd.underlying4) ?_
     refine U.p rfl rfl (.inl rfl) (S.pickF rfl ((L 4 rfl rfl).trans (congrArg Value.bool g142)) (L 0 rfl rfl)) ?_
     exact kk [(33, .bool (!((decide (x19.2 = 0)) == x41.2))), (32, .bool (!((decide (x19.2 = 0)) == x41.2))), (31, .bool x41.2), (30, .bool (decide (x19.2 = 0))), (29, .int .i64 x19.2)] _ ⟨.bool (!((decide (x19.2 = 0)) == x41.2)), .bool x41.2, .bool (decide (x19.2 = 0)), .int .i64 x19.2, rfl, (by rw [g142, Bool.false_or])⟩
end Go.Vm.G15
