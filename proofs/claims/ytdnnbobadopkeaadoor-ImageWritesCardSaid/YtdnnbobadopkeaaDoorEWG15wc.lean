/-
  What the functions compute is what the plain ones say, for all inputs at which those answer.
-/
import Derived.Test.YtdnnbobadopkeaaDoorEWG15wb
set_option linter.unusedSimpArgs false
set_option linter.unusedVariables false
namespace Go.Vm.G15w
open Go Go.Proofs
set_option maxHeartbeats 4000000
set_option maxRecDepth 10000
theorem wk_isa_condition (V : Vw) (Rs : List At) (gl : Glb V) (p0 : TInst) (ow : Ow V (Rs)) (r : ByteArray) (h : isa_condition p0 = some r) : ∃ v V', Cl Tryd.prog NG 42 #[.agg #[.int .i64 p0.op, .int .i64 p0.d, .int .i64 p0.a, .int .i64 p0.b, .int .i64 p0.imm]] V.H v V'.H ∧ V.le V' ∧ (v = .string r ∧ Ow V' (Rs)) := by
 refine Ct.of gl.lo Tryd.func42 Z (nr Z) ?_
 unfold isa_condition at h
 refine WP.usreg Z ?_
 refine O.box ow Z Z (.inl Z) Z (L 0 Z Z) (by simp [topV]) Z nd (fun b1 V2 le3 ow4 => ?_)
 refine U.p Z Z (.inl Z) (S.assign Z K) ?_
 refine U.done (nr Z) ?_
 refine WP.usreg Z ?_
 refine O.lit (R := RT.str) ow4 Z Z (.inl Z) Z Tryd.underlying83 ti9 Z Z Z (nr Z) Z (aC K (aC K (aC K aN))) (.cons _ _ str36 _ (by simp [topV]) Z (.cons _ _ str37 _ (by simp [topV]) Z (.cons _ _ str38 _ (by simp [topV]) Z .nil))) (fun _ => nd) (fun v6 V7 le8 ow9 => ?_)
 refine U.p Z Z (.inl Z) (S.assign Z (L 0 Z Z)) ?_
 refine U.done (nr Z) ?_
 refine WP.usreg Z ?_
 refine O.lit (R := RT.str) ow9 Z Z (.inl Z) Z Tryd.underlying83 ti9 Z Z Z (nr Z) Z (aC K (aC K (aC K aN))) (.cons _ _ str39 _ (by simp [topV]) Z (.cons _ _ str40 _ (by simp [topV]) Z (.cons _ _ str41 _ (by simp [topV]) Z .nil))) (fun _ => nd) (fun v11 V12 le13 ow14 => ?_)
 refine U.p Z Z (.inl Z) (S.assign Z (L 0 Z Z)) ?_
 refine U.done (nr Z) ?_
 refine WP.seq ?_
 refine WP.usreg Z ?_
 refine U.p (v := .pointer (some ⟨b1, 1, none⟩)) Z Z (.inl Z) (S.fieldAddr Z (L 5 Z Z) Tryd.underlying50 Z ti3 Z Z) ?_
 refine U.k Z Z (.inl Z) (S.load Z (L 0 Z Z) Tryd.underlying3 Z ((ow14.own (k := 2) Z).cell Z)) nd ?_
 refine U.p Z Z (.inl Z) (S.eqlI Z (L 0 Z Z) K) ?_
 refine U.done (nr Z) ?_
 refine WP.cond _ (L 0 Z Z) Z (fun c16 => ?_) (fun c16 => ?_)
 ·have h17 := ifT c16 h
  refine WP.usreg Z ?_
  refine U.p Z Z (.inl Z) (S.move Z (L 5 Z Z)) ?_
  refine U.p (v := .pointer (some ⟨b1, 2, none⟩)) Z Z (.inl Z) (S.fieldAddr Z (L 9 Z Z) Tryd.underlying50 Z ti3 Z Z) ?_
  refine U.k Z Z (.inl Z) (S.load Z (L 0 Z Z) Tryd.underlying3 Z ((ow14.own (k := 2) Z).cell Z)) nd ?_
  obtain ⟨x18, hx19, h20⟩ := bindS h17
  obtain ⟨b21, o22, n23, c24, hv25⟩ := ow14.ospt (k := 1) Z hx19
  obtain ⟨_, hv26, _⟩ := ow14.osel (k := 1) Z hv25 hx19
  refine U.p Z Z (.inl Z) (S.index Z ((L 2 Z Z).trans hv26) (L 0 Z Z) Tryd.underlying83 ti9 (ix_ge hx19) (ix_lt hx19)) ?_
  obtain ⟨cs27, hv28, hlt29, hr30, hc31⟩ := ow14.osel (k := 1) Z hv25 hx19
  obtain rfl : cs27 = [.string x18] := hr30
  refine U.k Z Z (.inl Z) (S.load Z (L 0 Z Z) Tryd.underlying9 Z (hc31 0 _ Z)) nd ?_
  obtain ⟨x32, hx33, h34⟩ := bindS h20
  refine U.p Z Z (.inl Z) (S.addS hx33 Z K (L 0 Z Z)) ?_
  refine U.p Z Z (.inl Z) (S.assign Z (L 0 Z Z)) ?_
  refine U.done (nr Z) ?_
  refine WP.ret ?_
  refine sqR ?_
  refine fin.slot (.inr Z) Z (L 0 Z Z) ⟨V12, Z, ((le3.trans le8).trans le13), ?_⟩
  have ow35 := ow14.drop 0 Z
  have ow36 := ow35.drop 0 Z
  have ow37 := ow36.drop 0 Z
  have e38 := Option.some.inj h34
  subst e38
  exact ⟨rfl, ow37⟩
 ·have h39 := ifF c16 h
  refine WP.skip ?_
  refine sqN ?_
  refine WP.usreg Z ?_
  refine U.p Z Z (.inl Z) (S.move Z (L 3 Z Z)) ?_
  refine U.p (v := .pointer (some ⟨b1, 2, none⟩)) Z Z (.inl Z) (S.fieldAddr Z (L 9 Z Z) Tryd.underlying50 Z ti3 Z Z) ?_
  refine U.k Z Z (.inl Z) (S.load Z (L 0 Z Z) Tryd.underlying3 Z ((ow14.own (k := 2) Z).cell Z)) nd ?_
  obtain ⟨x40, hx41, h42⟩ := bindS h39
  obtain ⟨b43, o44, n45, c46, hv47⟩ := ow14.ospt (k := 0) Z hx41
  obtain ⟨_, hv48, _⟩ := ow14.osel (k := 0) Z hv47 hx41
  refine U.p Z Z (.inl Z) (S.index Z ((L 2 Z Z).trans hv48) (L 0 Z Z) Tryd.underlying83 ti9 (ix_ge hx41) (ix_lt hx41)) ?_
  obtain ⟨cs49, hv50, hlt51, hr52, hc53⟩ := ow14.osel (k := 0) Z hv47 hx41
  obtain rfl : cs49 = [.string x40] := hr52
  refine U.k Z Z (.inl Z) (S.load Z (L 0 Z Z) Tryd.underlying9 Z (hc53 0 _ Z)) nd ?_
  obtain ⟨x54, hx55, h56⟩ := bindS h42
  refine U.p Z Z (.inl Z) (S.addS hx55 Z K (L 0 Z Z)) ?_
  refine U.p Z Z (.inl Z) (S.assign Z (L 0 Z Z)) ?_
  refine U.done (nr Z) ?_
  refine WP.ret ?_
  refine fin.slot (.inr Z) Z (L 0 Z Z) ⟨V12, Z, ((le3.trans le8).trans le13), ?_⟩
  have ow57 := ow14.drop 0 Z
  have ow58 := ow57.drop 0 Z
  have ow59 := ow58.drop 0 Z
  have e60 := Option.some.inj h56
  subst e60
  exact ⟨rfl, ow59⟩
theorem wk_strings_Join (V : Vw) (Rs : List At) (gl : Glb V) (p0 : List ByteArray) (p1 : ByteArray) (v1 : Value) (ow : Ow V (.os RT.str v1 p0 :: Rs)) (r : ByteArray) (h : strings_Join p0 p1 = some r) : ∃ v V', Cl Tryd.prog NG 44 #[v1, .string p1] V.H v V'.H ∧ V.le V' ∧ (v = .string r ∧ Ow V' (.os RT.str v1 p0 :: Rs)) := by
 unfold strings_Join at h
 exact join_cl (ow.strs (k := 0) Z) (fun a c w => Tryd.strings_Join_none a c p1 w) (fun bk o c w h1 h2 h3 h4 h5 => Tryd.strings_Join bk o c p0 p1 w h1 h2 h3 h4 h5) ow h
theorem wk_strings_TrimSpace (V : Vw) (Rs : List At) (gl : Glb V) (p0 : ByteArray) (ow : Ow V (Rs)) (r : ByteArray) (h : strings_TrimSpace p0 = some r) : ∃ v V', Cl Tryd.prog NG 43 #[.string p0] V.H v V'.H ∧ V.le V' ∧ (v = .string r ∧ Ow V' (Rs)) := by
 unfold strings_TrimSpace at h
 exact trim_cl gl.t2 (Nat.lt_of_lt_of_le (by decide) gl.lo) (by kernel_rfl) (fun w h0 h1 ht => (Tryd.strings_TrimSpace p0 w (by omega) h1 ht).mono (by rintro e w2 ⟨rfl, rfl⟩; exact ⟨rfl, below_bytes w _ p0⟩)) ow h
theorem wk_isa_Text (V : Vw) (Rs : List At) (gl : Glb V) (p0 : TInst) (ow : Ow V (Rs)) (r : ByteArray) (h : isa_Text p0 = some r) : ∃ v V', Cl Tryd.prog NG 28 #[.agg #[.int .i64 p0.op, .int .i64 p0.d, .int .i64 p0.a, .int .i64 p0.b, .int .i64 p0.imm]] V.H v V'.H ∧ V.le V' ∧ (v = .string r ∧ Ow V' (Rs)) := by
 refine Ct.of gl.lo Tryd.func28 Z (nr Z) ?_
 unfold isa_Text at h
 refine WP.usreg Z ?_
 refine O.box ow Z Z (.inl Z) Z (L 0 Z Z) (by simp [topV]) Z nd (fun b1 V2 le3 ow4 => ?_)
 refine U.p Z Z (.inl Z) (S.assign Z K) ?_
 refine U.done (nr Z) ?_
 refine WP.seq ?_
 refine WP.usreg Z ?_
 refine U.k Z Z (.inl Z) (S.loadB Z (L 1 Z Z) Tryd.underlying50 Z ti50 (ow4.own (k := 0) Z).get Z) nd ?_
 obtain ⟨x6, hx7, h8⟩ := bindS h
 refine O.call (V := V2) Z Z (.inl Z) Z en41 (aC (L 0 Z Z) aN) (wk_isa_Good V2 _ (gl.up le3) p0 ow4 _ hx7) (fun _ _ _ _ => nd) (fun v9 V10 le11 hp12 => ?_)
 obtain ⟨rfl, ow13⟩ := hp12
 refine U.p Z Z (.inl Z) (S.not Z (L 0 Z Z)) ?_
 refine U.done (nr Z) ?_
 refine WP.cond _ (L 0 Z Z) Z (fun c14 => ?_) (fun c14 => ?_)
 ·have h15 := ifT c14 h8
  have k16 : x6 = false := nT c14
  refine WP.usreg Z ?_
  refine U.p Z Z (.inl Z) (S.assign Z K) ?_
  refine U.done (nr Z) ?_
  refine WP.ret ?_
  refine sqR ?_
  refine fin.slot (.inr Z) Z (L 0 Z Z) ⟨V10, Z, (le3.trans le11), ?_⟩
  have ow17 := ow13.drop 0 Z
  have e18 := Option.some.inj h15
  subst e18
  exact ⟨rfl, ow17⟩
 ·have h19 := ifF c14 h8
  have k20 : x6 = true := nF c14
  refine WP.skip ?_
  refine sqN ?_
  refine WP.usreg Z ?_
  refine U.p (v := .pointer (some ⟨b1, 0, none⟩)) Z Z (.inl Z) (S.fieldAddr Z (L 4 Z Z) Tryd.underlying50 Z ti3 Z Z) ?_
  refine U.k Z Z (.inl Z) (S.load Z (L 0 Z Z) Tryd.underlying3 Z ((ow13.own (k := 0) Z).cell Z)) nd ?_
  obtain ⟨x21, hx22, h23⟩ := bindS h19
  obtain ⟨_, _, _, cs24, hv25, hf26, hr27, hc28⟩ := (gl.up (le3.trans le11)).g1.at hx22
  cases hv25
  obtain rfl : cs24 = [.string x21.name, .string x21.fields, .int .u32 x21.word] := hr27
  refine U.p Z Z (.inl Z) (S.indexA Z Gl (L 0 Z Z) Tryd.underlying82 ti81 (ix_ge hx22) (by have q1 := ix_lt hx22; have q2 := gl1_len; omega)) ?_
  refine U.k Z Z (.inl Z) (S.loadN (cs := [.string x21.name, .string x21.fields, .int .u32 x21.word]) Z (L 0 Z Z) Tryd.underlying81 Z ti81 Z (fun j v hj => hc28 j v hj)) nd ?_
  refine O.alloc ow13 Z Z (.inl Z) Z ti81 Z Z nd (fun b29 V30 le31 ow32 => ?_)
  refine O.store (k := 0) (cs := [.string x21.name, .string x21.fields, .int .u32 x21.word]) (c' := [.string x21.name, .string x21.fields, .int .u32 x21.word]) ow32 Z Z Z (.inl Z) Z (L 0 Z Z) (L 1 Z Z) ti81 (by simp [topV]) Z Z (nr Z) Z Z nd (fun V34 le35 ow36 => ?_)
  refine U.done (nr Z) ?_
  refine WP.seq ?_
  refine WP.usreg Z ?_
  refine U.p (v := .pointer (some ⟨b1, 0, none⟩)) Z Z (.inl Z) (S.fieldAddr Z (L 9 Z Z) Tryd.underlying50 Z ti3 Z Z) ?_
  refine U.k Z Z (.inl Z) (S.load Z (L 0 Z Z) Tryd.underlying3 Z ((ow36.own (k := 1) Z).cell Z)) nd ?_
  refine U.p Z Z (.inl Z) (S.eqlI Z (L 0 Z Z) K) ?_
  refine U.done (nr Z) ?_
  refine WP.cond _ (L 0 Z Z) Z (fun c37 => ?_) (fun c37 => ?_)
  ·have h38 := ifT c37 h23
   refine WP.usdreg Z Z Z ?_
   refine U.k Z Z (.inl Z) (S.loadB Z (L 12 Z Z) Tryd.underlying50 Z ti50 (ow36.own (k := 1) Z).get Z) (fun _ => (okH.nil (fun r h => by cases h; exact (ow36.own (k := 1) Z).lt))) ?_
   obtain ⟨x39, hx40, h41⟩ := bindS h38
   refine O.call (V := V34) Z Z (.inl Z) Z en42 (aC (L 0 Z Z) aN) (wk_isa_condition V34 _ (gl.up (((le3.trans le11).trans le31).trans le35)) p0 ow36 _ hx40) (fun v42 V43 le44 hp45 => by obtain ⟨rfl, ow46⟩ := hp45; exact (fun _ => (okH.cons (Or.inl Z) (okH.nil (fun r h => nomatch h))))) (fun v42 V43 le44 hp45 => ?_)
   obtain ⟨rfl, ow46⟩ := hp45
   obtain ⟨x47, hx48, h49⟩ := bindS h41
   refine U.p Z Z (.inl Z) (S.addS hx48 Z (L 0 Z Z) K) ?_
   refine U.p (v := .pointer (some ⟨b1, 4, none⟩)) Z Z (.inl Z) (S.fieldAddr Z (L 15 Z Z) Tryd.underlying50 Z ti3 Z Z) ?_
   refine U.k Z Z (.inl Z) (S.load Z (L 0 Z Z) Tryd.underlying3 Z ((ow46.own (k := 1) Z).cell Z)) (fun _ => (okH.cons (Or.inr (Or.inl ((ow46.own (k := 1) Z).get.trans (ow36.own (k := 1) Z).get.symm))) (okH.cons trivial (okH.nil (fun r h => by cases h; exact (ow46.own (k := 1) Z).lt))))) ?_
   obtain ⟨x50, hx51, h52⟩ := bindS h49
   refine O.call (V := V43) Z Z (.inl Z) Z en27 (aC (L 0 Z Z) aN) (wk_strconv_Itoa V43 _ (gl.up ((((le3.trans le11).trans le31).trans le35).trans le44)) p0.imm ow46 _ hx51) (fun v53 V54 le55 hp56 => by obtain ⟨rfl, ow57⟩ := hp56; exact (fun _ => (okH.cons (Or.inl Z) (okH.cons Z (okH.cons (Or.inl Z) (okH.nil (fun r h => nomatch h))))))) (fun v53 V54 le55 hp56 => ?_)
   obtain ⟨rfl, ow57⟩ := hp56
   obtain ⟨x58, hx59, h60⟩ := bindS h52
   refine U.p Z Z (.inl Z) (S.addS hx59 Z (L 3 Z Z) (L 0 Z Z)) ?_
   refine U.p Z Z (.inl Z) (S.assign Z (L 0 Z Z)) ?_
   refine U.done (nr Z) ?_
   refine WP.ret ?_
   refine sqR ?_
   refine fin.slot (.inr Z) Z (L 0 Z Z) ⟨V54, Z, (((((le3.trans le11).trans le31).trans le35).trans le44).trans le55), ?_⟩
   have ow61 := ow57.drop 0 Z
   have ow62 := ow61.drop 0 Z
   have e63 := Option.some.inj h60
   subst e63
   exact ⟨rfl, ow62⟩
  ·have h64 := ifF c37 h23
   refine WP.skip ?_
   refine sqN ?_
   refine WP.usreg Z ?_
   refine U.p Z Z (.inl Z) (S.assign Z K) ?_
   refine U.done (nr Z) ?_
   refine WP.seq ?_
   refine WP.usreg Z ?_
   refine U.p (v := .pointer (some ⟨b29, 1, none⟩)) Z Z (.inl Z) (S.fieldAddr Z (L 4 Z Z) Tryd.underlying81 Z ti9 Z Z) ?_
   refine U.k Z Z (.inl Z) (S.load Z (L 0 Z Z) Tryd.underlying9 Z ((ow36.own (k := 0) Z).cell Z)) nd ?_
   obtain ⟨xs65, hx66, h67⟩ := bindS h64
   refine O.bytes ow36 Z Z (.inl Z) Z (L 0 Z Z) Tryd.underlying9 Tryd.underlying46 Tryd.underlying5 hx66 (fun _ => nd) (fun v68 V69 le70 ow71 => ?_)
   refine U.p Z Z (.inl Z) (ow71.oslen (k := 0) Z Z (L 0 Z Z) Tryd.underlying46) ?_
   refine U.p Z Z (.inl Z) (S.move Z K) ?_
   refine U.done (nr Z) ?_
   refine WP.blk ?_
   have ow77 := ow71.nil RT.str
   have ow79 := ow77.pick 1 Z
   have ow80 := ow79.pick 1 Z
   have ow81 := ow80.pick 2 Z
   have ow82 := ow81.pick 3 Z
   unfold isa_Text_l1 at h67
   obtain ⟨n84, hn83⟩ := loopO_some.1 h67
   refine WP.loopI2 (fun n l V' => ∃ (v74 : Value) (xs75 : List ByteArray) (x76 : Int), l = [(1, .pointer (some ⟨b1, 0, none⟩)), (3, .pointer (some ⟨b29, 0, none⟩)), (4, v74), (26, v68), (27, .int .i64 (xs65.length : Int)), (28, .int .i64 x76)] ∧ V69.le V' ∧ Ow V' (.pt b1 (.cells 0 [.int .i64 p0.op, .int .i64 p0.d, .int .i64 p0.a, .int .i64 p0.b, .int .i64 p0.imm]) :: .pt b29 (.cells 3 [.string x21.name, .string x21.fields, .int .u32 x21.word]) :: .os RT.str v74 xs75 :: .os (RT.int .u8) v68 xs65 :: Rs) ∧ itO (fun s => isa_Text_l1b p0 x21 xs65 s.1 s.2) n (xs75, x76) = some r) n84 _ ⟨(.slice none 0 0), [], 0, Z, .refl _, ow82, hn83⟩ (allCons (L 18 Z Z) (allCons (L 9 Z Z) (allCons (L 5 Z Z) (allCons (L 2 Z Z) (allCons (L 1 Z Z) (allCons (L 0 Z Z) allNil)))))) ?_
   rintro _ _ V85 ⟨v74, xs75, x76, rfl, le86, ow87, h91⟩
   obtain ⟨m88, q89, rfl, h92, e90⟩ := itS h91
   replace h92 : isa_Text_l1b p0 x21 xs65 xs75 x76 = some q89 := h92
   unfold isa_Text_l1b at h92
   refine WP.usreg Z ?_
   refine U.p Z Z (.inl Z) (S.lss Z (L 5 Z Z) (L 4 Z Z)) ?_
   refine U.done (nr Z) ?_
   refine WP.seq ?_
   refine WP.cond _ (L 0 Z Z) Z (fun c93 => ?_) (fun c93 => ?_)
   ·have h94 := ifT c93 h92
    refine WP.skip ?_
    refine sqN ?_
    refine WP.seqI (fun l V' => ∃ (v96 : Value) (xs97 : List ByteArray), l = [(1, .pointer (some ⟨b1, 0, none⟩)), (3, .pointer (some ⟨b29, 0, none⟩)), (4, v96), (26, v68), (27, .int .i64 (xs65.length : Int)), (28, .int .i64 x76)] ∧ V85.le V' ∧ Ow V' (.pt b1 (.cells 0 [.int .i64 p0.op, .int .i64 p0.d, .int .i64 p0.a, .int .i64 p0.b, .int .i64 p0.imm]) :: .pt b29 (.cells 3 [.string x21.name, .string x21.fields, .int .u32 x21.word]) :: .os RT.str v96 xs97 :: .os (RT.int .u8) v68 xs65 :: Rs) ∧ isa_Text_k1 x76 xs97 = some q89) ?_ ?_
    ·rintro _ V98 ⟨v96, xs97, rfl, le99, ow100, h101⟩
     unfold isa_Text_k1 at h101
     refine WP.ureg Z ?_
     refine U.p Z Z (.inl Z) (S.add Z (L 5 Z Z) K) ?_
     refine U.p Z Z (.inl Z) (S.move Z (L 0 Z Z)) ?_
     refine U.done (nr Z) ?_
     refine sqN ?_
     exact ⟨_, V98, Z, ⟨m88, Nat.lt_succ_self _, v96, xs97, w64 (x76 + 1), Z, (le86.trans le99), ow100, backS h101 e90⟩, (allCons (L 2 Z Z) (allCons (L 3 Z Z) (allCons (L 4 Z Z) (allCons (L 5 Z Z) (allCons (L 6 Z Z) (allCons (L 0 Z Z) allNil))))))⟩
    ·skip
     refine WP.blk ?_
     refine WP.usreg Z ?_
     obtain ⟨x102, hx103, h104⟩ := bindS h94
     obtain ⟨b105, o106, n107, c108, hv109⟩ := ow87.ospt (k := 3) Z hx103
     obtain ⟨_, hv110, _⟩ := ow87.osel (k := 3) Z hv109 hx103
     refine U.p Z Z (.inl Z) (S.index Z ((L 4 Z Z).trans hv110) (L 6 Z Z) Tryd.underlying46 ti5 (ix_ge hx103) (ix_lt hx103)) ?_
     obtain ⟨cs111, hv112, hlt113, hr114, hc115⟩ := ow87.osel (k := 3) Z hv109 hx103
     obtain rfl : cs111 = [.int .u8 x102] := hr114
     refine U.k Z Z (.inl Z) (S.load Z (L 0 Z Z) Tryd.underlying5 Z (hc115 0 _ Z)) nd ?_
     refine U.p Z Z (.inl Z) (S.assign Z (L 0 Z Z)) ?_
     refine U.done (nr Z) ?_
     refine WP.usreg Z ?_
     refine U.p Z Z (.inl Z) (S.move Z (L 0 Z Z)) ?_
     refine U.done (nr Z) ?_
     refine WP.blk ?_
     refine WP.usreg Z ?_
     refine U.p Z Z (.inl Z) (S.eqlI Z (L 0 Z Z) K) ?_
     refine U.p Z Z (.inl Z) (S.assign Z (L 0 Z Z)) ?_
     refine U.done (nr Z) ?_
     refine WP.cond _ (L 0 Z Z) Z (fun c116 => ?_) (fun c116 => ?_)
     ·have h117 := ifT c116 h104
      refine WP.ureg Z ?_
      refine U.p Z Z (.inl Z) (S.move Z (L 9 Z Z)) ?_
      refine U.p (v := .pointer (some ⟨b1, 1, none⟩)) Z Z (.inl Z) (S.fieldAddr Z (L 8 Z Z) Tryd.underlying50 Z ti3 Z Z) ?_
      refine U.k Z Z (.inl Z) (S.load Z (L 0 Z Z) Tryd.underlying3 Z ((ow87.own (k := 0) Z).cell Z)) nd ?_
      obtain ⟨x118, hx119, h120⟩ := bindS h117
      refine O.call (V := V85) Z Z (.inl Z) Z en27 (aC (L 0 Z Z) aN) (wk_strconv_Itoa V85 _ (gl.up (((((le3.trans le11).trans le31).trans le35).trans le70).trans le86)) p0.d ow87 _ hx119) (fun _ _ _ _ => nd) (fun v121 V122 le123 hp124 => ?_)
      obtain ⟨rfl, ow125⟩ := hp124
      obtain ⟨x126, hx127, h128⟩ := bindS h120
      refine U.p Z Z (.inl Z) (S.addS hx127 Z K (L 0 Z Z)) ?_
      refine O.lit (R := RT.str) ow125 Z Z (.inl Z) Z Tryd.underlying83 ti9 Z Z Z (nr Z) Z (aC (L 0 Z Z) aN) (.cons _ _ x126 _ (by simp [topV]) Z .nil) (fun _ => nd) (fun v129 V130 le131 ow132 => ?_)
      obtain ⟨xs134, hx135, h136⟩ := bindS h128
      refine O.append (k := 3) ow132 Z Z Z (.inl Z) Z (L 5 Z Z) (L 0 Z Z) Tryd.underlying83 ti9 Z Z (nr Z) (ow132.src (k := 0) Z Tryd.underlying83) hx135 (fun _ _ => nd) (fun v137 V138 le139 ow140 => ?_)
      refine U.p Z Z (.inl Z) (S.assign Z (L 0 Z Z)) ?_
      refine U.done (nr Z) ?_
      refine blkN (blkN (sqN ?_))
      have ow142 := ow140.drop 0 Z
      exact ⟨_, V138, Z, ⟨v137, xs134, Z, ((le123.trans le131).trans le139), ow142, h136⟩, (allCons (L 15 Z Z) (allCons (L 16 Z Z) (allCons (L 0 Z Z) (allCons (L 18 Z Z) (allCons (L 19 Z Z) (allCons (L 20 Z Z) allNil))))))⟩
     ·have h143 := ifF c116 h104
      refine WP.usreg Z ?_
      refine U.p Z Z (.inl Z) (S.eqlI Z (L 2 Z Z) K) ?_
      refine U.p Z Z (.inl Z) (S.assign Z (L 0 Z Z)) ?_
      refine U.done (nr Z) ?_
      refine WP.cond _ (L 0 Z Z) Z (fun c144 => ?_) (fun c144 => ?_)
      ·have h145 := ifT c144 h143
       refine WP.ureg Z ?_
       refine U.p Z Z (.inl Z) (S.move Z (L 11 Z Z)) ?_
       refine U.p (v := .pointer (some ⟨b1, 2, none⟩)) Z Z (.inl Z) (S.fieldAddr Z (L 10 Z Z) Tryd.underlying50 Z ti3 Z Z) ?_
       refine U.k Z Z (.inl Z) (S.load Z (L 0 Z Z) Tryd.underlying3 Z ((ow87.own (k := 0) Z).cell Z)) nd ?_
       obtain ⟨x146, hx147, h148⟩ := bindS h145
       refine O.call (V := V85) Z Z (.inl Z) Z en27 (aC (L 0 Z Z) aN) (wk_strconv_Itoa V85 _ (gl.up (((((le3.trans le11).trans le31).trans le35).trans le70).trans le86)) p0.a ow87 _ hx147) (fun _ _ _ _ => nd) (fun v149 V150 le151 hp152 => ?_)
       obtain ⟨rfl, ow153⟩ := hp152
       obtain ⟨x154, hx155, h156⟩ := bindS h148
       refine U.p Z Z (.inl Z) (S.addS hx155 Z K (L 0 Z Z)) ?_
       refine O.lit (R := RT.str) ow153 Z Z (.inl Z) Z Tryd.underlying83 ti9 Z Z Z (nr Z) Z (aC (L 0 Z Z) aN) (.cons _ _ x154 _ (by simp [topV]) Z .nil) (fun _ => nd) (fun v157 V158 le159 ow160 => ?_)
       obtain ⟨xs162, hx163, h164⟩ := bindS h156
       refine O.append (k := 3) ow160 Z Z Z (.inl Z) Z (L 5 Z Z) (L 0 Z Z) Tryd.underlying83 ti9 Z Z (nr Z) (ow160.src (k := 0) Z Tryd.underlying83) hx163 (fun _ _ => nd) (fun v165 V166 le167 ow168 => ?_)
       refine U.p Z Z (.inl Z) (S.assign Z (L 0 Z Z)) ?_
       refine U.done (nr Z) ?_
       refine blkN (blkN (sqN ?_))
       have ow170 := ow168.drop 0 Z
       exact ⟨_, V166, Z, ⟨v165, xs162, Z, ((le151.trans le159).trans le167), ow170, h164⟩, (allCons (L 17 Z Z) (allCons (L 18 Z Z) (allCons (L 0 Z Z) (allCons (L 20 Z Z) (allCons (L 21 Z Z) (allCons (L 22 Z Z) allNil))))))⟩
      ·have h171 := ifF c144 h143
       refine WP.usreg Z ?_
       refine U.p Z Z (.inl Z) (S.eqlI Z (L 4 Z Z) K) ?_
       refine U.p Z Z (.inl Z) (S.assign Z (L 0 Z Z)) ?_
       refine U.done (nr Z) ?_
       refine WP.cond _ (L 0 Z Z) Z (fun c172 => ?_) (fun c172 => ?_)
       ·have h173 := ifT c172 h171
        refine WP.ureg Z ?_
        refine U.p Z Z (.inl Z) (S.move Z (L 13 Z Z)) ?_
        refine U.p (v := .pointer (some ⟨b1, 3, none⟩)) Z Z (.inl Z) (S.fieldAddr Z (L 12 Z Z) Tryd.underlying50 Z ti3 Z Z) ?_
        refine U.k Z Z (.inl Z) (S.load Z (L 0 Z Z) Tryd.underlying3 Z ((ow87.own (k := 0) Z).cell Z)) nd ?_
        obtain ⟨x174, hx175, h176⟩ := bindS h173
        refine O.call (V := V85) Z Z (.inl Z) Z en27 (aC (L 0 Z Z) aN) (wk_strconv_Itoa V85 _ (gl.up (((((le3.trans le11).trans le31).trans le35).trans le70).trans le86)) p0.b ow87 _ hx175) (fun _ _ _ _ => nd) (fun v177 V178 le179 hp180 => ?_)
        obtain ⟨rfl, ow181⟩ := hp180
        obtain ⟨x182, hx183, h184⟩ := bindS h176
        refine U.p Z Z (.inl Z) (S.addS hx183 Z K (L 0 Z Z)) ?_
        refine O.lit (R := RT.str) ow181 Z Z (.inl Z) Z Tryd.underlying83 ti9 Z Z Z (nr Z) Z (aC (L 0 Z Z) aN) (.cons _ _ x182 _ (by simp [topV]) Z .nil) (fun _ => nd) (fun v185 V186 le187 ow188 => ?_)
        obtain ⟨xs190, hx191, h192⟩ := bindS h184
        refine O.append (k := 3) ow188 Z Z Z (.inl Z) Z (L 5 Z Z) (L 0 Z Z) Tryd.underlying83 ti9 Z Z (nr Z) (ow188.src (k := 0) Z Tryd.underlying83) hx191 (fun _ _ => nd) (fun v193 V194 le195 ow196 => ?_)
        refine U.p Z Z (.inl Z) (S.assign Z (L 0 Z Z)) ?_
        refine U.done (nr Z) ?_
        refine blkN (blkN (sqN ?_))
        have ow198 := ow196.drop 0 Z
        exact ⟨_, V194, Z, ⟨v193, xs190, Z, ((le179.trans le187).trans le195), ow198, h192⟩, (allCons (L 19 Z Z) (allCons (L 20 Z Z) (allCons (L 0 Z Z) (allCons (L 22 Z Z) (allCons (L 23 Z Z) (allCons (L 24 Z Z) allNil))))))⟩
       ·have h199 := ifF c172 h171
        refine WP.ureg Z ?_
        refine U.p Z Z (.inl Z) (S.move Z (L 13 Z Z)) ?_
        refine U.p (v := .pointer (some ⟨b1, 4, none⟩)) Z Z (.inl Z) (S.fieldAddr Z (L 12 Z Z) Tryd.underlying50 Z ti3 Z Z) ?_
        refine U.k Z Z (.inl Z) (S.load Z (L 0 Z Z) Tryd.underlying3 Z ((ow87.own (k := 0) Z).cell Z)) nd ?_
        obtain ⟨x200, hx201, h202⟩ := bindS h199
        refine O.call (V := V85) Z Z (.inl Z) Z en27 (aC (L 0 Z Z) aN) (wk_strconv_Itoa V85 _ (gl.up (((((le3.trans le11).trans le31).trans le35).trans le70).trans le86)) p0.imm ow87 _ hx201) (fun _ _ _ _ => nd) (fun v203 V204 le205 hp206 => ?_)
        obtain ⟨rfl, ow207⟩ := hp206
        refine O.lit (R := RT.str) ow207 Z Z (.inl Z) Z Tryd.underlying83 ti9 Z Z Z (nr Z) Z (aC (L 0 Z Z) aN) (.cons _ _ x200 _ (by simp [topV]) Z .nil) (fun _ => nd) (fun v208 V209 le210 ow211 => ?_)
        obtain ⟨xs213, hx214, h215⟩ := bindS h202
        refine O.append (k := 3) ow211 Z Z Z (.inl Z) Z (L 4 Z Z) (L 0 Z Z) Tryd.underlying83 ti9 Z Z (nr Z) (ow211.src (k := 0) Z Tryd.underlying83) hx214 (fun _ _ => nd) (fun v216 V217 le218 ow219 => ?_)
        refine U.p Z Z (.inl Z) (S.assign Z (L 0 Z Z)) ?_
        refine U.done (nr Z) ?_
        refine blkN (blkN (sqN ?_))
        have ow221 := ow219.drop 0 Z
        exact ⟨_, V217, Z, ⟨v216, xs213, Z, ((le205.trans le210).trans le218), ow221, h215⟩, (allCons (L 18 Z Z) (allCons (L 19 Z Z) (allCons (L 0 Z Z) (allCons (L 21 Z Z) (allCons (L 22 Z Z) (allCons (L 23 Z Z) allNil))))))⟩
   ·have h222 := ifF c93 h92
    refine WP.exit ?_
    refine sqE (sqE (blkE (sqN ?_)))
    have h223 := exitS h222 e90
    refine WP.usdreg Z Z Z ?_
    refine U.p (v := .pointer (some ⟨b29, 0, none⟩)) Z Z (.inl Z) (S.fieldAddr Z (L 2 Z Z) Tryd.underlying81 Z ti9 Z Z) ?_
    refine U.k Z Z (.inl Z) (S.load Z (L 0 Z Z) Tryd.underlying9 Z ((ow87.own (k := 1) Z).cell Z)) (fun _ => (okH.nil (fun r h => by cases h; exact (ow87.own (k := 1) Z).lt))) ?_
    obtain ⟨x224, hx225, h226⟩ := bindS h223
    refine U.p Z Z (.inl Z) (S.addS hx225 Z (L 0 Z Z) K) ?_
    refine U.p Z Z (.inl Z) (S.move Z (L 6 Z Z)) ?_
    have ow227 := ow87.pick 2 Z
    obtain ⟨x228, hx229, h230⟩ := bindS h226
    refine O.call (V := V85) Z Z (.inl Z) Z en44 (aC (L 0 Z Z) (aC K aN)) (wk_strings_Join V85 _ (gl.up (((((le3.trans le11).trans le31).trans le35).trans le70).trans le86)) xs75 str43 v74 ow227 _ hx229) (fun v231 V232 le233 hp234 => by obtain ⟨rfl, ow235⟩ := hp234; exact (fun _ => (okH.cons (Or.inr (((ow235.own (k := 2) Z).get.trans (ow227.own (k := 2) Z).get.symm))) (okH.nil (fun r h => nomatch h))))) (fun v231 V232 le233 hp234 => ?_)
    obtain ⟨rfl, ow235⟩ := hp234
    obtain ⟨x236, hx237, h238⟩ := bindS h230
    refine U.p Z Z (.inl Z) (S.addS hx237 Z (L 2 Z Z) (L 0 Z Z)) ?_
    obtain ⟨x239, hx240, h241⟩ := bindS h238
    refine O.call (V := V232) Z Z (.inl Z) Z en43 (aC (L 0 Z Z) aN) (wk_strings_TrimSpace V232 _ (gl.up ((((((le3.trans le11).trans le31).trans le35).trans le70).trans le86).trans le233)) x236 ow235 _ hx240) (fun v242 V243 le244 hp245 => by obtain ⟨rfl, ow246⟩ := hp245; exact (fun _ => (okH.cons Z (okH.cons (Or.inl Z) (okH.nil (fun r h => nomatch h)))))) (fun v242 V243 le244 hp245 => ?_)
    obtain ⟨rfl, ow246⟩ := hp245
    refine U.p Z Z (.inl Z) (S.assign Z (L 0 Z Z)) ?_
    refine U.done (nr Z) ?_
    refine WP.ret ?_
    refine fin.slot (.inr Z) Z (L 0 Z Z) ⟨V243, Z, (((((((le3.trans le11).trans le31).trans le35).trans le70).trans le86).trans le233).trans le244), ?_⟩
    have ow247 := ow246.drop 0 Z
    have ow248 := ow247.drop 0 Z
    have ow249 := ow248.drop 0 Z
    have ow250 := ow249.drop 0 Z
    have e251 := Option.some.inj h241
    subst e251
    exact ⟨rfl, ow250⟩
theorem wk_strings_Builder_String (V : Vw) (Rs : List At) (gl : Glb V) (p0 : ByteArray) (b1 : Nat) (ow : Ow V (.bd 59 5 b1 p0 :: Rs)) (r : ByteArray) (h : strings_Builder_String p0 = some r) : ∃ v V', Cl Tryd.prog NG 29 #[.pointer (some ⟨b1, 0, none⟩)] V.H v V'.H ∧ V.le V' ∧ (v = .string r ∧ Ow V' (Rs)) := by
 unfold strings_Builder_String at h
 exact bs_cl (fun wb p v l w hB h0 => bs_calls { Tryd.lays156 with } Tryd.Builder_Extra_156 hB h0) ow h
theorem wk_image_List (V : Vw) (Rs : List At) (gl : Glb V) (p0 : TImage) (v1 : Value) (v3 : Value) (v5 : Value) (f2 : Fz (RT.int .u32) V v1 p0.code) (f4 : Fz RT_TNote V v3 p0.notes) (f6 : Fz (RT.int .i64) V v5 p0.threads) (ow : Ow V (Rs)) (r : ByteArray) (h : image_List p0 = some r) : ∃ v V', Cl Tryd.prog NG 14 #[.agg #[v1, v3, v5]] V.H v V'.H ∧ V.le V' ∧ (v = .string r ∧ Ow V' (Rs)) := by
 refine Ct.of gl.lo Tryd.func14 Z (nr Z) ?_
 unfold image_List at h
 refine WP.usreg Z ?_
 refine O.box ow Z Z (.inl Z) Z (L 0 Z Z) (by simp [topV]) Z nd (fun b7 V8 le9 ow10 => ?_)
 refine U.p Z Z (.inl Z) (S.assign Z K) ?_
 refine U.done (nr Z) ?_
 refine WP.seq ?_
 refine WP.usreg Z ?_
 refine U.k Z Z (.inl Z) (S.loadB Z (L 1 Z Z) Tryd.underlying27 Z ti27 (ow10.own (k := 0) Z).get Z) nd ?_
 have f12 := f2.up le9
 have f13 := f4.up le9
 have f14 := f6.up le9
 obtain ⟨x15, hx16, h17⟩ := bindS h
 refine O.call (V := V8) Z Z (.inl Z) Z en13 (aC (L 0 Z Z) aN) (wk_image_Good V8 _ (gl.up le9) p0 v1 v3 v5 f12 f13 f14 ow10 _ hx16) (fun _ _ _ _ => nd) (fun v18 V19 le20 hp21 => ?_)
 obtain ⟨rfl, ow22⟩ := hp21
 refine U.p Z Z (.inl Z) (S.not Z (L 0 Z Z)) ?_
 refine U.done (nr Z) ?_
 refine WP.cond _ (L 0 Z Z) Z (fun c23 => ?_) (fun c23 => ?_)
 ·have h24 := ifT c23 h17
  have k25 : x15 = false := nT c23
  refine WP.usreg Z ?_
  refine U.p Z Z (.inl Z) (S.assign Z K) ?_
  refine U.done (nr Z) ?_
  refine WP.ret ?_
  refine sqR ?_
  refine fin.slot (.inr Z) Z (L 0 Z Z) ⟨V19, Z, (le9.trans le20), ?_⟩
  have ow26 := ow22.drop 0 Z
  have e27 := Option.some.inj h24
  subst e27
  exact ⟨rfl, ow26⟩
 ·have h28 := ifF c23 h17
  have k29 : x15 = true := nF c23
  refine WP.skip ?_
  refine sqN ?_
  refine WP.usreg Z ?_
  refine O.allocB (e := 5) ow22 Z Z (.inl Z) Z ti59 nd (fun b30 V31 le32 ow33 => ?_)
  refine U.done (nr Z) ?_
  refine WP.seq ?_
  refine WP.usreg Z ?_
  refine U.p (v := .pointer (some ⟨b7, 0, none⟩)) Z Z (.inl Z) (S.fieldAddr Z (L 5 Z Z) Tryd.underlying27 Z ti23 Z Z) ?_
  refine U.k Z Z (.inl Z) (S.load Z (L 0 Z Z) Tryd.underlying23 Z ((ow33.own (k := 1) Z).cell Z)) nd ?_
  refine U.p Z Z (.inl Z) (f12.1.len Z (L 0 Z Z) Tryd.underlying23) ?_
  refine U.p Z Z (.inl Z) (S.move Z K) ?_
  refine U.done (nr Z) ?_
  refine WP.blk ?_
  have ow37 := ow33.pick 0 Z
  have ow38 := ow37.pick 1 Z
  unfold image_List_l1 at h28
  obtain ⟨n40, hn39⟩ := loopO_some.1 h28
  refine WP.loopI2 (fun n l V' => ∃ (xs35 : ByteArray) (x36 : Int), l = [(1, .pointer (some ⟨b7, 0, none⟩)), (3, .pointer (some ⟨b30, 0, none⟩)), (15, v1), (16, .int .i64 (p0.code.length : Int)), (17, .int .i64 x36)] ∧ V31.le V' ∧ Ow V' (.pt b7 (.cells 0 [v1, v3, v5]) :: .bd 59 5 b30 xs35 :: Rs) ∧ itO (fun s => image_List_l1b p0 s.1 s.2) n (xs35, x36) = some r) n40 _ ⟨ByteArray.empty, 0, Z, .refl _, ow38, hn39⟩ (allCons (L 9 Z Z) (allCons (L 4 Z Z) (allCons (L 2 Z Z) (allCons (L 1 Z Z) (allCons (L 0 Z Z) allNil))))) ?_
  rintro _ _ V41 ⟨xs35, x36, rfl, le42, ow43, h47⟩
  obtain ⟨m44, q45, rfl, h48, e46⟩ := itS h47
  replace h48 : image_List_l1b p0 xs35 x36 = some q45 := h48
  unfold image_List_l1b at h48
  refine WP.usreg Z ?_
  refine U.p Z Z (.inl Z) (S.lss Z (L 4 Z Z) (L 3 Z Z)) ?_
  refine U.done (nr Z) ?_
  refine WP.seq ?_
  refine WP.cond _ (L 0 Z Z) Z (fun c49 => ?_) (fun c49 => ?_)
  ·have h50 := ifT c49 h48
   refine WP.skip ?_
   refine sqN ?_
   refine WP.seq ?_
   refine WP.blk ?_
   refine WP.usreg Z ?_
   refine U.p Z Z (.inl Z) (S.move Z (L 5 Z Z)) ?_
   obtain ⟨x51, hx52, h53⟩ := bindS h50
   obtain ⟨b54, o55, c56, cs57, hv58, hf59, hr60, hc61⟩ := f12.at hx52
   obtain rfl : cs57 = [.int .u32 x51] := hr60
   refine U.p Z Z (.inl Z) (S.index Z ((L 4 Z Z).trans hv58) (L 6 Z Z) Tryd.underlying23 ti39 (ix_ge hx52) (ix_lt hx52)) ?_
   refine U.k Z Z (.inl Z) (S.load Z (L 0 Z Z) Tryd.underlying39 Z (((le20.trans le32).trans le42).cell hf59 (hc61 0 _ Z))) nd ?_
   refine U.p Z Z (.inl Z) (S.assign Z (L 2 Z Z)) ?_
   refine U.p Z Z (.inl Z) (S.assign Z (L 1 Z Z)) ?_
   refine U.done (nr Z) ?_
   refine WP.seq ?_
   refine WP.usreg Z ?_
   refine U.p (v := .pointer (some ⟨b7, 2, none⟩)) Z Z (.inl Z) (S.fieldAddr Z (L 6 Z Z) Tryd.underlying27 Z ti25 Z Z) ?_
   refine U.k Z Z (.inl Z) (S.load Z (L 0 Z Z) Tryd.underlying25 Z ((ow43.own (k := 0) Z).cell Z)) nd ?_
   refine U.p Z Z (.inl Z) (f14.1.len Z (L 0 Z Z) Tryd.underlying25) ?_
   refine U.p Z Z (.inl Z) (S.move Z K) ?_
   refine U.done (nr Z) ?_
   refine WP.blk ?_
   unfold image_List_l2 at h53
   obtain ⟨n65, hn64⟩ := loopO_some.1 h53
   refine WP.loopI2 (fun n l V' => ∃ (xs62 : ByteArray) (x63 : Int), l = [(1, .pointer (some ⟨b7, 0, none⟩)), (3, .pointer (some ⟨b30, 0, none⟩)), (4, .int .i64 x36), (5, .int .u32 x51), (15, v1), (16, .int .i64 (p0.code.length : Int)), (17, .int .i64 x36), (23, v5), (24, .int .i64 (p0.threads.length : Int)), (25, .int .i64 x63)] ∧ V41.le V' ∧ Ow V' (.pt b7 (.cells 0 [v1, v3, v5]) :: .bd 59 5 b30 xs62 :: Rs) ∧ itO (fun s => image_List_l2b p0 x36 x51 s.1 s.2) n (xs62, x63) = some q45) n65 _ ⟨xs35, 0, Z, .refl _, ow43, hn64⟩ (allCons (L 10 Z Z) (allCons (L 11 Z Z) (allCons (L 5 Z Z) (allCons (L 4 Z Z) (allCons (L 12 Z Z) (allCons (L 13 Z Z) (allCons (L 14 Z Z) (allCons (L 2 Z Z) (allCons (L 1 Z Z) (allCons (L 0 Z Z) allNil)))))))))) ?_
   rintro _ _ V66 ⟨xs62, x63, rfl, le67, ow68, h72⟩
   obtain ⟨m69, q70, rfl, h73, e71⟩ := itS h72
   replace h73 : image_List_l2b p0 x36 x51 xs62 x63 = some q70 := h73
   unfold image_List_l2b at h73
   refine WP.usreg Z ?_
   refine U.p Z Z (.inl Z) (S.lss Z (L 9 Z Z) (L 8 Z Z)) ?_
   refine U.done (nr Z) ?_
   refine WP.seq ?_
   refine WP.cond _ (L 0 Z Z) Z (fun c74 => ?_) (fun c74 => ?_)
   ·have h75 := ifT c74 h73
    refine WP.skip ?_
    refine sqN ?_
    refine WP.seqI (fun l V' => ∃ (xs76 : ByteArray), l = [(1, .pointer (some ⟨b7, 0, none⟩)), (3, .pointer (some ⟨b30, 0, none⟩)), (4, .int .i64 x36), (5, .int .u32 x51), (15, v1), (16, .int .i64 (p0.code.length : Int)), (17, .int .i64 x36), (23, v5), (24, .int .i64 (p0.threads.length : Int)), (25, .int .i64 x63)] ∧ V66.le V' ∧ Ow V' (.pt b7 (.cells 0 [v1, v3, v5]) :: .bd 59 5 b30 xs76 :: Rs) ∧ image_List_k1 x63 xs76 = some q70) ?_ ?_
    ·rintro _ V77 ⟨xs76, rfl, le78, ow79, h80⟩
     unfold image_List_k1 at h80
     refine WP.ureg Z ?_
     refine U.p Z Z (.inl Z) (S.add Z (L 9 Z Z) K) ?_
     refine U.p Z Z (.inl Z) (S.move Z (L 0 Z Z)) ?_
     refine U.done (nr Z) ?_
     refine sqN ?_
     exact ⟨_, V77, Z, ⟨m69, Nat.lt_succ_self _, xs76, w64 (x63 + 1), Z, (le67.trans le78), ow79, backS h80 e71⟩, (allCons (L 2 Z Z) (allCons (L 3 Z Z) (allCons (L 4 Z Z) (allCons (L 5 Z Z) (allCons (L 6 Z Z) (allCons (L 7 Z Z) (allCons (L 8 Z Z) (allCons (L 9 Z Z) (allCons (L 10 Z Z) (allCons (L 0 Z Z) allNil))))))))))⟩
    ·skip
     refine WP.blk ?_
     refine WP.usreg Z ?_
     refine U.p Z Z (.inl Z) (S.move Z (L 10 Z Z)) ?_
     obtain ⟨x81, hx82, h83⟩ := bindS h75
     obtain ⟨b84, o85, c86, cs87, hv88, hf89, hr90, hc91⟩ := f14.at hx82
     obtain rfl : cs87 = [.int .i64 x81] := hr90
     refine U.p Z Z (.inl Z) (S.index Z ((L 9 Z Z).trans hv88) (L 11 Z Z) Tryd.underlying25 ti3 (ix_ge hx82) (ix_lt hx82)) ?_
     refine U.k Z Z (.inl Z) (S.load Z (L 0 Z Z) Tryd.underlying3 Z ((((le20.trans le32).trans le42).trans le67).cell hf89 (hc91 0 _ Z))) nd ?_
     refine U.p Z Z (.inl Z) (S.assign Z (L 2 Z Z)) ?_
     refine U.p Z Z (.inl Z) (S.assign Z (L 1 Z Z)) ?_
     refine U.done (nr Z) ?_
     refine WP.usreg Z ?_
     refine U.p Z Z (.inl Z) (S.move Z (L 0 Z Z)) ?_
     refine U.p Z Z (.inl Z) (S.move Z (L 9 Z Z)) ?_
     refine U.p Z Z (.inl Z) (S.eqlI Z (L 1 Z Z) (L 0 Z Z)) ?_
     refine U.done (nr Z) ?_
     refine WP.cond _ (L 0 Z Z) Z (fun c92 => ?_) (fun c92 => ?_)
     ·have h93 := ifT c92 h83
      refine WP.ureg Z ?_
      refine U.p Z Z (.inl Z) (S.move Z (L 4 Z Z)) ?_
      obtain ⟨x94, hx95, h96⟩ := bindS h93
      refine O.call (V := V66) Z Z (.inl Z) Z en27 (aC (L 0 Z Z) aN) (wk_strconv_Itoa V66 _ (gl.up ((((le9.trans le20).trans le32).trans le42).trans le67)) x63 ow68 _ hx95) (fun _ _ _ _ => nd) (fun v97 V98 le99 hp100 => ?_)
      obtain ⟨rfl, ow101⟩ := hp100
      obtain ⟨x102, hx103, h104⟩ := bindS h96
      refine U.p Z Z (.inl Z) (S.addS hx103 Z K (L 0 Z Z)) ?_
      obtain ⟨x105, hx106, h107⟩ := bindS h104
      refine U.p Z Z (.inl Z) (S.addS hx106 Z (L 0 Z Z) K) ?_
      have ow108 := ow101.pick 1 Z
      obtain ⟨x109, hx110, h111⟩ := bindS h107
      refine O.call (V := V98) Z Z (.inl Z) Z en26 (aC (L 14 Z Z) (aC (L 0 Z Z) aN)) (wk_strings_Builder_WriteString V98 _ (gl.up (((((le9.trans le20).trans le32).trans le42).trans le67).trans le99)) xs62 x105 b30 ow108 _ hx110) (fun _ _ _ _ => nd) (fun v112 V113 le114 hp115 => ?_)
      obtain ⟨v117, v118, rfl, ow116⟩ := hp115
      refine U.done (nr Z) ?_
      refine blkN (sqN ?_)
      have ow119 := ow116.pick 0 Z
      have ow120 := ow119.pick 1 Z
      exact ⟨_, V113, Z, ⟨x109, Z, (le99.trans le114), ow120, h111⟩, (allCons (L 14 Z Z) (allCons (L 15 Z Z) (allCons (L 16 Z Z) (allCons (L 17 Z Z) (allCons (L 18 Z Z) (allCons (L 19 Z Z) (allCons (L 20 Z Z) (allCons (L 21 Z Z) (allCons (L 22 Z Z) (allCons (L 23 Z Z) allNil))))))))))⟩
     ·have h121 := ifF c92 h83
      refine WP.skip ?_
      refine blkN (sqN ?_)
      exact ⟨_, V66, Z, ⟨xs62, Z, (.refl _), ow68, h121⟩, (allCons (L 9 Z Z) (allCons (L 10 Z Z) (allCons (L 11 Z Z) (allCons (L 12 Z Z) (allCons (L 13 Z Z) (allCons (L 14 Z Z) (allCons (L 15 Z Z) (allCons (L 16 Z Z) (allCons (L 17 Z Z) (allCons (L 18 Z Z) allNil))))))))))⟩
   ·have h122 := ifF c74 h73
    refine WP.exit ?_
    refine sqE (sqE (blkE (sqN ?_)))
    have h123 := exitS h122 e71
    refine WP.usreg Z ?_
    refine U.p Z Z (.inl Z) (S.move Z (L 4 Z Z)) ?_
    obtain ⟨x124, hx125, h126⟩ := bindS h123
    refine O.call (V := V66) Z Z (.inl Z) Z en23 (aC (L 0 Z Z) aN) (wk_isa_Decode V66 _ (gl.up ((((le9.trans le20).trans le32).trans le42).trans le67)) x51 ow68 _ hx125) (fun _ _ _ _ => nd) (fun v127 V128 le129 hp130 => ?_)
    obtain ⟨rfl, ow131⟩ := hp130
    refine U.p Z Z (.inl Z) (S.move Z (L 0 Z Z)) ?_
    refine U.p Z Z (.inl Z) (S.extract Z (L 0 Z Z) Z (nr Z)) ?_
    refine U.p Z Z (.inl Z) (S.extract Z (L 1 Z Z) Z (nr Z)) ?_
    refine O.alloc ow131 Z Z (.inl Z) Z ti50 Z Z nd (fun b132 V133 le134 ow135 => ?_)
    refine O.store (k := 0) (cs := [.int .i64 x124.1.op, .int .i64 x124.1.d, .int .i64 x124.1.a, .int .i64 x124.1.b, .int .i64 x124.1.imm]) (c' := [.int .i64 x124.1.op, .int .i64 x124.1.d, .int .i64 x124.1.a, .int .i64 x124.1.b, .int .i64 x124.1.imm]) ow135 Z Z Z (.inl Z) Z (L 0 Z Z) (L 2 Z Z) ti50 (by simp [topV]) Z Z (nr Z) Z Z nd (fun V137 le138 ow139 => ?_)
    refine U.p Z Z (.inl Z) (S.assign Z (L 1 Z Z)) ?_
    refine U.done (nr Z) ?_
    refine WP.usdreg Z Z Z ?_
    refine U.p Z Z (.inl Z) (S.move Z (L 10 Z Z)) ?_
    obtain ⟨x140, hx141, h142⟩ := bindS h126
    refine O.call (V := V137) Z Z (.inl Z) Z en27 (aC (L 0 Z Z) aN) (wk_strconv_Itoa V137 _ (gl.up (((((((le9.trans le20).trans le32).trans le42).trans le67).trans le129).trans le134).trans le138)) x36 ow139 _ hx141) (fun v143 V144 le145 hp146 => by obtain ⟨rfl, ow147⟩ := hp146; exact (fun _ => (okH.nil (fun r h => nomatch h)))) (fun v143 V144 le145 hp146 => ?_)
    obtain ⟨rfl, ow147⟩ := hp146
    obtain ⟨x148, hx149, h150⟩ := bindS h142
    refine U.p Z Z (.inl Z) (S.addS hx149 Z (L 0 Z Z) K) ?_
    refine U.k Z Z (.inl Z) (S.loadB Z (L 4 Z Z) Tryd.underlying50 Z ti50 (ow147.own (k := 0) Z).get Z) (fun _ => (okH.cons (Or.inr (Or.inl ((ow147.own (k := 0) Z).get.trans (ow139.own (k := 0) Z).get.symm))) (okH.nil (fun r h => by cases h; exact (ow147.own (k := 0) Z).lt)))) ?_
    obtain ⟨x151, hx152, h153⟩ := bindS h150
    refine O.call (V := V144) Z Z (.inl Z) Z en28 (aC (L 0 Z Z) aN) (wk_isa_Text V144 _ (gl.up ((((((((le9.trans le20).trans le32).trans le42).trans le67).trans le129).trans le134).trans le138).trans le145)) x124.1 ow147 _ hx152) (fun v154 V155 le156 hp157 => by obtain ⟨rfl, ow158⟩ := hp157; exact (fun _ => (okH.cons (Or.inl Z) (okH.cons Z (okH.nil (fun r h => nomatch h)))))) (fun v154 V155 le156 hp157 => ?_)
    obtain ⟨rfl, ow158⟩ := hp157
    obtain ⟨x159, hx160, h161⟩ := bindS h153
    refine U.p Z Z (.inl Z) (S.addS hx160 Z (L 2 Z Z) (L 0 Z Z)) ?_
    have ow162 := ow158.pick 2 Z
    obtain ⟨x163, hx164, h165⟩ := bindS h161
    refine O.call (V := V155) Z Z (.inl Z) Z en26 (aC (L 15 Z Z) (aC (L 0 Z Z) aN)) (wk_strings_Builder_WriteString V155 _ (gl.up (((((((((le9.trans le20).trans le32).trans le42).trans le67).trans le129).trans le134).trans le138).trans le145).trans le156)) xs62 x159 b30 ow162 _ hx164) (fun v166 V167 le168 hp169 => by obtain ⟨v171, v172, rfl, ow170⟩ := hp169; exact (fun _ => (okH.cons Z (okH.cons (Or.inl Z) (okH.cons Z (okH.nil (fun r h => nomatch h))))))) (fun v166 V167 le168 hp169 => ?_)
    obtain ⟨v171, v172, rfl, ow170⟩ := hp169
    refine U.done (nr Z) ?_
    refine WP.seqI (fun l V' => ∃ (xs173 : ByteArray), l = [(1, .pointer (some ⟨b7, 0, none⟩)), (3, .pointer (some ⟨b30, 0, none⟩)), (15, v1), (16, .int .i64 (p0.code.length : Int)), (17, .int .i64 x36)] ∧ V167.le V' ∧ Ow V' (.pt b7 (.cells 0 [v1, v3, v5]) :: .bd 59 5 b30 xs173 :: Rs) ∧ image_List_k2 x36 xs173 = some q45) ?_ ?_
    ·rintro _ V174 ⟨xs173, rfl, le175, ow176, h177⟩
     unfold image_List_k2 at h177
     refine WP.ureg Z ?_
     have ow178 := ow176.pick 1 Z
     obtain ⟨x179, hx180, h181⟩ := bindS h177
     refine O.call (V := V174) Z Z (.inl Z) Z en26 (aC (L 1 Z Z) (aC K aN)) (wk_strings_Builder_WriteString V174 _ (gl.up (((((((((((le9.trans le20).trans le32).trans le42).trans le67).trans le129).trans le134).trans le138).trans le145).trans le156).trans le168).trans le175)) xs173 str51 b30 ow178 _ hx180) (fun _ _ _ _ => nd) (fun v182 V183 le184 hp185 => ?_)
     obtain ⟨v187, v188, rfl, ow186⟩ := hp185
     refine U.done (nr Z) ?_
     refine blkN (sqN ?_)
     refine WP.ureg Z ?_
     refine U.p Z Z (.inl Z) (S.add Z (L 5 Z Z) K) ?_
     refine U.p Z Z (.inl Z) (S.move Z (L 0 Z Z)) ?_
     refine U.done (nr Z) ?_
     refine sqN ?_
     have ow189 := ow186.pick 0 Z
     have ow190 := ow189.pick 1 Z
     exact ⟨_, V183, Z, ⟨m44, Nat.lt_succ_self _, x179, w64 (x36 + 1), Z, (((((((((le42.trans le67).trans le129).trans le134).trans le138).trans le145).trans le156).trans le168).trans le175).trans le184), ow190, backS h181 e46⟩, (allCons (L 3 Z Z) (allCons (L 4 Z Z) (allCons (L 5 Z Z) (allCons (L 6 Z Z) (allCons (L 0 Z Z) allNil)))))⟩
    ·skip
     refine WP.usreg Z ?_
     refine U.p (v := .pointer (some ⟨b7, 1, none⟩)) Z Z (.inl Z) (S.fieldAddr Z (L 15 Z Z) Tryd.underlying27 Z ti24 Z Z) ?_
     refine U.k Z Z (.inl Z) (S.load Z (L 0 Z Z) Tryd.underlying24 Z ((ow170.own (k := 2) Z).cell Z)) nd ?_
     refine U.p Z Z (.inl Z) (S.move Z (L 19 Z Z)) ?_
     obtain ⟨x191, hx192, h193⟩ := bindS h165
     obtain ⟨b194, o195, c196, cs197, hv198, hf199, hr200, hc201⟩ := f13.at hx192
     obtain rfl : cs197 = [.int .i64 x191.role, .int .i64 x191.what, .bool x191.volatile, .bool x191.final] := hr200
     refine U.p Z Z (.inl Z) (S.index Z ((L 1 Z Z).trans hv198) (L 0 Z Z) Tryd.underlying24 ti42 (ix_ge hx192) (ix_lt hx192)) ?_
     refine U.p (v := .pointer (some ⟨b194, o195 + Int.toNat x36 * 4, none⟩)) Z Z (.inl Z) (S.fieldAddr Z (L 0 Z Z) Tryd.underlying42 Z ti3 Z Z) ?_
     refine U.k Z Z (.inl Z) (S.load Z (L 0 Z Z) Tryd.underlying3 Z ((((((((((le20.trans le32).trans le42).trans le67).trans le129).trans le134).trans le138).trans le145).trans le156).trans le168).cell hf199 (hc201 0 _ Z))) nd ?_
     refine U.p Z Z (.inl Z) (S.assign Z (L 0 Z Z)) ?_
     refine U.done (nr Z) ?_
     refine WP.usreg Z ?_
     refine U.p Z Z (.inl Z) (S.move Z (L 0 Z Z)) ?_
     refine U.p Z Z (.inl Z) (S.neqI Z (L 0 Z Z) K) ?_
     refine U.done (nr Z) ?_
     refine WP.cond _ (L 0 Z Z) Z (fun c202 => ?_) (fun c202 => ?_)
     ·have h203 := ifT c202 h193
      refine WP.ureg Z ?_
      refine U.p Z Z (.inl Z) (S.move Z (L 2 Z Z)) ?_
      obtain ⟨x204, hx205, h206⟩ := bindS h203
      obtain ⟨_, _, _, cs207, hv208, hf209, hr210, hc211⟩ := (gl.up ((((((((((le9.trans le20).trans le32).trans le42).trans le67).trans le129).trans le134).trans le138).trans le145).trans le156).trans le168)).g0.at hx205
      cases hv208
      obtain rfl : cs207 = [.string x204] := hr210
      refine U.p Z Z (.inl Z) (S.indexA Z Gl (L 0 Z Z) Tryd.underlying66 ti9 (ix_ge hx205) (by have q1 := ix_lt hx205; have q2 := gl0_len; omega)) ?_
      refine U.k Z Z (.inl Z) (S.load Z (L 0 Z Z) Tryd.underlying9 Z (hc211 0 _ Z)) nd ?_
      obtain ⟨x212, hx213, h214⟩ := bindS h206
      refine U.p Z Z (.inl Z) (S.addS hx213 Z K (L 0 Z Z)) ?_
      obtain ⟨x215, hx216, h217⟩ := bindS h214
      refine O.call (V := V167) Z Z (.inl Z) Z en26 (aC (L 29 Z Z) (aC (L 0 Z Z) aN)) (wk_strings_Builder_WriteString V167 _ (gl.up ((((((((((le9.trans le20).trans le32).trans le42).trans le67).trans le129).trans le134).trans le138).trans le145).trans le156).trans le168)) x163 x212 b30 ow170 _ hx216) (fun _ _ _ _ => nd) (fun v218 V219 le220 hp221 => ?_)
      obtain ⟨v223, v224, rfl, ow222⟩ := hp221
      refine U.done (nr Z) ?_
      refine sqN ?_
      have ow225 := ow222.drop 1 Z
      have ow226 := ow225.pick 0 Z
      have ow227 := ow226.pick 1 Z
      exact ⟨_, V219, Z, ⟨x215, Z, le220, ow227, h217⟩, (allCons (L 29 Z Z) (allCons (L 30 Z Z) (allCons (L 33 Z Z) (allCons (L 34 Z Z) (allCons (L 35 Z Z) allNil)))))⟩
     ·have h228 := ifF c202 h193
      refine WP.skip ?_
      refine sqN ?_
      have ow229 := ow170.drop 1 Z
      have ow230 := ow229.pick 0 Z
      have ow231 := ow230.pick 1 Z
      exact ⟨_, V167, Z, ⟨x163, Z, (.refl _), ow231, h228⟩, (allCons (L 24 Z Z) (allCons (L 25 Z Z) (allCons (L 28 Z Z) (allCons (L 29 Z Z) (allCons (L 30 Z Z) allNil)))))⟩
  ·have h232 := ifF c49 h48
   refine WP.exit ?_
   refine sqE (sqE (blkE (sqN ?_)))
   have h233 := exitS h232 e46
   refine WP.usreg Z ?_
   have ow234 := ow43.pick 1 Z
   obtain ⟨x235, hx236, h237⟩ := bindS h233
   refine O.call (V := V41) Z Z (.inl Z) Z en29 (aC (L 2 Z Z) aN) (wk_strings_Builder_String V41 _ (gl.up (((le9.trans le20).trans le32).trans le42)) xs35 b30 ow234 _ hx236) (fun _ _ _ _ => nd) (fun v238 V239 le240 hp241 => ?_)
   obtain ⟨rfl, ow242⟩ := hp241
   refine U.p Z Z (.inl Z) (S.assign Z (L 0 Z Z)) ?_
   refine U.done (nr Z) ?_
   refine WP.ret ?_
   refine fin.slot (.inr Z) Z (L 0 Z Z) ⟨V239, Z, ((((le9.trans le20).trans le32).trans le42).trans le240), ?_⟩
   have ow243 := ow242.drop 0 Z
   have e244 := Option.some.inj h237
   subst e244
   exact ⟨rfl, ow243⟩
theorem wk_ref02_Text (V : Vw) (Rs : List At) (gl : Glb V) (p0 : TInst) (ow : Ow V (Rs)) (r : ByteArray) (h : ref02_Text p0 = some r) : ∃ v V', Cl Tryd.prog NG 30 #[.agg #[.int .i64 p0.op, .int .i64 p0.d, .int .i64 p0.a, .int .i64 p0.b, .int .i64 p0.imm]] V.H v V'.H ∧ V.le V' ∧ (v = .string r ∧ Ow V' (Rs)) := by
 refine Ct.of gl.lo Tryd.func30 Z (nr Z) ?_
 unfold ref02_Text at h
 refine WP.usreg Z ?_
 refine O.box ow Z Z (.inl Z) Z (L 0 Z Z) (by simp [topV]) Z nd (fun b1 V2 le3 ow4 => ?_)
 refine U.p Z Z (.inl Z) (S.assign Z K) ?_
 refine U.done (nr Z) ?_
 refine WP.seq ?_
 refine WP.usreg Z ?_
 refine U.k Z Z (.inl Z) (S.loadB Z (L 1 Z Z) Tryd.underlying50 Z ti50 (ow4.own (k := 0) Z).get Z) nd ?_
 obtain ⟨x6, hx7, h8⟩ := bindS h
 refine O.call (V := V2) Z Z (.inl Z) Z en35 (aC (L 0 Z Z) aN) (wk_ref02_Good V2 _ (gl.up le3) p0 ow4 _ hx7) (fun _ _ _ _ => nd) (fun v9 V10 le11 hp12 => ?_)
 obtain ⟨rfl, ow13⟩ := hp12
 refine U.p Z Z (.inl Z) (S.not Z (L 0 Z Z)) ?_
 refine U.done (nr Z) ?_
 refine WP.cond _ (L 0 Z Z) Z (fun c14 => ?_) (fun c14 => ?_)
 ·have h15 := ifT c14 h8
  have k16 : x6 = false := nT c14
  refine WP.usreg Z ?_
  refine U.p Z Z (.inl Z) (S.assign Z K) ?_
  refine U.done (nr Z) ?_
  refine WP.ret ?_
  refine sqR ?_
  refine fin.slot (.inr Z) Z (L 0 Z Z) ⟨V10, Z, (le3.trans le11), ?_⟩
  have ow17 := ow13.drop 0 Z
  have e18 := Option.some.inj h15
  subst e18
  exact ⟨rfl, ow17⟩
 ·have h19 := ifF c14 h8
  have k20 : x6 = true := nF c14
  refine WP.skip ?_
  refine sqN ?_
  refine WP.usreg Z ?_
  refine U.p (v := .pointer (some ⟨b1, 0, none⟩)) Z Z (.inl Z) (S.fieldAddr Z (L 4 Z Z) Tryd.underlying50 Z ti3 Z Z) ?_
  refine U.k Z Z (.inl Z) (S.load Z (L 0 Z Z) Tryd.underlying3 Z ((ow13.own (k := 0) Z).cell Z)) nd ?_
  obtain ⟨x21, hx22, h23⟩ := bindS h19
  refine O.call (V := V10) Z Z (.inl Z) Z en32 (aC (L 0 Z Z) aN) (wk_ref02_Of V10 _ (gl.up (le3.trans le11)) p0.op ow13 _ hx22) (fun _ _ _ _ => nd) (fun v24 V25 le26 hp27 => ?_)
  obtain ⟨rfl, ow28⟩ := hp27
  refine U.p Z Z (.inl Z) (S.move Z (L 0 Z Z)) ?_
  refine U.p Z Z (.inl Z) (S.extract Z (L 0 Z Z) Z (nr Z)) ?_
  refine U.p Z Z (.inl Z) (S.extract Z (L 1 Z Z) Z (nr Z)) ?_
  refine O.alloc ow28 Z Z (.inl Z) Z ti70 Z Z nd (fun b29 V30 le31 ow32 => ?_)
  refine O.store (k := 0) (cs := [.string x21.1.name, .bool x21.1.d, .bool x21.1.a, .bool x21.1.b, .int .i64 x21.1.imm, .int .u32 x21.1.word]) (c' := [.string x21.1.name, .bool x21.1.d, .bool x21.1.a, .bool x21.1.b, .int .i64 x21.1.imm, .int .u32 x21.1.word]) ow32 Z Z Z (.inl Z) Z (L 0 Z Z) (L 2 Z Z) ti70 (by simp [topV]) Z Z (nr Z) Z Z nd (fun V34 le35 ow36 => ?_)
  refine U.p Z Z (.inl Z) (S.assign Z (L 1 Z Z)) ?_
  refine U.done (nr Z) ?_
  refine WP.seq ?_
  refine WP.usreg Z ?_
  refine U.p (v := .pointer (some ⟨b1, 0, none⟩)) Z Z (.inl Z) (S.fieldAddr Z (L 12 Z Z) Tryd.underlying50 Z ti3 Z Z) ?_
  refine U.k Z Z (.inl Z) (S.load Z (L 0 Z Z) Tryd.underlying3 Z ((ow36.own (k := 1) Z).cell Z)) nd ?_
  refine U.p Z Z (.inl Z) (S.eqlI Z (L 0 Z Z) K) ?_
  refine U.done (nr Z) ?_
  refine WP.cond _ (L 0 Z Z) Z (fun c37 => ?_) (fun c37 => ?_)
  ·have h38 := ifT c37 h23
   refine WP.usreg Z ?_
   refine U.p (v := .agg (([.string str52, .string str53, .string str54, .string str55, .string str56, .string str57] : List Value)).toArray) Z Z (.inl Z) (S.buildA (vs := [.string str52, .string str53, .string str54, .string str55, .string str56, .string str57]) Z ti87 Z Tryd.underlying87 ti9 (aC K (aC K (aC K (aC K (aC K (aC K aN)))))) (allC (by simp [topV]) (allC (by simp [topV]) (allC (by simp [topV]) (allC (by simp [topV]) (allC (by simp [topV]) (allC (by simp [topV]) allN)))))) (fill1 Z Z (nr Z) (fill1 Z Z (nr Z) (fill1 Z Z (nr Z) (fill1 Z Z (nr Z) (fill1 Z Z (nr Z) (fill1 Z Z (nr Z) Z))))))) ?_
   refine U.p (v := .pointer (some ⟨b1, 2, none⟩)) Z Z (.inl Z) (S.fieldAddr Z (L 16 Z Z) Tryd.underlying50 Z ti3 Z Z) ?_
   refine U.k Z Z (.inl Z) (S.load Z (L 0 Z Z) Tryd.underlying3 Z ((ow36.own (k := 1) Z).cell Z)) nd ?_
   refine U.p (v := .pointer (some ⟨b1, 1, none⟩)) Z Z (.inl Z) (S.fieldAddr Z (L 18 Z Z) Tryd.underlying50 Z ti3 Z Z) ?_
   refine U.k Z Z (.inl Z) (S.load Z (L 0 Z Z) Tryd.underlying3 Z ((ow36.own (k := 1) Z).cell Z)) nd ?_
   obtain ⟨x39, hx40, h41⟩ := bindS h38
   refine U.p Z Z (.inl Z) (S.quo hx40 Z (L 0 Z Z) K) ?_
   refine U.p Z Z (.inl Z) (S.mul Z K (L 0 Z Z)) ?_
   refine U.p Z Z (.inl Z) (S.add Z (L 4 Z Z) (L 0 Z Z)) ?_
   obtain ⟨x42, hx43, h44⟩ := bindS h41
   refine O.indexV (show Rows RT.str.rel V34 [.string str52, .string str53, .string str54, .string str55, .string str56, .string str57] ([str52, str53, str54, str55, str56, str57] : List ByteArray) from (.cons [_] _ _ _ Z (.cons [_] _ _ _ Z (.cons [_] _ _ _ Z (.cons [_] _ _ _ Z (.cons [_] _ _ _ Z (.cons [_] _ _ _ Z .nil))))))) Z Z Z (.inl Z) Z (L 7 Z Z) (L 0 Z Z) Tryd.underlying87 Z Tryd.underlying9 Z ti9 hx43 (fun u45 hr46 => ?_)
   obtain rfl : u45 = .string x42 := (List.cons.inj hr46).1
   refine U.p Z Z (.inl Z) (S.assign Z (L 0 Z Z)) ?_
   refine U.done (nr Z) ?_
   refine WP.usreg Z ?_
   refine U.p Z Z (.inl Z) (S.move Z (L 0 Z Z)) ?_
   obtain ⟨x48, hx49, h50⟩ := bindS h44
   refine U.p Z Z (.inl Z) (S.addS hx49 Z (L 0 Z Z) K) ?_
   refine U.p (v := .pointer (some ⟨b1, 4, none⟩)) Z Z (.inl Z) (S.fieldAddr Z (L 27 Z Z) Tryd.underlying50 Z ti3 Z Z) ?_
   refine U.k Z Z (.inl Z) (S.load Z (L 0 Z Z) Tryd.underlying3 Z ((ow36.own (k := 1) Z).cell Z)) nd ?_
   obtain ⟨x51, hx52, h53⟩ := bindS h50
   refine O.call (V := V34) Z Z (.inl Z) Z en27 (aC (L 0 Z Z) aN) (wk_strconv_Itoa V34 _ (gl.up ((((le3.trans le11).trans le26).trans le31).trans le35)) p0.imm ow36 _ hx52) (fun _ _ _ _ => nd) (fun v54 V55 le56 hp57 => ?_)
   obtain ⟨rfl, ow58⟩ := hp57
   obtain ⟨x59, hx60, h61⟩ := bindS h53
   refine U.p Z Z (.inl Z) (S.addS hx60 Z (L 3 Z Z) (L 0 Z Z)) ?_
   refine U.p Z Z (.inl Z) (S.assign Z (L 0 Z Z)) ?_
   refine U.done (nr Z) ?_
   refine WP.ret ?_
   refine sqR ?_
   refine fin.slot (.inr Z) Z (L 0 Z Z) ⟨V55, Z, (((((le3.trans le11).trans le26).trans le31).trans le35).trans le56), ?_⟩
   have ow62 := ow58.drop 0 Z
   have ow63 := ow62.drop 0 Z
   have e64 := Option.some.inj h61
   subst e64
   exact ⟨rfl, ow63⟩
  ·have h65 := ifF c37 h23
   refine WP.skip ?_
   refine sqN ?_
   refine WP.usreg Z ?_
   refine U.p Z Z (.inl Z) (S.assign Z K) ?_
   refine U.done (nr Z) ?_
   refine WP.seq ?_
   refine WP.usreg Z ?_
   refine U.p (v := .pointer (some ⟨b1, 1, none⟩)) Z Z (.inl Z) (S.fieldAddr Z (L 16 Z Z) Tryd.underlying50 Z ti3 Z Z) ?_
   refine U.k Z Z (.inl Z) (S.load Z (L 0 Z Z) Tryd.underlying3 Z ((ow36.own (k := 1) Z).cell Z)) nd ?_
   refine U.p (v := .pointer (some ⟨b1, 2, none⟩)) Z Z (.inl Z) (S.fieldAddr Z (L 18 Z Z) Tryd.underlying50 Z ti3 Z Z) ?_
   refine U.k Z Z (.inl Z) (S.load Z (L 0 Z Z) Tryd.underlying3 Z ((ow36.own (k := 1) Z).cell Z)) nd ?_
   refine U.p (v := .pointer (some ⟨b1, 3, none⟩)) Z Z (.inl Z) (S.fieldAddr Z (L 20 Z Z) Tryd.underlying50 Z ti3 Z Z) ?_
   refine U.k Z Z (.inl Z) (S.load Z (L 0 Z Z) Tryd.underlying3 Z ((ow36.own (k := 1) Z).cell Z)) nd ?_
   refine U.p (v := .agg (([.int .i64 p0.d, .int .i64 p0.a, .int .i64 p0.b] : List Value)).toArray) Z Z (.inl Z) (S.buildA (vs := [.int .i64 p0.d, .int .i64 p0.a, .int .i64 p0.b]) Z ti88 Z Tryd.underlying88 ti3 (aC (L 4 Z Z) (aC (L 2 Z Z) (aC (L 0 Z Z) aN))) (allC (by simp [topV]) (allC (by simp [topV]) (allC (by simp [topV]) allN))) (fill1 Z Z (nr Z) (fill1 Z Z (nr Z) (fill1 Z Z (nr Z) Z)))) ?_
   refine U.p Z Z (.inl Z) (S.move Z K) ?_
   refine U.done (nr Z) ?_
   refine WP.blk ?_
   have ow68 := ow36.pick 0 Z
   have ow69 := ow68.pick 1 Z
   unfold ref02_Text_l1 at h65
   obtain ⟨n71, hn70⟩ := loopO_some.1 h65
   refine WP.loopI2 (fun n l V' => ∃ (x66 : ByteArray) (x67 : Int), l = [(1, .pointer (some ⟨b1, 0, none⟩)), (3, .pointer (some ⟨b29, 0, none⟩)), (6, .string x66), (42, .agg (([.int .i64 p0.d, .int .i64 p0.a, .int .i64 p0.b] : List Value)).toArray), (43, .int .i64 x67)] ∧ V34.le V' ∧ Ow V' (.pt b1 (.cells 0 [.int .i64 p0.op, .int .i64 p0.d, .int .i64 p0.a, .int .i64 p0.b, .int .i64 p0.imm]) :: .pt b29 (.cells 6 [.string x21.1.name, .bool x21.1.d, .bool x21.1.a, .bool x21.1.b, .int .i64 x21.1.imm, .int .u32 x21.1.word]) :: Rs) ∧ itO (fun s => ref02_Text_l1b p0 x21 s.1 s.2) n (x66, x67) = some r) n71 _ ⟨ByteArray.empty, 0, Z, .refl _, ow69, hn70⟩ (allCons (L 24 Z Z) (allCons (L 13 Z Z) (allCons (L 8 Z Z) (allCons (L 1 Z Z) (allCons (L 0 Z Z) allNil))))) ?_
   rintro _ _ V72 ⟨x66, x67, rfl, le73, ow74, h78⟩
   obtain ⟨m75, q76, rfl, h79, e77⟩ := itS h78
   replace h79 : ref02_Text_l1b p0 x21 x66 x67 = some q76 := h79
   unfold ref02_Text_l1b at h79
   refine WP.usreg Z ?_
   refine U.p Z Z (.inl Z) (S.lss Z (L 4 Z Z) K) ?_
   refine U.done (nr Z) ?_
   refine WP.seq ?_
   refine WP.cond _ (L 0 Z Z) Z (fun c80 => ?_) (fun c80 => ?_)
   ·have h81 := ifT c80 h79
    refine WP.skip ?_
    refine sqN ?_
    refine WP.seqI (fun l V' => ∃ (x82 : ByteArray), l = [(1, .pointer (some ⟨b1, 0, none⟩)), (3, .pointer (some ⟨b29, 0, none⟩)), (6, .string x82), (42, .agg (([.int .i64 p0.d, .int .i64 p0.a, .int .i64 p0.b] : List Value)).toArray), (43, .int .i64 x67)] ∧ V72.le V' ∧ Ow V' (.pt b1 (.cells 0 [.int .i64 p0.op, .int .i64 p0.d, .int .i64 p0.a, .int .i64 p0.b, .int .i64 p0.imm]) :: .pt b29 (.cells 6 [.string x21.1.name, .bool x21.1.d, .bool x21.1.a, .bool x21.1.b, .int .i64 x21.1.imm, .int .u32 x21.1.word]) :: Rs) ∧ ref02_Text_k1 x67 x82 = some q76) ?_ ?_
    ·rintro _ V83 ⟨x82, rfl, le84, ow85, h86⟩
     unfold ref02_Text_k1 at h86
     refine WP.ureg Z ?_
     refine U.p Z Z (.inl Z) (S.add Z (L 4 Z Z) K) ?_
     refine U.p Z Z (.inl Z) (S.move Z (L 0 Z Z)) ?_
     refine U.done (nr Z) ?_
     refine sqN ?_
     exact ⟨_, V83, Z, ⟨m75, Nat.lt_succ_self _, x82, w64 (x67 + 1), Z, (le73.trans le84), ow85, backS h86 e77⟩, (allCons (L 2 Z Z) (allCons (L 3 Z Z) (allCons (L 4 Z Z) (allCons (L 5 Z Z) (allCons (L 0 Z Z) allNil)))))⟩
    ·skip
     refine WP.blk ?_
     refine WP.usreg Z ?_
     refine U.p Z Z (.inl Z) (S.move Z (L 5 Z Z)) ?_
     obtain ⟨x87, hx88, h89⟩ := bindS h81
     refine O.indexV (show Rows (RT.int .i64).rel V34 [.int .i64 p0.d, .int .i64 p0.a, .int .i64 p0.b] ([p0.d, p0.a, p0.b] : List Int) from (.cons [_] _ _ _ Z (.cons [_] _ _ _ Z (.cons [_] _ _ _ Z .nil)))) Z Z Z (.inl Z) Z (L 5 Z Z) (L 6 Z Z) Tryd.underlying88 Z Tryd.underlying3 Z ti3 hx88 (fun u90 hr91 => ?_)
     obtain rfl : u90 = .int .i64 x87 := (List.cons.inj hr91).1
     refine U.p Z Z (.inl Z) (S.assign Z (L 1 Z Z)) ?_
     refine U.p Z Z (.inl Z) (S.assign Z (L 1 Z Z)) ?_
     refine U.done (nr Z) ?_
     refine WP.usreg Z ?_
     refine U.p (v := .pointer (some ⟨b29, 1, none⟩)) Z Z (.inl Z) (S.fieldAddr Z (L 6 Z Z) Tryd.underlying70 Z ti4 Z Z) ?_
     refine U.k Z Z (.inl Z) (S.load Z (L 0 Z Z) Tryd.underlying4 Z ((ow74.own (k := 1) Z).cell Z)) nd ?_
     refine U.p (v := .pointer (some ⟨b29, 2, none⟩)) Z Z (.inl Z) (S.fieldAddr Z (L 8 Z Z) Tryd.underlying70 Z ti4 Z Z) ?_
     refine U.k Z Z (.inl Z) (S.load Z (L 0 Z Z) Tryd.underlying4 Z ((ow74.own (k := 1) Z).cell Z)) nd ?_
     refine U.p (v := .pointer (some ⟨b29, 3, none⟩)) Z Z (.inl Z) (S.fieldAddr Z (L 10 Z Z) Tryd.underlying70 Z ti4 Z Z) ?_
     refine U.k Z Z (.inl Z) (S.load Z (L 0 Z Z) Tryd.underlying4 Z ((ow74.own (k := 1) Z).cell Z)) nd ?_
     refine U.p (v := .agg (([.bool x21.1.d, .bool x21.1.a, .bool x21.1.b] : List Value)).toArray) Z Z (.inl Z) (S.buildA (vs := [.bool x21.1.d, .bool x21.1.a, .bool x21.1.b]) Z ti89 Z Tryd.underlying89 ti4 (aC (L 4 Z Z) (aC (L 2 Z Z) (aC (L 0 Z Z) aN))) (allC (by simp [topV]) (allC (by simp [topV]) (allC (by simp [topV]) allN))) (fill1 Z Z (nr Z) (fill1 Z Z (nr Z) (fill1 Z Z (nr Z) Z)))) ?_
     refine U.p Z Z (.inl Z) (S.move Z (L 8 Z Z)) ?_
     obtain ⟨x93, hx94, h95⟩ := bindS h89
     refine O.indexV (show Rows RT.bool.rel V72 [.bool x21.1.d, .bool x21.1.a, .bool x21.1.b] ([x21.1.d, x21.1.a, x21.1.b] : List Bool) from (.cons [_] _ _ _ Z (.cons [_] _ _ _ Z (.cons [_] _ _ _ Z .nil)))) Z Z Z (.inl Z) Z (L 1 Z Z) (L 0 Z Z) Tryd.underlying89 Z Tryd.underlying4 Z ti4 hx94 (fun u96 hr97 => ?_)
     obtain rfl : u96 = .bool x93 := (List.cons.inj hr97).1
     refine U.done (nr Z) ?_
     refine WP.cond _ (L 0 Z Z) Z (fun c99 => ?_) (fun c99 => ?_)
     ·have h100 := ifT c99 h95
      refine WP.ureg Z ?_
      refine U.p Z Z (.inl Z) (S.move Z (L 16 Z Z)) ?_
      obtain ⟨x101, hx102, h103⟩ := bindS h100
      refine U.p Z Z (.inl Z) (S.addS hx102 Z (L 0 Z Z) K) ?_
      refine U.p Z Z (.inl Z) (S.move Z (L 11 Z Z)) ?_
      obtain ⟨x104, hx105, h106⟩ := bindS h103
      refine O.call (V := V72) Z Z (.inl Z) Z en27 (aC (L 0 Z Z) aN) (wk_strconv_Itoa V72 _ (gl.up (((((le3.trans le11).trans le26).trans le31).trans le35).trans le73)) x87 ow74 _ hx105) (fun _ _ _ _ => nd) (fun v107 V108 le109 hp110 => ?_)
      obtain ⟨rfl, ow111⟩ := hp110
      obtain ⟨x112, hx113, h114⟩ := bindS h106
      refine U.p Z Z (.inl Z) (S.addS hx113 Z (L 2 Z Z) (L 0 Z Z)) ?_
      refine U.p Z Z (.inl Z) (S.assign Z (L 0 Z Z)) ?_
      refine U.done (nr Z) ?_
      refine blkN (sqN ?_)
      exact ⟨_, V108, Z, ⟨x112, Z, le109, ow111, h114⟩, (allCons (L 20 Z Z) (allCons (L 21 Z Z) (allCons (L 0 Z Z) (allCons (L 23 Z Z) (allCons (L 24 Z Z) allNil)))))⟩
     ·have h115 := ifF c99 h95
      refine WP.skip ?_
      refine blkN (sqN ?_)
      exact ⟨_, V72, Z, ⟨x66, Z, (.refl _), ow74, h115⟩, (allCons (L 14 Z Z) (allCons (L 15 Z Z) (allCons (L 16 Z Z) (allCons (L 17 Z Z) (allCons (L 18 Z Z) allNil)))))⟩
   ·have h116 := ifF c80 h79
    refine WP.exit ?_
    refine sqE (sqE (blkE (sqN ?_)))
    have h117 := exitS h116 e77
    refine WP.seqI (fun l V' => ∃ (x118 : ByteArray), l = [(3, .pointer (some ⟨b29, 0, none⟩)), (6, .string x118)] ∧ V72.le V' ∧ Ow V' (.pt b29 (.cells 6 [.string x21.1.name, .bool x21.1.d, .bool x21.1.a, .bool x21.1.b, .int .i64 x21.1.imm, .int .u32 x21.1.word]) :: Rs) ∧ ref02_Text_k2 x21 x118 = some r) ?_ ?_
    ·rintro _ V119 ⟨x118, rfl, le120, ow121, h122⟩
     unfold ref02_Text_k2 at h122
     refine WP.seq ?_
     refine WP.usreg Z ?_
     refine U.p Z Z (.inl Z) (S.move Z (L 1 Z Z)) ?_
     refine U.p Z Z (.inl Z) (S.eqlS Z (L 0 Z Z) K) ?_
     refine U.done (nr Z) ?_
     refine WP.cond _ (L 0 Z Z) Z (fun c123 => ?_) (fun c123 => ?_)
     ·have h124 := ifT c123 h122
      refine WP.usreg Z ?_
      refine U.p (v := .pointer (some ⟨b29, 0, none⟩)) Z Z (.inl Z) (S.fieldAddr Z (L 2 Z Z) Tryd.underlying70 Z ti9 Z Z) ?_
      refine U.k Z Z (.inl Z) (S.load Z (L 0 Z Z) Tryd.underlying9 Z ((ow121.own (k := 0) Z).cell Z)) nd ?_
      refine U.p Z Z (.inl Z) (S.assign Z (L 0 Z Z)) ?_
      refine U.done (nr Z) ?_
      refine WP.ret ?_
      refine sqR ?_
      refine fin.slot (.inr Z) Z (L 0 Z Z) ⟨V119, Z, ((((((le3.trans le11).trans le26).trans le31).trans le35).trans le73).trans le120), ?_⟩
      have ow125 := ow121.drop 0 Z
      have e126 := Option.some.inj h124
      subst e126
      exact ⟨rfl, ow125⟩
     ·have h127 := ifF c123 h122
      refine WP.skip ?_
      refine sqN ?_
      refine WP.usdreg Z Z Z ?_
      refine U.p (v := .pointer (some ⟨b29, 0, none⟩)) Z Z (.inl Z) (S.fieldAddr Z (L 2 Z Z) Tryd.underlying70 Z ti9 Z Z) ?_
      refine U.k Z Z (.inl Z) (S.load Z (L 0 Z Z) Tryd.underlying9 Z ((ow121.own (k := 0) Z).cell Z)) (fun _ => (okH.nil (fun r h => by cases h; exact (ow121.own (k := 0) Z).lt))) ?_
      refine U.p Z Z (.inl Z) (S.move Z (L 5 Z Z)) ?_
      obtain ⟨sx128, hx129, h130⟩ := bindS h127
      refine U.p Z Z (.inl Z) (S.sliceStr hx129 Z (L 0 Z Z) Tryd.underlying9 ⟨.inr ⟨_, _, Z, K⟩, .inl ⟨rfl, Z⟩, .inl Z⟩ Z) ?_
      obtain ⟨x131, hx132, h133⟩ := bindS h130
      refine U.p Z Z (.inl Z) (S.addS hx132 Z (L 2 Z Z) (L 0 Z Z)) ?_
      refine U.p Z Z (.inl Z) (S.assign Z (L 0 Z Z)) ?_
      refine U.done (nr Z) ?_
      refine WP.ret ?_
      refine fin.slot (.inr Z) Z (L 0 Z Z) ⟨V119, Z, ((((((le3.trans le11).trans le26).trans le31).trans le35).trans le73).trans le120), ?_⟩
      have ow134 := ow121.drop 0 Z
      have e135 := Option.some.inj h133
      subst e135
      exact ⟨rfl, ow134⟩
    ·skip
     refine WP.usreg Z ?_
     refine U.p (v := .pointer (some ⟨b29, 4, none⟩)) Z Z (.inl Z) (S.fieldAddr Z (L 2 Z Z) Tryd.underlying70 Z ti3 Z Z) ?_
     refine U.k Z Z (.inl Z) (S.load Z (L 0 Z Z) Tryd.underlying3 Z ((ow74.own (k := 1) Z).cell Z)) nd ?_
     refine U.p Z Z (.inl Z) (S.gtr Z (L 0 Z Z) K) ?_
     refine U.done (nr Z) ?_
     refine WP.cond _ (L 0 Z Z) Z (fun c136 => ?_) (fun c136 => ?_)
     ·have h137 := ifT c136 h117
      refine WP.ureg Z ?_
      refine U.p Z Z (.inl Z) (S.move Z (L 6 Z Z)) ?_
      obtain ⟨x138, hx139, h140⟩ := bindS h137
      refine U.p Z Z (.inl Z) (S.addS hx139 Z (L 0 Z Z) K) ?_
      refine U.p (v := .pointer (some ⟨b1, 4, none⟩)) Z Z (.inl Z) (S.fieldAddr Z (L 6 Z Z) Tryd.underlying50 Z ti3 Z Z) ?_
      refine U.k Z Z (.inl Z) (S.load Z (L 0 Z Z) Tryd.underlying3 Z ((ow74.own (k := 0) Z).cell Z)) nd ?_
      obtain ⟨x141, hx142, h143⟩ := bindS h140
      refine O.call (V := V72) Z Z (.inl Z) Z en27 (aC (L 0 Z Z) aN) (wk_strconv_Itoa V72 _ (gl.up (((((le3.trans le11).trans le26).trans le31).trans le35).trans le73)) p0.imm ow74 _ hx142) (fun _ _ _ _ => nd) (fun v144 V145 le146 hp147 => ?_)
      obtain ⟨rfl, ow148⟩ := hp147
      obtain ⟨x149, hx150, h151⟩ := bindS h143
      refine U.p Z Z (.inl Z) (S.addS hx150 Z (L 3 Z Z) (L 0 Z Z)) ?_
      refine U.p Z Z (.inl Z) (S.assign Z (L 0 Z Z)) ?_
      refine U.done (nr Z) ?_
      refine sqN ?_
      have ow152 := ow148.drop 0 Z
      exact ⟨_, V145, Z, ⟨x149, Z, le146, ow152, h151⟩, (allCons (L 12 Z Z) (allCons (L 0 Z Z) allNil))⟩
     ·have h153 := ifF c136 h117
      refine WP.skip ?_
      refine sqN ?_
      have ow154 := ow74.drop 0 Z
      exact ⟨_, V72, Z, ⟨x66, Z, (.refl _), ow154, h153⟩, (allCons (L 5 Z Z) (allCons (L 6 Z Z) allNil))⟩
theorem wk_ref15_List (V : Vw) (Rs : List At) (gl : Glb V) (p0 : TImage) (v1 : Value) (v3 : Value) (v5 : Value) (f2 : Fz (RT.int .u32) V v1 p0.code) (f4 : Fz RT_TNote V v3 p0.notes) (f6 : Fz (RT.int .i64) V v5 p0.threads) (ow : Ow V (Rs)) (r : ByteArray) (h : ref15_List p0 = some r) : ∃ v V', Cl Tryd.prog NG 15 #[.agg #[v1, v3, v5]] V.H v V'.H ∧ V.le V' ∧ (v = .string r ∧ Ow V' (Rs)) := by
 refine Ct.of gl.lo Tryd.func15 Z (nr Z) ?_
 unfold ref15_List at h
 refine WP.usreg Z ?_
 refine O.box ow Z Z (.inl Z) Z (L 0 Z Z) (by simp [topV]) Z nd (fun b7 V8 le9 ow10 => ?_)
 refine U.p Z Z (.inl Z) (S.assign Z K) ?_
 refine U.done (nr Z) ?_
 refine WP.seq ?_
 refine WP.usreg Z ?_
 refine U.k Z Z (.inl Z) (S.loadB Z (L 1 Z Z) Tryd.underlying27 Z ti27 (ow10.own (k := 0) Z).get Z) nd ?_
 have f12 := f2.up le9
 have f13 := f4.up le9
 have f14 := f6.up le9
 obtain ⟨x15, hx16, h17⟩ := bindS h
 refine O.call (V := V8) Z Z (.inl Z) Z en12 (aC (L 0 Z Z) aN) (wk_ref15_Good V8 _ (gl.up le9) p0 v1 v3 v5 f12 f13 f14 ow10 _ hx16) (fun _ _ _ _ => nd) (fun v18 V19 le20 hp21 => ?_)
 obtain ⟨rfl, ow22⟩ := hp21
 refine U.p Z Z (.inl Z) (S.not Z (L 0 Z Z)) ?_
 refine U.done (nr Z) ?_
 refine WP.cond _ (L 0 Z Z) Z (fun c23 => ?_) (fun c23 => ?_)
 ·have h24 := ifT c23 h17
  have k25 : x15 = false := nT c23
  refine WP.usreg Z ?_
  refine U.p Z Z (.inl Z) (S.assign Z K) ?_
  refine U.done (nr Z) ?_
  refine WP.ret ?_
  refine sqR ?_
  refine fin.slot (.inr Z) Z (L 0 Z Z) ⟨V19, Z, (le9.trans le20), ?_⟩
  have ow26 := ow22.drop 0 Z
  have e27 := Option.some.inj h24
  subst e27
  exact ⟨rfl, ow26⟩
 ·have h28 := ifF c23 h17
  have k29 : x15 = true := nF c23
  refine WP.skip ?_
  refine sqN ?_
  refine WP.usreg Z ?_
  refine U.p Z Z (.inl Z) (S.assign Z K) ?_
  refine U.done (nr Z) ?_
  refine WP.seq ?_
  refine WP.usreg Z ?_
  refine U.p (v := .pointer (some ⟨b7, 0, none⟩)) Z Z (.inl Z) (S.fieldAddr Z (L 5 Z Z) Tryd.underlying27 Z ti23 Z Z) ?_
  refine U.k Z Z (.inl Z) (S.load Z (L 0 Z Z) Tryd.underlying23 Z ((ow22.own (k := 0) Z).cell Z)) nd ?_
  refine U.p Z Z (.inl Z) (f12.1.len Z (L 0 Z Z) Tryd.underlying23) ?_
  refine U.p Z Z (.inl Z) (S.move Z K) ?_
  refine U.done (nr Z) ?_
  refine WP.blk ?_
  unfold ref15_List_l1 at h28
  obtain ⟨n33, hn32⟩ := loopO_some.1 h28
  refine WP.loopI2 (fun n l V' => ∃ (x30 : ByteArray) (x31 : Int), l = [(1, .pointer (some ⟨b7, 0, none⟩)), (3, .string x30), (14, v1), (15, .int .i64 (p0.code.length : Int)), (16, .int .i64 x31)] ∧ V19.le V' ∧ Ow V' (.pt b7 (.cells 0 [v1, v3, v5]) :: Rs) ∧ itO (fun s => ref15_List_l1b p0 s.1 s.2) n (x30, x31) = some r) n33 _ ⟨ByteArray.empty, 0, Z, .refl _, ow22, hn32⟩ (allCons (L 9 Z Z) (allCons (L 4 Z Z) (allCons (L 2 Z Z) (allCons (L 1 Z Z) (allCons (L 0 Z Z) allNil))))) ?_
  rintro _ _ V34 ⟨x30, x31, rfl, le35, ow36, h40⟩
  obtain ⟨m37, q38, rfl, h41, e39⟩ := itS h40
  replace h41 : ref15_List_l1b p0 x30 x31 = some q38 := h41
  unfold ref15_List_l1b at h41
  refine WP.usreg Z ?_
  refine U.p Z Z (.inl Z) (S.lss Z (L 4 Z Z) (L 3 Z Z)) ?_
  refine U.done (nr Z) ?_
  refine WP.seq ?_
  refine WP.cond _ (L 0 Z Z) Z (fun c42 => ?_) (fun c42 => ?_)
  ·have h43 := ifT c42 h41
   refine WP.skip ?_
   refine sqN ?_
   refine WP.seq ?_
   refine WP.blk ?_
   refine WP.usreg Z ?_
   refine U.p Z Z (.inl Z) (S.move Z (L 5 Z Z)) ?_
   obtain ⟨x44, hx45, h46⟩ := bindS h43
   obtain ⟨b47, o48, c49, cs50, hv51, hf52, hr53, hc54⟩ := f12.at hx45
   obtain rfl : cs50 = [.int .u32 x44] := hr53
   refine U.p Z Z (.inl Z) (S.index Z ((L 4 Z Z).trans hv51) (L 6 Z Z) Tryd.underlying23 ti39 (ix_ge hx45) (ix_lt hx45)) ?_
   refine U.k Z Z (.inl Z) (S.load Z (L 0 Z Z) Tryd.underlying39 Z ((le20.trans le35).cell hf52 (hc54 0 _ Z))) nd ?_
   refine U.p Z Z (.inl Z) (S.assign Z (L 2 Z Z)) ?_
   refine U.p Z Z (.inl Z) (S.assign Z (L 1 Z Z)) ?_
   refine U.done (nr Z) ?_
   refine WP.seq ?_
   refine WP.usreg Z ?_
   refine U.p (v := .pointer (some ⟨b7, 2, none⟩)) Z Z (.inl Z) (S.fieldAddr Z (L 6 Z Z) Tryd.underlying27 Z ti25 Z Z) ?_
   refine U.k Z Z (.inl Z) (S.load Z (L 0 Z Z) Tryd.underlying25 Z ((ow36.own (k := 0) Z).cell Z)) nd ?_
   refine U.p Z Z (.inl Z) (f14.1.len Z (L 0 Z Z) Tryd.underlying25) ?_
   refine U.p Z Z (.inl Z) (S.move Z K) ?_
   refine U.done (nr Z) ?_
   refine WP.blk ?_
   unfold ref15_List_l2 at h46
   obtain ⟨n58, hn57⟩ := loopO_some.1 h46
   refine WP.loopI2 (fun n l V' => ∃ (x55 : ByteArray) (x56 : Int), l = [(1, .pointer (some ⟨b7, 0, none⟩)), (3, .string x55), (4, .int .i64 x31), (5, .int .u32 x44), (14, v1), (15, .int .i64 (p0.code.length : Int)), (16, .int .i64 x31), (22, v5), (23, .int .i64 (p0.threads.length : Int)), (24, .int .i64 x56)] ∧ V34.le V' ∧ Ow V' (.pt b7 (.cells 0 [v1, v3, v5]) :: Rs) ∧ itO (fun s => ref15_List_l2b p0 x31 x44 s.1 s.2) n (x55, x56) = some q38) n58 _ ⟨x30, 0, Z, .refl _, ow36, hn57⟩ (allCons (L 10 Z Z) (allCons (L 11 Z Z) (allCons (L 5 Z Z) (allCons (L 4 Z Z) (allCons (L 12 Z Z) (allCons (L 13 Z Z) (allCons (L 14 Z Z) (allCons (L 2 Z Z) (allCons (L 1 Z Z) (allCons (L 0 Z Z) allNil)))))))))) ?_
   rintro _ _ V59 ⟨x55, x56, rfl, le60, ow61, h65⟩
   obtain ⟨m62, q63, rfl, h66, e64⟩ := itS h65
   replace h66 : ref15_List_l2b p0 x31 x44 x55 x56 = some q63 := h66
   unfold ref15_List_l2b at h66
   refine WP.usreg Z ?_
   refine U.p Z Z (.inl Z) (S.lss Z (L 9 Z Z) (L 8 Z Z)) ?_
   refine U.done (nr Z) ?_
   refine WP.seq ?_
   refine WP.cond _ (L 0 Z Z) Z (fun c67 => ?_) (fun c67 => ?_)
   ·have h68 := ifT c67 h66
    refine WP.skip ?_
    refine sqN ?_
    refine WP.seqI (fun l V' => ∃ (x69 : ByteArray), l = [(1, .pointer (some ⟨b7, 0, none⟩)), (3, .string x69), (4, .int .i64 x31), (5, .int .u32 x44), (14, v1), (15, .int .i64 (p0.code.length : Int)), (16, .int .i64 x31), (22, v5), (23, .int .i64 (p0.threads.length : Int)), (24, .int .i64 x56)] ∧ V59.le V' ∧ Ow V' (.pt b7 (.cells 0 [v1, v3, v5]) :: Rs) ∧ ref15_List_k1 x56 x69 = some q63) ?_ ?_
    ·rintro _ V70 ⟨x69, rfl, le71, ow72, h73⟩
     unfold ref15_List_k1 at h73
     refine WP.ureg Z ?_
     refine U.p Z Z (.inl Z) (S.add Z (L 9 Z Z) K) ?_
     refine U.p Z Z (.inl Z) (S.move Z (L 0 Z Z)) ?_
     refine U.done (nr Z) ?_
     refine sqN ?_
     exact ⟨_, V70, Z, ⟨m62, Nat.lt_succ_self _, x69, w64 (x56 + 1), Z, (le60.trans le71), ow72, backS h73 e64⟩, (allCons (L 2 Z Z) (allCons (L 3 Z Z) (allCons (L 4 Z Z) (allCons (L 5 Z Z) (allCons (L 6 Z Z) (allCons (L 7 Z Z) (allCons (L 8 Z Z) (allCons (L 9 Z Z) (allCons (L 10 Z Z) (allCons (L 0 Z Z) allNil))))))))))⟩
    ·skip
     refine WP.blk ?_
     refine WP.usreg Z ?_
     refine U.p Z Z (.inl Z) (S.move Z (L 10 Z Z)) ?_
     obtain ⟨x74, hx75, h76⟩ := bindS h68
     obtain ⟨b77, o78, c79, cs80, hv81, hf82, hr83, hc84⟩ := f14.at hx75
     obtain rfl : cs80 = [.int .i64 x74] := hr83
     refine U.p Z Z (.inl Z) (S.index Z ((L 9 Z Z).trans hv81) (L 11 Z Z) Tryd.underlying25 ti3 (ix_ge hx75) (ix_lt hx75)) ?_
     refine U.k Z Z (.inl Z) (S.load Z (L 0 Z Z) Tryd.underlying3 Z (((le20.trans le35).trans le60).cell hf82 (hc84 0 _ Z))) nd ?_
     refine U.p Z Z (.inl Z) (S.assign Z (L 2 Z Z)) ?_
     refine U.p Z Z (.inl Z) (S.assign Z (L 1 Z Z)) ?_
     refine U.done (nr Z) ?_
     refine WP.usreg Z ?_
     refine U.p Z Z (.inl Z) (S.move Z (L 0 Z Z)) ?_
     refine U.p Z Z (.inl Z) (S.move Z (L 9 Z Z)) ?_
     refine U.p Z Z (.inl Z) (S.eqlI Z (L 1 Z Z) (L 0 Z Z)) ?_
     refine U.done (nr Z) ?_
     refine WP.cond _ (L 0 Z Z) Z (fun c85 => ?_) (fun c85 => ?_)
     ·have h86 := ifT c85 h76
      refine WP.ureg Z ?_
      refine U.p Z Z (.inl Z) (S.move Z (L 10 Z Z)) ?_
      obtain ⟨x87, hx88, h89⟩ := bindS h86
      refine U.p Z Z (.inl Z) (S.addS hx88 Z (L 0 Z Z) K) ?_
      refine U.p Z Z (.inl Z) (S.move Z (L 6 Z Z)) ?_
      obtain ⟨x90, hx91, h92⟩ := bindS h89
      refine O.call (V := V59) Z Z (.inl Z) Z en27 (aC (L 0 Z Z) aN) (wk_strconv_Itoa V59 _ (gl.up (((le9.trans le20).trans le35).trans le60)) x56 ow61 _ hx91) (fun _ _ _ _ => nd) (fun v93 V94 le95 hp96 => ?_)
      obtain ⟨rfl, ow97⟩ := hp96
      obtain ⟨x98, hx99, h100⟩ := bindS h92
      refine U.p Z Z (.inl Z) (S.addS hx99 Z (L 2 Z Z) (L 0 Z Z)) ?_
      obtain ⟨x101, hx102, h103⟩ := bindS h100
      refine U.p Z Z (.inl Z) (S.addS hx102 Z (L 0 Z Z) K) ?_
      refine U.p Z Z (.inl Z) (S.assign Z (L 0 Z Z)) ?_
      refine U.done (nr Z) ?_
      refine blkN (sqN ?_)
      exact ⟨_, V94, Z, ⟨x101, Z, le95, ow97, h103⟩, (allCons (L 16 Z Z) (allCons (L 0 Z Z) (allCons (L 18 Z Z) (allCons (L 19 Z Z) (allCons (L 20 Z Z) (allCons (L 21 Z Z) (allCons (L 22 Z Z) (allCons (L 23 Z Z) (allCons (L 24 Z Z) (allCons (L 25 Z Z) allNil))))))))))⟩
     ·have h104 := ifF c85 h76
      refine WP.skip ?_
      refine blkN (sqN ?_)
      exact ⟨_, V59, Z, ⟨x55, Z, (.refl _), ow61, h104⟩, (allCons (L 9 Z Z) (allCons (L 10 Z Z) (allCons (L 11 Z Z) (allCons (L 12 Z Z) (allCons (L 13 Z Z) (allCons (L 14 Z Z) (allCons (L 15 Z Z) (allCons (L 16 Z Z) (allCons (L 17 Z Z) (allCons (L 18 Z Z) allNil))))))))))⟩
   ·have h105 := ifF c67 h66
    refine WP.exit ?_
    refine sqE (sqE (blkE (sqN ?_)))
    have h106 := exitS h105 e64
    refine WP.usreg Z ?_
    refine U.p Z Z (.inl Z) (S.move Z (L 4 Z Z)) ?_
    obtain ⟨x107, hx108, h109⟩ := bindS h106
    refine O.call (V := V59) Z Z (.inl Z) Z en22 (aC (L 0 Z Z) aN) (wk_ref02_Decode V59 _ (gl.up (((le9.trans le20).trans le35).trans le60)) x44 ow61 _ hx108) (fun _ _ _ _ => nd) (fun v110 V111 le112 hp113 => ?_)
    obtain ⟨rfl, ow114⟩ := hp113
    refine U.p Z Z (.inl Z) (S.move Z (L 0 Z Z)) ?_
    refine U.p Z Z (.inl Z) (S.extract Z (L 0 Z Z) Z (nr Z)) ?_
    refine U.p Z Z (.inl Z) (S.extract Z (L 1 Z Z) Z (nr Z)) ?_
    refine O.alloc ow114 Z Z (.inl Z) Z ti50 Z Z nd (fun b115 V116 le117 ow118 => ?_)
    refine O.store (k := 0) (cs := [.int .i64 x107.1.op, .int .i64 x107.1.d, .int .i64 x107.1.a, .int .i64 x107.1.b, .int .i64 x107.1.imm]) (c' := [.int .i64 x107.1.op, .int .i64 x107.1.d, .int .i64 x107.1.a, .int .i64 x107.1.b, .int .i64 x107.1.imm]) ow118 Z Z Z (.inl Z) Z (L 0 Z Z) (L 2 Z Z) ti50 (by simp [topV]) Z Z (nr Z) Z Z nd (fun V120 le121 ow122 => ?_)
    refine U.p Z Z (.inl Z) (S.assign Z (L 1 Z Z)) ?_
    refine U.done (nr Z) ?_
    refine WP.udreg Z Z Z ?_
    refine U.p Z Z (.inl Z) (S.move Z (L 9 Z Z)) ?_
    refine U.p Z Z (.inl Z) (S.move Z (L 11 Z Z)) ?_
    obtain ⟨x123, hx124, h125⟩ := bindS h109
    refine O.call (V := V120) Z Z (.inl Z) Z en27 (aC (L 0 Z Z) aN) (wk_strconv_Itoa V120 _ (gl.up ((((((le9.trans le20).trans le35).trans le60).trans le112).trans le117).trans le121)) x31 ow122 _ hx124) (fun v126 V127 le128 hp129 => by obtain ⟨rfl, ow130⟩ := hp129; exact (fun _ => (okH.nil (fun r h => nomatch h)))) (fun v126 V127 le128 hp129 => ?_)
    obtain ⟨rfl, ow130⟩ := hp129
    obtain ⟨x131, hx132, h133⟩ := bindS h125
    refine U.p Z Z (.inl Z) (S.addS hx132 Z (L 2 Z Z) (L 0 Z Z)) ?_
    obtain ⟨x134, hx135, h136⟩ := bindS h133
    refine U.p Z Z (.inl Z) (S.addS hx135 Z (L 0 Z Z) K) ?_
    refine U.k Z Z (.inl Z) (S.loadB Z (L 6 Z Z) Tryd.underlying50 Z ti50 (ow130.own (k := 0) Z).get Z) (fun _ => (okH.cons (Or.inr (Or.inl ((ow130.own (k := 0) Z).get.trans (ow122.own (k := 0) Z).get.symm))) (okH.nil (fun r h => by cases h; exact (ow130.own (k := 0) Z).lt)))) ?_
    obtain ⟨x137, hx138, h139⟩ := bindS h136
    refine O.call (V := V127) Z Z (.inl Z) Z en30 (aC (L 0 Z Z) aN) (wk_ref02_Text V127 _ (gl.up (((((((le9.trans le20).trans le35).trans le60).trans le112).trans le117).trans le121).trans le128)) x107.1 ow130 _ hx138) (fun v140 V141 le142 hp143 => by obtain ⟨rfl, ow144⟩ := hp143; exact (fun _ => (okH.cons (Or.inl Z) (okH.cons Z (okH.nil (fun r h => nomatch h)))))) (fun v140 V141 le142 hp143 => ?_)
    obtain ⟨rfl, ow144⟩ := hp143
    obtain ⟨x145, hx146, h147⟩ := bindS h139
    refine U.p Z Z (.inl Z) (S.addS hx146 Z (L 2 Z Z) (L 0 Z Z)) ?_
    refine U.p (v := .agg (([.string ByteArray.empty, .string str59, .string str60, .string str61, .string str62, .string str63, .string str64] : List Value)).toArray) Z Z (.inl Z) (S.buildA (vs := [.string ByteArray.empty, .string str59, .string str60, .string str61, .string str62, .string str63, .string str64]) Z ti66 Z Tryd.underlying66 ti9 (aC K (aC K (aC K (aC K (aC K (aC K (aC K aN))))))) (allC (by simp [topV]) (allC (by simp [topV]) (allC (by simp [topV]) (allC (by simp [topV]) (allC (by simp [topV]) (allC (by simp [topV]) (allC (by simp [topV]) allN))))))) (fill1 Z Z (nr Z) (fill1 Z Z (nr Z) (fill1 Z Z (nr Z) (fill1 Z Z (nr Z) (fill1 Z Z (nr Z) (fill1 Z Z (nr Z) (fill1 Z Z (nr Z) Z)))))))) ?_
    refine U.p (v := .pointer (some ⟨b7, 1, none⟩)) Z Z (.inl Z) (S.fieldAddr Z (L 17 Z Z) Tryd.underlying27 Z ti24 Z Z) ?_
    refine U.k Z Z (.inl Z) (S.load Z (L 0 Z Z) Tryd.underlying24 Z ((ow144.own (k := 1) Z).cell Z)) (fun _ => (okH.cons (Or.inr (Or.inl ((ow144.own (k := 1) Z).get.trans (ow130.own (k := 1) Z).get.symm))) (okH.cons trivial (okH.cons (Or.inr (Or.inl ((ow130.own (k := 1) Z).get.trans (ow122.own (k := 1) Z).get.symm))) (okH.nil (fun r h => by cases h; exact (ow144.own (k := 1) Z).lt)))))) ?_
    refine U.p Z Z (.inl Z) (S.move Z (L 21 Z Z)) ?_
    obtain ⟨x148, hx149, h150⟩ := bindS h147
    obtain ⟨b151, o152, c153, cs154, hv155, hf156, hr157, hc158⟩ := f13.at hx149
    obtain rfl : cs154 = [.int .i64 x148.role, .int .i64 x148.what, .bool x148.volatile, .bool x148.final] := hr157
    refine U.p Z Z (.inl Z) (S.index Z ((L 1 Z Z).trans hv155) (L 0 Z Z) Tryd.underlying24 ti42 (ix_ge hx149) (ix_lt hx149)) ?_
    refine U.p (v := .pointer (some ⟨b151, o152 + Int.toNat x31 * 4, none⟩)) Z Z (.inl Z) (S.fieldAddr Z (L 0 Z Z) Tryd.underlying42 Z ti3 Z Z) ?_
    refine U.k Z Z (.inl Z) (S.load Z (L 0 Z Z) Tryd.underlying3 Z ((((((((le20.trans le35).trans le60).trans le112).trans le117).trans le121).trans le128).trans le142).cell hf156 (hc158 0 _ Z))) (fun _ => (okH.cons trivial (okH.cons (Or.inr (Or.inl (le142.get _ (((((((le20.trans le35).trans le60).trans le112).trans le117).trans le121).trans le128).sub _ hf156)))) (okH.cons trivial (okH.cons (Or.inr (Or.inl (le128.get _ ((((((le20.trans le35).trans le60).trans le112).trans le117).trans le121).sub _ hf156)))) (okH.nil (fun r h => by cases h; exact (V141.wf _ ((((((((le20.trans le35).trans le60).trans le112).trans le117).trans le121).trans le128).trans le142).sub _ hf156))))))))) ?_
    obtain ⟨x159, hx160, h161⟩ := bindS h150
    refine O.indexV (show Rows RT.str.rel V141 [.string ByteArray.empty, .string str59, .string str60, .string str61, .string str62, .string str63, .string str64] ([ByteArray.empty, str59, str60, str61, str62, str63, str64] : List ByteArray) from (.cons [_] _ _ _ Z (.cons [_] _ _ _ Z (.cons [_] _ _ _ Z (.cons [_] _ _ _ Z (.cons [_] _ _ _ Z (.cons [_] _ _ _ Z (.cons [_] _ _ _ Z .nil)))))))) Z Z Z (.inl Z) Z (L 6 Z Z) (L 0 Z Z) Tryd.underlying66 Z Tryd.underlying9 Z ti9 hx160 (fun u162 hr163 => ?_)
    obtain rfl : u162 = .string x159 := (List.cons.inj hr163).1
    obtain ⟨x165, hx166, h167⟩ := bindS h161
    refine U.p Z Z (.inl Z) (S.addS hx166 Z (L 8 Z Z) (L 0 Z Z)) ?_
    obtain ⟨x168, hx169, h170⟩ := bindS h167
    refine U.p Z Z (.inl Z) (S.addS hx169 Z (L 0 Z Z) K) ?_
    refine U.p Z Z (.inl Z) (S.assign Z (L 0 Z Z)) ?_
    refine U.done (nr Z) ?_
    refine blkN (sqN ?_)
    refine WP.ureg Z ?_
    refine U.p Z Z (.inl Z) (S.add Z (L 33 Z Z) K) ?_
    refine U.p Z Z (.inl Z) (S.move Z (L 0 Z Z)) ?_
    refine U.done (nr Z) ?_
    refine sqN ?_
    have ow171 := ow144.drop 0 Z
    exact ⟨_, V141, Z, ⟨m37, Nat.lt_succ_self _, x168, w64 (x31 + 1), Z, ((((((le35.trans le60).trans le112).trans le117).trans le121).trans le128).trans le142), ow171, backS h170 e39⟩, (allCons (L 29 Z Z) (allCons (L 2 Z Z) (allCons (L 33 Z Z) (allCons (L 34 Z Z) (allCons (L 0 Z Z) allNil)))))⟩
  ·have h172 := ifF c42 h41
   refine WP.exit ?_
   refine sqE (sqE (blkE (sqN ?_)))
   have h173 := exitS h172 e39
   refine WP.usreg Z ?_
   refine U.p Z Z (.inl Z) (S.move Z (L 2 Z Z)) ?_
   refine U.p Z Z (.inl Z) (S.assign Z (L 0 Z Z)) ?_
   refine U.done (nr Z) ?_
   refine WP.ret ?_
   refine fin.slot (.inr Z) Z (L 0 Z Z) ⟨V34, Z, ((le9.trans le20).trans le35), ?_⟩
   have ow174 := ow36.drop 0 Z
   have e175 := Option.some.inj h173
   subst e175
   exact ⟨rfl, ow174⟩
theorem wk_ref15_four (V : Vw) (Rs : List At) (gl : Glb V) (p0 : Int) (ow : Ow V (Rs)) (r : ByteArray) (h : ref15_four p0 = some r) : ∃ v V', Cl Tryd.prog NG 31 #[.int .i64 p0] V.H v V'.H ∧ V.le V' ∧ (v = .string r ∧ Ow V' (Rs)) := by
 refine Ct.of gl.lo Tryd.func31 Z (nr Z) ?_
 unfold ref15_four at h
 refine WP.usreg Z ?_
 refine U.p Z Z (.inl Z) (S.assign Z K) ?_
 refine U.done (nr Z) ?_
 refine WP.usreg Z ?_
 refine U.p Z Z (.inl Z) (S.move Z (L 1 Z Z)) ?_
 obtain ⟨x1, hx2, h3⟩ := bindS h
 refine U.p Z Z (.inl Z) (S.quo hx2 Z (L 0 Z Z) K) ?_
 obtain ⟨x4, hx5, h6⟩ := bindS h3
 refine U.p Z Z (.inl Z) (S.rem hx5 Z (L 0 Z Z) K) ?_
 refine U.p Z Z (.inl Z) (S.conv Z (L 0 Z Z) Tryd.underlying3 Tryd.underlying5) ?_
 refine U.p Z Z (.inl Z) (S.move Z (L 5 Z Z)) ?_
 obtain ⟨x7, hx8, h9⟩ := bindS h6
 refine U.p Z Z (.inl Z) (S.quo hx8 Z (L 0 Z Z) K) ?_
 obtain ⟨x10, hx11, h12⟩ := bindS h9
 refine U.p Z Z (.inl Z) (S.rem hx11 Z (L 0 Z Z) K) ?_
 refine U.p Z Z (.inl Z) (S.conv Z (L 0 Z Z) Tryd.underlying3 Tryd.underlying5) ?_
 refine U.p Z Z (.inl Z) (S.move Z (L 9 Z Z)) ?_
 obtain ⟨x13, hx14, h15⟩ := bindS h12
 refine U.p Z Z (.inl Z) (S.quo hx14 Z (L 0 Z Z) K) ?_
 obtain ⟨x16, hx17, h18⟩ := bindS h15
 refine U.p Z Z (.inl Z) (S.rem hx17 Z (L 0 Z Z) K) ?_
 refine U.p Z Z (.inl Z) (S.conv Z (L 0 Z Z) Tryd.underlying3 Tryd.underlying5) ?_
 refine U.p Z Z (.inl Z) (S.move Z (L 13 Z Z)) ?_
 obtain ⟨x19, hx20, h21⟩ := bindS h18
 refine U.p Z Z (.inl Z) (S.rem hx20 Z (L 0 Z Z) K) ?_
 refine U.p Z Z (.inl Z) (S.conv Z (L 0 Z Z) Tryd.underlying3 Tryd.underlying5) ?_
 refine O.lit (R := (RT.int .u8)) ow Z Z (.inl Z) Z Tryd.underlying46 ti5 Z Z Z (nr Z) Z (aC (L 11 Z Z) (aC (L 7 Z Z) (aC (L 3 Z Z) (aC (L 0 Z Z) aN)))) (.cons _ _ (IntKind.wrap .u8 x4) _ (by simp [topV]) Z (.cons _ _ (IntKind.wrap .u8 x10) _ (by simp [topV]) Z (.cons _ _ (IntKind.wrap .u8 x16) _ (by simp [topV]) Z (.cons _ _ (IntKind.wrap .u8 x19) _ (by simp [topV]) Z .nil)))) (fun _ => nd) (fun v22 V23 le24 ow25 => ?_)
 obtain ⟨V27, eV31, le28, f29, ow30⟩ := ow25.osfz (k := 0) Z
 rw [← eV31]
 obtain ⟨sx33, hx34, h35⟩ := bindS h21
 refine O.strF f29 hx34 Z Z (.inl Z) Z (L 0 Z Z) Tryd.underlying46 Tryd.underlying5 Tryd.underlying9 ?_
 refine U.p Z Z (.inl Z) (S.assign Z (L 0 Z Z)) ?_
 refine U.done (nr Z) ?_
 refine WP.ret ?_
 refine fin.slot (.inr Z) Z (L 0 Z Z) ⟨V27, Z, (le24.trans le28), ?_⟩
 have e36 := Option.some.inj h35
 subst e36
 exact ⟨rfl, ow30⟩
theorem wk_ref15_Bytes (V : Vw) (Rs : List At) (gl : Glb V) (p0 : TImage) (v1 : Value) (v3 : Value) (v5 : Value) (f2 : Fz (RT.int .u32) V v1 p0.code) (f4 : Fz RT_TNote V v3 p0.notes) (f6 : Fz (RT.int .i64) V v5 p0.threads) (ow : Ow V (Rs)) (r : ByteArray) (h : ref15_Bytes p0 = some r) : ∃ v V', Cl Tryd.prog NG 16 #[.agg #[v1, v3, v5]] V.H v V'.H ∧ V.le V' ∧ (v = .string r ∧ Ow V' (Rs)) := by
 refine Ct.of gl.lo Tryd.func16 Z (nr Z) ?_
 unfold ref15_Bytes at h
 refine WP.usreg Z ?_
 refine O.box ow Z Z (.inl Z) Z (L 0 Z Z) (by simp [topV]) Z nd (fun b7 V8 le9 ow10 => ?_)
 refine U.p Z Z (.inl Z) (S.assign Z K) ?_
 refine U.done (nr Z) ?_
 refine WP.usdreg Z Z Z ?_
 refine U.p (v := .pointer (some ⟨b7, 2, none⟩)) Z Z (.inl Z) (S.fieldAddr Z (L 1 Z Z) Tryd.underlying27 Z ti25 Z Z) ?_
 refine U.k Z Z (.inl Z) (S.load Z (L 0 Z Z) Tryd.underlying25 Z ((ow10.own (k := 0) Z).cell Z)) (fun _ => (okH.nil (fun r h => by cases h; exact (ow10.own (k := 0) Z).lt))) ?_
 refine U.p Z Z (.inl Z) (f6.1.len Z (L 0 Z Z) Tryd.underlying25) ?_
 refine U.p Z Z (.inl Z) (S.conv Z (L 0 Z Z) Tryd.underlying3 Tryd.underlying5) ?_
 refine O.litX (R := (RT.int .u8)) ow10 Z Z (.inl Z) Z Tryd.underlying46 ti5 Z Z Z (nr Z) Z (aC (L 0 Z Z) aN) (.cons _ _ (IntKind.wrap .u8 (p0.threads.length : Int)) _ (by simp [topV]) Z .nil) (fun _ => (fun _ => (okH.cons trivial (okH.nil (fun r h => nomatch h))))) (fun v12 V13 le14 hb16 ow15 => ?_)
 obtain ⟨V18, eV22, le19, f20, ow21⟩ := ow15.osfz (k := 0) Z
 rw [← eV22]
 obtain ⟨sx24, hx25, h26⟩ := bindS h
 refine O.strFB f20 hb16 hx25 Z Z (.inl Z) Z (L 0 Z Z) Tryd.underlying46 Tryd.underlying5 Tryd.underlying9 (fun _ => (okH.cons trivial (okH.cons trivial (okH.nil (fun r h => by cases h; exact (V18.wf _ (f20.frz hb16))))))) ?_
 obtain ⟨x27, hx28, h29⟩ := bindS h26
 refine U.p Z Z (.inl Z) (S.addS hx28 Z K (L 0 Z Z)) ?_
 refine U.p (v := .pointer (some ⟨b7, 0, none⟩)) Z Z (.inl Z) (S.fieldAddr Z (L 8 Z Z) Tryd.underlying27 Z ti23 Z Z) ?_
 refine U.k Z Z (.inl Z) (S.load Z (L 0 Z Z) Tryd.underlying23 Z ((ow21.own (k := 0) Z).cell Z)) (fun _ => (okH.cons trivial (okH.cons trivial (okH.cons trivial (okH.nil (fun r h => by cases h; exact (ow21.own (k := 0) Z).lt)))))) ?_
 refine U.p Z Z (.inl Z) (f2.1.len Z (L 0 Z Z) Tryd.underlying23) ?_
 obtain ⟨x30, hx31, h32⟩ := bindS h29
 refine O.call (V := V18) Z Z (.inl Z) Z en31 (aC (L 0 Z Z) aN) (wk_ref15_four V18 _ (gl.up ((le9.trans le14).trans le19)) (p0.code.length : Int) ow21 _ hx31) (fun v33 V34 le35 hp36 => by obtain ⟨rfl, ow37⟩ := hp36; exact (fun _ => (okH.cons (Or.inl Z) (okH.cons (Or.inr (le35.get _ (f20.frz hb16))) (okH.cons (Or.inr (le35.get _ (f20.frz hb16))) (okH.cons (Or.inr (((ow37.own (k := 0) Z).get.trans (ow21.own (k := 0) Z).get.symm))) (okH.nil (fun r h => nomatch h)))))))) (fun v33 V34 le35 hp36 => ?_)
 obtain ⟨rfl, ow37⟩ := hp36
 obtain ⟨x38, hx39, h40⟩ := bindS h32
 refine U.p Z Z (.inl Z) (S.addS hx39 Z (L 4 Z Z) (L 0 Z Z)) ?_
 refine U.p Z Z (.inl Z) (S.assign Z (L 0 Z Z)) ?_
 refine U.done (nr Z) ?_
 refine WP.seq ?_
 refine WP.usreg Z ?_
 refine U.p (v := .pointer (some ⟨b7, 2, none⟩)) Z Z (.inl Z) (S.fieldAddr Z (L 14 Z Z) Tryd.underlying27 Z ti25 Z Z) ?_
 refine U.k Z Z (.inl Z) (S.load Z (L 0 Z Z) Tryd.underlying25 Z ((ow37.own (k := 0) Z).cell Z)) nd ?_
 refine U.p Z Z (.inl Z) (f6.1.len Z (L 0 Z Z) Tryd.underlying25) ?_
 refine U.p Z Z (.inl Z) (S.move Z K) ?_
 refine U.done (nr Z) ?_
 refine WP.blk ?_
 unfold ref15_Bytes_l1 at h40
 obtain ⟨n44, hn43⟩ := loopO_some.1 h40
 refine WP.loopI2 (fun n l V' => ∃ (x41 : ByteArray) (x42 : Int), l = [(1, .pointer (some ⟨b7, 0, none⟩)), (3, .string x41), (23, v5), (24, .int .i64 (p0.threads.length : Int)), (25, .int .i64 x42)] ∧ V34.le V' ∧ Ow V' (.pt b7 (.cells 0 [v1, v3, v5]) :: Rs) ∧ itO (fun s => ref15_Bytes_l1b p0 s.1 s.2) n (x41, x42) = some r) n44 _ ⟨x38, 0, Z, .refl _, ow37, hn43⟩ (allCons (L 18 Z Z) (allCons (L 4 Z Z) (allCons (L 2 Z Z) (allCons (L 1 Z Z) (allCons (L 0 Z Z) allNil))))) ?_
 rintro _ _ V45 ⟨x41, x42, rfl, le46, ow47, h51⟩
 obtain ⟨m48, q49, rfl, h52, e50⟩ := itS h51
 replace h52 : ref15_Bytes_l1b p0 x41 x42 = some q49 := h52
 unfold ref15_Bytes_l1b at h52
 refine WP.usreg Z ?_
 refine U.p Z Z (.inl Z) (S.lss Z (L 4 Z Z) (L 3 Z Z)) ?_
 refine U.done (nr Z) ?_
 refine WP.seq ?_
 refine WP.cond _ (L 0 Z Z) Z (fun c53 => ?_) (fun c53 => ?_)
 ·have h54 := ifT c53 h52
  refine WP.skip ?_
  refine sqN ?_
  refine WP.seq ?_
  refine WP.blk ?_
  refine WP.usreg Z ?_
  obtain ⟨x55, hx56, h57⟩ := bindS h54
  obtain ⟨b58, o59, c60, cs61, hv62, hf63, hr64, hc65⟩ := f6.at hx56
  obtain rfl : cs61 = [.int .i64 x55] := hr64
  refine U.p Z Z (.inl Z) (S.index Z ((L 3 Z Z).trans hv62) (L 5 Z Z) Tryd.underlying25 ti3 (ix_ge hx56) (ix_lt hx56)) ?_
  refine U.k Z Z (.inl Z) (S.load Z (L 0 Z Z) Tryd.underlying3 Z (((((le9.trans le14).trans le19).trans le35).trans le46).cell hf63 (hc65 0 _ Z))) nd ?_
  refine U.p Z Z (.inl Z) (S.assign Z (L 0 Z Z)) ?_
  refine U.done (nr Z) ?_
  refine WP.ureg Z ?_
  refine U.p Z Z (.inl Z) (S.move Z (L 5 Z Z)) ?_
  refine U.p Z Z (.inl Z) (S.move Z (L 1 Z Z)) ?_
  obtain ⟨x66, hx67, h68⟩ := bindS h57
  refine O.call (V := V45) Z Z (.inl Z) Z en31 (aC (L 0 Z Z) aN) (wk_ref15_four V45 _ (gl.up ((((le9.trans le14).trans le19).trans le35).trans le46)) x55 ow47 _ hx67) (fun _ _ _ _ => nd) (fun v69 V70 le71 hp72 => ?_)
  obtain ⟨rfl, ow73⟩ := hp72
  obtain ⟨x74, hx75, h76⟩ := bindS h68
  refine U.p Z Z (.inl Z) (S.addS hx75 Z (L 2 Z Z) (L 0 Z Z)) ?_
  refine U.p Z Z (.inl Z) (S.assign Z (L 0 Z Z)) ?_
  refine U.done (nr Z) ?_
  refine blkN (sqN ?_)
  refine WP.ureg Z ?_
  refine U.p Z Z (.inl Z) (S.add Z (L 13 Z Z) K) ?_
  refine U.p Z Z (.inl Z) (S.move Z (L 0 Z Z)) ?_
  refine U.done (nr Z) ?_
  refine sqN ?_
  exact ⟨_, V70, Z, ⟨m48, Nat.lt_succ_self _, x74, w64 (x42 + 1), Z, (le46.trans le71), ow73, backS h76 e50⟩, (allCons (L 11 Z Z) (allCons (L 2 Z Z) (allCons (L 13 Z Z) (allCons (L 14 Z Z) (allCons (L 0 Z Z) allNil)))))⟩
 ·have h77 := ifF c53 h52
  refine WP.exit ?_
  refine sqE (sqE (blkE (sqN ?_)))
  have h78 := exitS h77 e50
  refine WP.seq ?_
  refine WP.usreg Z ?_
  refine U.p (v := .pointer (some ⟨b7, 0, none⟩)) Z Z (.inl Z) (S.fieldAddr Z (L 1 Z Z) Tryd.underlying27 Z ti23 Z Z) ?_
  refine U.k Z Z (.inl Z) (S.load Z (L 0 Z Z) Tryd.underlying23 Z ((ow47.own (k := 0) Z).cell Z)) nd ?_
  refine U.p Z Z (.inl Z) (f2.1.len Z (L 0 Z Z) Tryd.underlying23) ?_
  refine U.p Z Z (.inl Z) (S.move Z K) ?_
  refine U.done (nr Z) ?_
  refine WP.blk ?_
  unfold ref15_Bytes_l2 at h78
  obtain ⟨n82, hn81⟩ := loopO_some.1 h78
  refine WP.loopI2 (fun n l V' => ∃ (x79 : ByteArray) (x80 : Int), l = [(1, .pointer (some ⟨b7, 0, none⟩)), (3, .string x79), (35, v1), (36, .int .i64 (p0.code.length : Int)), (37, .int .i64 x80)] ∧ V45.le V' ∧ Ow V' (.pt b7 (.cells 0 [v1, v3, v5]) :: Rs) ∧ itO (fun s => ref15_Bytes_l2b p0 s.1 s.2) n (x79, x80) = some r) n82 _ ⟨x41, 0, Z, .refl _, ow47, hn81⟩ (allCons (L 5 Z Z) (allCons (L 6 Z Z) (allCons (L 2 Z Z) (allCons (L 1 Z Z) (allCons (L 0 Z Z) allNil))))) ?_
  rintro _ _ V83 ⟨x79, x80, rfl, le84, ow85, h89⟩
  obtain ⟨m86, q87, rfl, h90, e88⟩ := itS h89
  replace h90 : ref15_Bytes_l2b p0 x79 x80 = some q87 := h90
  unfold ref15_Bytes_l2b at h90
  refine WP.usreg Z ?_
  refine U.p Z Z (.inl Z) (S.lss Z (L 4 Z Z) (L 3 Z Z)) ?_
  refine U.done (nr Z) ?_
  refine WP.seq ?_
  refine WP.cond _ (L 0 Z Z) Z (fun c91 => ?_) (fun c91 => ?_)
  ·have h92 := ifT c91 h90
   refine WP.skip ?_
   refine sqN ?_
   refine WP.seq ?_
   refine WP.blk ?_
   refine WP.usreg Z ?_
   refine U.p Z Z (.inl Z) (S.move Z (L 5 Z Z)) ?_
   obtain ⟨x93, hx94, h95⟩ := bindS h92
   obtain ⟨b96, o97, c98, cs99, hv100, hf101, hr102, hc103⟩ := f2.at hx94
   obtain rfl : cs99 = [.int .u32 x93] := hr102
   refine U.p Z Z (.inl Z) (S.index Z ((L 4 Z Z).trans hv100) (L 6 Z Z) Tryd.underlying23 ti39 (ix_ge hx94) (ix_lt hx94)) ?_
   refine U.k Z Z (.inl Z) (S.load Z (L 0 Z Z) Tryd.underlying39 Z ((((((le9.trans le14).trans le19).trans le35).trans le46).trans le84).cell hf101 (hc103 0 _ Z))) nd ?_
   refine U.p Z Z (.inl Z) (S.assign Z (L 2 Z Z)) ?_
   refine U.p Z Z (.inl Z) (S.assign Z (L 1 Z Z)) ?_
   refine U.done (nr Z) ?_
   refine WP.usreg Z ?_
   refine U.p (v := .pointer (some ⟨b7, 1, none⟩)) Z Z (.inl Z) (S.fieldAddr Z (L 6 Z Z) Tryd.underlying27 Z ti24 Z Z) ?_
   refine U.k Z Z (.inl Z) (S.load Z (L 0 Z Z) Tryd.underlying24 Z ((ow85.own (k := 0) Z).cell Z)) nd ?_
   refine U.p Z Z (.inl Z) (S.move Z (L 3 Z Z)) ?_
   obtain ⟨x104, hx105, h106⟩ := bindS h95
   obtain ⟨b107, o108, c109, cs110, hv111, hf112, hr113, hc114⟩ := f4.at hx105
   obtain rfl : cs110 = [.int .i64 x104.role, .int .i64 x104.what, .bool x104.volatile, .bool x104.final] := hr113
   refine U.p Z Z (.inl Z) (S.index Z ((L 1 Z Z).trans hv111) (L 0 Z Z) Tryd.underlying24 ti42 (ix_ge hx105) (ix_lt hx105)) ?_
   refine U.k Z Z (.inl Z) (S.loadN (cs := [.int .i64 x104.role, .int .i64 x104.what, .bool x104.volatile, .bool x104.final]) Z (L 0 Z Z) Tryd.underlying42 Z ti42 Z (fun j v hj => (((((le9.trans le14).trans le19).trans le35).trans le46).trans le84).cell hf112 (hc114 j v hj))) nd ?_
   refine O.alloc ow85 Z Z (.inl Z) Z ti42 Z Z nd (fun b115 V116 le117 ow118 => ?_)
   refine O.store (k := 0) (cs := [.int .i64 x104.role, .int .i64 x104.what, .bool x104.volatile, .bool x104.final]) (c' := [.int .i64 x104.role, .int .i64 x104.what, .bool x104.volatile, .bool x104.final]) ow118 Z Z Z (.inl Z) Z (L 0 Z Z) (L 1 Z Z) ti42 (by simp [topV]) Z Z (nr Z) Z Z nd (fun V120 le121 ow122 => ?_)
   refine U.done (nr Z) ?_
   refine WP.usreg Z ?_
   refine U.p (v := .pointer (some ⟨b115, 0, none⟩)) Z Z (.inl Z) (S.fieldAddr Z (L 0 Z Z) Tryd.underlying42 Z ti3 Z Z) ?_
   refine U.k Z Z (.inl Z) (S.load Z (L 0 Z Z) Tryd.underlying3 Z ((ow122.own (k := 0) Z).cell Z)) nd ?_
   refine U.p (v := .pointer (some ⟨b115, 1, none⟩)) Z Z (.inl Z) (S.fieldAddr Z (L 2 Z Z) Tryd.underlying42 Z ti3 Z Z) ?_
   refine U.k Z Z (.inl Z) (S.load Z (L 0 Z Z) Tryd.underlying3 Z ((ow122.own (k := 0) Z).cell Z)) nd ?_
   refine U.p Z Z (.inl Z) (S.mul Z K (L 0 Z Z)) ?_
   refine U.p Z Z (.inl Z) (S.add Z (L 3 Z Z) (L 0 Z Z)) ?_
   refine U.p Z Z (.inl Z) (S.assign Z (L 0 Z Z)) ?_
   refine U.done (nr Z) ?_
   refine WP.seqI (fun l V' => ∃ (x123 : Int), l = [(1, .pointer (some ⟨b7, 0, none⟩)), (3, .string x79), (7, .int .u32 x93), (8, .pointer (some ⟨b115, 0, none⟩)), (9, .int .i64 x123), (35, v1), (36, .int .i64 (p0.code.length : Int)), (37, .int .i64 x80)] ∧ V120.le V' ∧ Ow V' (.pt b7 (.cells 0 [v1, v3, v5]) :: .pt b115 (.cells 4 [.int .i64 x104.role, .int .i64 x104.what, .bool x104.volatile, .bool x104.final]) :: Rs) ∧ ref15_Bytes_k1 x79 x80 x93 x104 x123 = some q87) ?_ ?_
   ·rintro _ V124 ⟨x123, rfl, le125, ow126, h127⟩
    unfold ref15_Bytes_k1 at h127
    refine WP.seqI (fun l V' => ∃ (x128 : Int), l = [(1, .pointer (some ⟨b7, 0, none⟩)), (3, .string x79), (7, .int .u32 x93), (9, .int .i64 x128), (35, v1), (36, .int .i64 (p0.code.length : Int)), (37, .int .i64 x80)] ∧ V124.le V' ∧ Ow V' (.pt b7 (.cells 0 [v1, v3, v5]) :: Rs) ∧ ref15_Bytes_k2 x79 x80 x93 x128 = some q87) ?_ ?_
    ·rintro _ V129 ⟨x128, rfl, le130, ow131, h132⟩
     unfold ref15_Bytes_k2 at h132
     refine WP.udreg Z Z Z ?_
     refine U.p Z Z (.inl Z) (S.move Z (L 1 Z Z)) ?_
     refine U.p Z Z (.inl Z) (S.move Z (L 3 Z Z)) ?_
     refine U.p Z Z (.inl Z) (S.conv Z (L 0 Z Z) Tryd.underlying39 Tryd.underlying3) ?_
     obtain ⟨x133, hx134, h135⟩ := bindS h132
     refine O.call (V := V129) Z Z (.inl Z) Z en31 (aC (L 0 Z Z) aN) (wk_ref15_four V129 _ (gl.up (((((((((le9.trans le14).trans le19).trans le35).trans le46).trans le84).trans le117).trans le121).trans le125).trans le130)) (w64 x93) ow131 _ hx134) (fun v136 V137 le138 hp139 => by obtain ⟨rfl, ow140⟩ := hp139; exact (fun _ => (okH.nil (fun r h => nomatch h)))) (fun v136 V137 le138 hp139 => ?_)
     obtain ⟨rfl, ow140⟩ := hp139
     obtain ⟨x141, hx142, h143⟩ := bindS h135
     refine U.p Z Z (.inl Z) (S.addS hx142 Z (L 3 Z Z) (L 0 Z Z)) ?_
     refine U.p Z Z (.inl Z) (S.move Z (L 8 Z Z)) ?_
     refine U.p Z Z (.inl Z) (S.conv Z (L 0 Z Z) Tryd.underlying3 Tryd.underlying5) ?_
     refine O.litX (R := (RT.int .u8)) ow140 Z Z (.inl Z) Z Tryd.underlying46 ti5 Z Z Z (nr Z) Z (aC (L 0 Z Z) aN) (.cons _ _ (IntKind.wrap .u8 x128) _ (by simp [topV]) Z .nil) (fun _ => (fun _ => (okH.cons trivial (okH.nil (fun r h => nomatch h))))) (fun v144 V145 le146 hb148 ow147 => ?_)
     obtain ⟨V150, eV154, le151, f152, ow153⟩ := ow147.osfz (k := 0) Z
     rw [← eV154]
     obtain ⟨sx156, hx157, h158⟩ := bindS h143
     refine O.strFB f152 hb148 hx157 Z Z (.inl Z) Z (L 0 Z Z) Tryd.underlying46 Tryd.underlying5 Tryd.underlying9 (fun _ => (okH.cons trivial (okH.cons (Or.inr (Or.inr (le138.next))) (okH.nil (fun r h => by cases h; exact (V150.wf _ (f152.frz hb148))))))) ?_
     obtain ⟨x159, hx160, h161⟩ := bindS h158
     refine U.p Z Z (.inl Z) (S.addS hx160 Z (L 4 Z Z) (L 0 Z Z)) ?_
     refine U.p Z Z (.inl Z) (S.assign Z (L 0 Z Z)) ?_
     refine U.done (nr Z) ?_
     refine blkN (sqN ?_)
     refine WP.ureg Z ?_
     refine U.p Z Z (.inl Z) (S.add Z (L 17 Z Z) K) ?_
     refine U.p Z Z (.inl Z) (S.move Z (L 0 Z Z)) ?_
     refine U.done (nr Z) ?_
     refine sqN ?_
     exact ⟨_, V150, Z, ⟨m86, Nat.lt_succ_self _, x159, w64 (x80 + 1), Z, (((((((le84.trans le117).trans le121).trans le125).trans le130).trans le138).trans le146).trans le151), ow153, backS h161 e88⟩, (allCons (L 13 Z Z) (allCons (L 2 Z Z) (allCons (L 17 Z Z) (allCons (L 18 Z Z) (allCons (L 0 Z Z) allNil)))))⟩
    ·skip
     refine WP.usreg Z ?_
     refine U.p (v := .pointer (some ⟨b115, 3, none⟩)) Z Z (.inl Z) (S.fieldAddr Z (L 3 Z Z) Tryd.underlying42 Z ti4 Z Z) ?_
     refine U.k Z Z (.inl Z) (S.load Z (L 0 Z Z) Tryd.underlying4 Z ((ow126.own (k := 1) Z).cell Z)) nd ?_
     refine U.done (nr Z) ?_
     refine WP.cond _ (L 0 Z Z) Z (fun c162 => ?_) (fun c162 => ?_)
     ·have h163 := ifT c162 h127
      refine WP.ureg Z ?_
      refine U.p Z Z (.inl Z) (S.move Z (L 6 Z Z)) ?_
      refine U.p Z Z (.inl Z) (S.add Z (L 0 Z Z) K) ?_
      refine U.p Z Z (.inl Z) (S.assign Z (L 0 Z Z)) ?_
      refine U.done (nr Z) ?_
      refine sqN ?_
      have ow164 := ow126.drop 1 Z
      exact ⟨_, V124, Z, ⟨w64 (x123 + 128), Z, (.refl _), ow164, h163⟩, (allCons (L 5 Z Z) (allCons (L 6 Z Z) (allCons (L 7 Z Z) (allCons (L 0 Z Z) (allCons (L 10 Z Z) (allCons (L 11 Z Z) (allCons (L 12 Z Z) allNil)))))))⟩
     ·have h165 := ifF c162 h127
      refine WP.skip ?_
      refine sqN ?_
      have ow166 := ow126.drop 1 Z
      exact ⟨_, V124, Z, ⟨x123, Z, (.refl _), ow166, h165⟩, (allCons (L 2 Z Z) (allCons (L 3 Z Z) (allCons (L 4 Z Z) (allCons (L 6 Z Z) (allCons (L 7 Z Z) (allCons (L 8 Z Z) (allCons (L 9 Z Z) allNil)))))))⟩
   ·skip
    refine WP.usreg Z ?_
    refine U.p (v := .pointer (some ⟨b115, 2, none⟩)) Z Z (.inl Z) (S.fieldAddr Z (L 7 Z Z) Tryd.underlying42 Z ti4 Z Z) ?_
    refine U.k Z Z (.inl Z) (S.load Z (L 0 Z Z) Tryd.underlying4 Z ((ow122.own (k := 0) Z).cell Z)) nd ?_
    refine U.done (nr Z) ?_
    refine WP.cond _ (L 0 Z Z) Z (fun c167 => ?_) (fun c167 => ?_)
    ·have h168 := ifT c167 h106
     refine WP.ureg Z ?_
     refine U.p Z Z (.inl Z) (S.move Z (L 2 Z Z)) ?_
     refine U.p Z Z (.inl Z) (S.add Z (L 0 Z Z) K) ?_
     refine U.p Z Z (.inl Z) (S.assign Z (L 0 Z Z)) ?_
     refine U.done (nr Z) ?_
     refine sqN ?_
     have ow169 := ow122.pick 0 Z
     have ow170 := ow169.pick 1 Z
     exact ⟨_, V120, Z, ⟨w64 ((w64 (x104.role + (w64 (8 * x104.what)))) + 64), Z, (.refl _), ow170, h168⟩, (allCons (L 24 Z Z) (allCons (L 25 Z Z) (allCons (L 18 Z Z) (allCons (L 12 Z Z) (allCons (L 0 Z Z) (allCons (L 26 Z Z) (allCons (L 27 Z Z) (allCons (L 28 Z Z) allNil))))))))⟩
    ·have h171 := ifF c167 h106
     refine WP.skip ?_
     refine sqN ?_
     have ow172 := ow122.pick 0 Z
     have ow173 := ow172.pick 1 Z
     exact ⟨_, V120, Z, ⟨w64 (x104.role + (w64 (8 * x104.what))), Z, (.refl _), ow173, h171⟩, (allCons (L 21 Z Z) (allCons (L 22 Z Z) (allCons (L 15 Z Z) (allCons (L 9 Z Z) (allCons (L 2 Z Z) (allCons (L 23 Z Z) (allCons (L 24 Z Z) (allCons (L 25 Z Z) allNil))))))))⟩
  ·have h174 := ifF c91 h90
   refine WP.exit ?_
   refine sqE (sqE (blkE (sqN ?_)))
   have h175 := exitS h174 e88
   refine WP.usreg Z ?_
   refine U.p Z Z (.inl Z) (S.move Z (L 2 Z Z)) ?_
   refine U.p Z Z (.inl Z) (S.assign Z (L 0 Z Z)) ?_
   refine U.done (nr Z) ?_
   refine WP.ret ?_
   refine fin.slot (.inr Z) Z (L 0 Z Z) ⟨V83, Z, (((((le9.trans le14).trans le19).trans le35).trans le46).trans le84), ?_⟩
   have ow176 := ow85.drop 0 Z
   have e177 := Option.some.inj h175
   subst e177
   exact ⟨rfl, ow176⟩
theorem wk_ref15_Same (V : Vw) (Rs : List At) (gl : Glb V) (p0 : TImage) (p1 : TImage) (v1 : Value) (v3 : Value) (v5 : Value) (v7 : Value) (v9 : Value) (v11 : Value) (f2 : Fz (RT.int .u32) V v1 p0.code) (f4 : Fz RT_TNote V v3 p0.notes) (f6 : Fz (RT.int .i64) V v5 p0.threads) (f8 : Fz (RT.int .u32) V v7 p1.code) (f10 : Fz RT_TNote V v9 p1.notes) (f12 : Fz (RT.int .i64) V v11 p1.threads) (ow : Ow V (Rs)) (r : Bool) (h : ref15_Same p0 p1 = some r) : ∃ v V', Cl Tryd.prog NG 9 #[.agg #[v1, v3, v5], .agg #[v7, v9, v11]] V.H v V'.H ∧ V.le V' ∧ (v = .bool r ∧ Ow V' (Rs)) := by
 refine Ct.of gl.lo Tryd.func9 Z (nr Z) ?_
 unfold ref15_Same at h
 refine WP.usreg Z ?_
 refine O.box ow Z Z (.inl Z) Z (L 0 Z Z) (by simp [topV]) Z nd (fun b13 V14 le15 ow16 => ?_)
 refine O.box ow16 Z Z (.inl Z) Z (L 2 Z Z) (by simp [topV]) Z nd (fun b18 V19 le20 ow21 => ?_)
 refine U.p Z Z (.inl Z) (S.assign Z K) ?_
 refine U.done (nr Z) ?_
 refine WP.seq ?_
 refine WP.usreg Z ?_
 refine U.p (v := .pointer (some ⟨b13, 0, none⟩)) Z Z (.inl Z) (S.fieldAddr Z (L 2 Z Z) Tryd.underlying27 Z ti23 Z Z) ?_
 refine U.k Z Z (.inl Z) (S.load Z (L 0 Z Z) Tryd.underlying23 Z ((ow21.own (k := 1) Z).cell Z)) nd ?_
 refine U.p Z Z (.inl Z) (f2.1.len Z (L 0 Z Z) Tryd.underlying23) ?_
 refine U.p (v := .pointer (some ⟨b18, 0, none⟩)) Z Z (.inl Z) (S.fieldAddr Z (L 4 Z Z) Tryd.underlying27 Z ti23 Z Z) ?_
 refine U.k Z Z (.inl Z) (S.load Z (L 0 Z Z) Tryd.underlying23 Z ((ow21.own (k := 0) Z).cell Z)) nd ?_
 refine U.p Z Z (.inl Z) (f8.1.len Z (L 0 Z Z) Tryd.underlying23) ?_
 refine U.p Z Z (.inl Z) (S.neqI Z (L 3 Z Z) (L 0 Z Z)) ?_
 refine U.p Z Z (.inl Z) (S.move Z (L 0 Z Z)) ?_
 refine U.joinX 16 (fun e H => ∃ (u23 u24 u25 u26 u27 u28 u29 : Value), H = V19.H ∧ e = [(23, .bool ((decide ((p0.code.length : Int) ≠ (p1.code.length : Int))) || (decide ((p0.notes.length : Int) ≠ (p1.notes.length : Int))))), (22, u23), (21, u24), (20, u25), (19, u26), (18, u27), (17, u28), (16, u29)]) ?_ ?_
 ·rintro _ _ ⟨u23, u24, u25, u26, u27, u28, u29, rfl, rfl⟩
  refine U.p Z Z (.inl Z) (S.move Z (L 0 Z Z)) ?_
  refine U.joinX 25 (fun e H => ∃ (u33 u34 u35 u36 u37 u38 u39 : Value), H = V19.H ∧ e = [(32, .bool (((decide ((p0.code.length : Int) ≠ (p1.code.length : Int))) || (decide ((p0.notes.length : Int) ≠ (p1.notes.length : Int)))) || (decide ((p0.threads.length : Int) ≠ (p1.threads.length : Int))))), (31, u33), (30, u34), (29, u35), (28, u36), (27, u37), (26, u38), (25, u39)]) ?_ ?_
  ·rintro _ _ ⟨u33, u34, u35, u36, u37, u38, u39, rfl, rfl⟩
   refine U.done (nr Z) ?_
   refine WP.cond _ (L 0 Z Z) Z (fun c43 => ?_) (fun c43 => ?_)
   ·have h44 := ifT c43 h
    refine WP.usreg Z ?_
    refine U.p Z Z (.inl Z) (S.assign Z K) ?_
    refine U.done (nr Z) ?_
    refine WP.ret ?_
    refine sqR ?_
    refine fin.slot (.inr Z) Z (L 0 Z Z) ⟨V19, Z, (le15.trans le20), ?_⟩
    have ow45 := ow21.drop 0 Z
    have ow46 := ow45.drop 0 Z
    have e47 := Option.some.inj h44
    subst e47
    exact ⟨rfl, ow46⟩
   ·have h48 := ifF c43 h
    refine WP.skip ?_
    refine sqN ?_
    refine WP.seq ?_
    refine WP.usreg Z ?_
    refine U.p (v := .pointer (some ⟨b13, 0, none⟩)) Z Z (.inl Z) (S.fieldAddr Z (L 27 Z Z) Tryd.underlying27 Z ti23 Z Z) ?_
    refine U.k Z Z (.inl Z) (S.load Z (L 0 Z Z) Tryd.underlying23 Z ((ow21.own (k := 1) Z).cell Z)) nd ?_
    refine U.p Z Z (.inl Z) (f2.1.len Z (L 0 Z Z) Tryd.underlying23) ?_
    refine U.p Z Z (.inl Z) (S.move Z K) ?_
    refine U.done (nr Z) ?_
    refine WP.blk ?_
    have ow50 := ow21.pick 0 Z
    have ow51 := ow50.pick 1 Z
    unfold ref15_Same_l1 at h48
    obtain ⟨n53, hn52⟩ := loopO_some.1 h48
    refine WP.loopI2 (fun n l V' => ∃ (x49 : Int), l = [(2, .pointer (some ⟨b13, 0, none⟩)), (3, .pointer (some ⟨b18, 0, none⟩)), (35, .int .i64 (p0.code.length : Int)), (36, .int .i64 x49)] ∧ V19.le V' ∧ Ow V' (.pt b13 (.cells 0 [v1, v3, v5]) :: .pt b18 (.cells 0 [v7, v9, v11]) :: Rs) ∧ itO (fun s => ref15_Same_l1b p0 p1 s) n x49 = some r) n53 _ ⟨0, Z, .refl _, ow51, hn52⟩ (allCons (L 31 Z Z) (allCons (L 30 Z Z) (allCons (L 1 Z Z) (allCons (L 0 Z Z) allNil)))) ?_
    rintro _ _ V54 ⟨x49, rfl, le55, ow56, h60⟩
    obtain ⟨m57, q58, rfl, h61, e59⟩ := itS h60
    replace h61 : ref15_Same_l1b p0 p1 x49 = some q58 := h61
    unfold ref15_Same_l1b at h61
    refine WP.usreg Z ?_
    refine U.p Z Z (.inl Z) (S.lss Z (L 3 Z Z) (L 2 Z Z)) ?_
    refine U.done (nr Z) ?_
    refine WP.seq ?_
    refine WP.cond _ (L 0 Z Z) Z (fun c62 => ?_) (fun c62 => ?_)
    ·have h63 := ifT c62 h61
     refine WP.skip ?_
     refine sqN ?_
     refine WP.seq ?_
     refine WP.blk ?_
     refine WP.usreg Z ?_
     refine U.p Z Z (.inl Z) (S.move Z (L 4 Z Z)) ?_
     refine U.p Z Z (.inl Z) (S.assign Z (L 0 Z Z)) ?_
     refine U.done (nr Z) ?_
     refine WP.usdreg Z Z Z ?_
     refine U.p (v := .pointer (some ⟨b13, 0, none⟩)) Z Z (.inl Z) (S.fieldAddr Z (L 3 Z Z) Tryd.underlying27 Z ti23 Z Z) ?_
     refine U.k Z Z (.inl Z) (S.load Z (L 0 Z Z) Tryd.underlying23 Z ((ow56.own (k := 0) Z).cell Z)) (fun _ => (okH.nil (fun r h => by cases h; exact (ow56.own (k := 0) Z).lt))) ?_
     refine U.p Z Z (.inl Z) (S.move Z (L 2 Z Z)) ?_
     obtain ⟨x64, hx65, h66⟩ := bindS h63
     obtain ⟨b67, o68, c69, cs70, hv71, hf72, hr73, hc74⟩ := f2.at hx65
     obtain rfl : cs70 = [.int .u32 x64] := hr73
     refine U.p Z Z (.inl Z) (S.index Z ((L 1 Z Z).trans hv71) (L 0 Z Z) Tryd.underlying23 ti39 (ix_ge hx65) (ix_lt hx65)) ?_
     refine U.k Z Z (.inl Z) (S.load Z (L 0 Z Z) Tryd.underlying39 Z (((le15.trans le20).trans le55).cell hf72 (hc74 0 _ Z))) (fun _ => (okH.cons trivial (okH.nil (fun r h => by cases h; exact (V54.wf _ (((le15.trans le20).trans le55).sub _ hf72)))))) ?_
     refine U.p (v := .pointer (some ⟨b18, 0, none⟩)) Z Z (.inl Z) (S.fieldAddr Z (L 9 Z Z) Tryd.underlying27 Z ti23 Z Z) ?_
     refine U.k Z Z (.inl Z) (S.load Z (L 0 Z Z) Tryd.underlying23 Z ((ow56.own (k := 1) Z).cell Z)) (fun _ => (okH.cons trivial (okH.cons trivial (okH.nil (fun r h => by cases h; exact (ow56.own (k := 1) Z).lt))))) ?_
     refine U.p Z Z (.inl Z) (S.move Z (L 7 Z Z)) ?_
     obtain ⟨x75, hx76, h77⟩ := bindS h66
     obtain ⟨b78, o79, c80, cs81, hv82, hf83, hr84, hc85⟩ := f8.at hx76
     obtain rfl : cs81 = [.int .u32 x75] := hr84
     refine U.p Z Z (.inl Z) (S.index Z ((L 1 Z Z).trans hv82) (L 0 Z Z) Tryd.underlying23 ti39 (ix_ge hx76) (ix_lt hx76)) ?_
     refine U.k Z Z (.inl Z) (S.load Z (L 0 Z Z) Tryd.underlying39 Z (((le15.trans le20).trans le55).cell hf83 (hc85 0 _ Z))) (fun _ => (okH.cons trivial (okH.cons trivial (okH.cons trivial (okH.nil (fun r h => by cases h; exact (V54.wf _ (((le15.trans le20).trans le55).sub _ hf83)))))))) ?_
     refine U.p Z Z (.inl Z) (S.neqI Z (L 5 Z Z) (L 0 Z Z)) ?_
     refine U.done (nr Z) ?_
     refine WP.cond _ (L 0 Z Z) Z (fun c86 => ?_) (fun c86 => ?_)
     ·have h87 := ifT c86 h77
      refine WP.usreg Z ?_
      refine U.p Z Z (.inl Z) (S.assign Z K) ?_
      refine U.done (nr Z) ?_
      refine WP.ret ?_
      refine blkR (sqR (sqR (blkR (sqR ?_))))
      have h88 := exitS h87 e59
      refine fin.slot (.inr Z) Z (L 0 Z Z) ⟨V54, Z, ((le15.trans le20).trans le55), ?_⟩
      have ow89 := ow56.drop 0 Z
      have ow90 := ow89.drop 0 Z
      have e91 := Option.some.inj h88
      subst e91
      exact ⟨rfl, ow90⟩
     ·have h92 := ifF c86 h77
      refine WP.skip ?_
      refine blkN (sqN ?_)
      refine WP.ureg Z ?_
      refine U.p Z Z (.inl Z) (S.add Z (L 17 Z Z) K) ?_
      refine U.p Z Z (.inl Z) (S.move Z (L 0 Z Z)) ?_
      refine U.done (nr Z) ?_
      refine sqN ?_
      exact ⟨_, V54, Z, ⟨m57, Nat.lt_succ_self _, w64 (x49 + 1), Z, le55, ow56, backS h92 e59⟩, (allCons (L 16 Z Z) (allCons (L 17 Z Z) (allCons (L 18 Z Z) (allCons (L 0 Z Z) allNil))))⟩
    ·have h93 := ifF c62 h61
     refine WP.exit ?_
     refine sqE (sqE (blkE (sqN ?_)))
     have h94 := exitS h93 e59
     refine WP.seq ?_
     refine WP.usreg Z ?_
     refine U.p (v := .pointer (some ⟨b13, 1, none⟩)) Z Z (.inl Z) (S.fieldAddr Z (L 1 Z Z) Tryd.underlying27 Z ti24 Z Z) ?_
     refine U.k Z Z (.inl Z) (S.load Z (L 0 Z Z) Tryd.underlying24 Z ((ow56.own (k := 0) Z).cell Z)) nd ?_
     refine U.p Z Z (.inl Z) (f4.1.len Z (L 0 Z Z) Tryd.underlying24) ?_
     refine U.p Z Z (.inl Z) (S.move Z K) ?_
     refine U.done (nr Z) ?_
     refine WP.blk ?_
     unfold ref15_Same_l2 at h94
     obtain ⟨n97, hn96⟩ := loopO_some.1 h94
     refine WP.loopI2 (fun n l V' => ∃ (x95 : Int), l = [(2, .pointer (some ⟨b13, 0, none⟩)), (3, .pointer (some ⟨b18, 0, none⟩)), (53, .int .i64 (p0.notes.length : Int)), (54, .int .i64 x95)] ∧ V54.le V' ∧ Ow V' (.pt b13 (.cells 0 [v1, v3, v5]) :: .pt b18 (.cells 0 [v7, v9, v11]) :: Rs) ∧ itO (fun s => ref15_Same_l2b p0 p1 s) n x95 = some r) n97 _ ⟨0, Z, .refl _, ow56, hn96⟩ (allCons (L 5 Z Z) (allCons (L 6 Z Z) (allCons (L 1 Z Z) (allCons (L 0 Z Z) allNil)))) ?_
     rintro _ _ V98 ⟨x95, rfl, le99, ow100, h104⟩
     obtain ⟨m101, q102, rfl, h105, e103⟩ := itS h104
     replace h105 : ref15_Same_l2b p0 p1 x95 = some q102 := h105
     unfold ref15_Same_l2b at h105
     refine WP.usreg Z ?_
     refine U.p Z Z (.inl Z) (S.lss Z (L 3 Z Z) (L 2 Z Z)) ?_
     refine U.done (nr Z) ?_
     refine WP.seq ?_
     refine WP.cond _ (L 0 Z Z) Z (fun c106 => ?_) (fun c106 => ?_)
     ·have h107 := ifT c106 h105
      refine WP.skip ?_
      refine sqN ?_
      refine WP.seq ?_
      refine WP.blk ?_
      refine WP.usreg Z ?_
      refine U.p Z Z (.inl Z) (S.move Z (L 4 Z Z)) ?_
      refine U.p Z Z (.inl Z) (S.assign Z (L 0 Z Z)) ?_
      refine U.done (nr Z) ?_
      refine WP.usdreg Z Z Z ?_
      refine U.p (v := .pointer (some ⟨b13, 1, none⟩)) Z Z (.inl Z) (S.fieldAddr Z (L 3 Z Z) Tryd.underlying27 Z ti24 Z Z) ?_
      refine U.k Z Z (.inl Z) (S.load Z (L 0 Z Z) Tryd.underlying24 Z ((ow100.own (k := 0) Z).cell Z)) (fun _ => (okH.nil (fun r h => by cases h; exact (ow100.own (k := 0) Z).lt))) ?_
      refine U.p Z Z (.inl Z) (S.move Z (L 2 Z Z)) ?_
      obtain ⟨x108, hx109, h110⟩ := bindS h107
      obtain ⟨b111, o112, c113, cs114, hv115, hf116, hr117, hc118⟩ := f4.at hx109
      obtain rfl : cs114 = [.int .i64 x108.role, .int .i64 x108.what, .bool x108.volatile, .bool x108.final] := hr117
      refine U.p Z Z (.inl Z) (S.index Z ((L 1 Z Z).trans hv115) (L 0 Z Z) Tryd.underlying24 ti42 (ix_ge hx109) (ix_lt hx109)) ?_
      refine U.k Z Z (.inl Z) (S.loadN (cs := [.int .i64 x108.role, .int .i64 x108.what, .bool x108.volatile, .bool x108.final]) Z (L 0 Z Z) Tryd.underlying42 Z ti42 Z (fun j v hj => (((le15.trans le20).trans le55).trans le99).cell hf116 (hc118 j v hj))) (fun _ => (okH.cons trivial (okH.nil (fun r h => by cases h; exact (V98.wf _ ((((le15.trans le20).trans le55).trans le99).sub _ hf116)))))) ?_
      refine U.p (v := .pointer (some ⟨b18, 1, none⟩)) Z Z (.inl Z) (S.fieldAddr Z (L 9 Z Z) Tryd.underlying27 Z ti24 Z Z) ?_
      refine U.k Z Z (.inl Z) (S.load Z (L 0 Z Z) Tryd.underlying24 Z ((ow100.own (k := 1) Z).cell Z)) (fun _ => (okH.cons trivial (okH.cons trivial (okH.nil (fun r h => by cases h; exact (ow100.own (k := 1) Z).lt))))) ?_
      refine U.p Z Z (.inl Z) (S.move Z (L 7 Z Z)) ?_
      obtain ⟨x119, hx120, h121⟩ := bindS h110
      obtain ⟨b122, o123, c124, cs125, hv126, hf127, hr128, hc129⟩ := f10.at hx120
      obtain rfl : cs125 = [.int .i64 x119.role, .int .i64 x119.what, .bool x119.volatile, .bool x119.final] := hr128
      refine U.p Z Z (.inl Z) (S.index Z ((L 1 Z Z).trans hv126) (L 0 Z Z) Tryd.underlying24 ti42 (ix_ge hx120) (ix_lt hx120)) ?_
      refine U.k Z Z (.inl Z) (S.loadN (cs := [.int .i64 x119.role, .int .i64 x119.what, .bool x119.volatile, .bool x119.final]) Z (L 0 Z Z) Tryd.underlying42 Z ti42 Z (fun j v hj => (((le15.trans le20).trans le55).trans le99).cell hf127 (hc129 j v hj))) (fun _ => (okH.cons trivial (okH.cons trivial (okH.cons trivial (okH.nil (fun r h => by cases h; exact (V98.wf _ ((((le15.trans le20).trans le55).trans le99).sub _ hf127)))))))) ?_
      refine U.p Z Z (.inl Z) (S.neqT (flA (flC (.int _ _) (flC (.int _ _) (flC (.bool _) (flC (.bool _) flN))))) (flA (flC (.int _ _) (flC (.int _ _) (flC (.bool _) (flC (.bool _) flN))))) Z (L 5 Z Z) (L 0 Z Z) Tryd.underlying42 (by kernel_rfl) (by kernel_rfl) (.cons _ _ _ _ _ _ (by decide) (part_cell Tryd.underlying3 Z Z) (part_cell Tryd.underlying3 Z Z) (eqIn_int Tryd.underlying3 9998) (.cons _ _ _ _ _ _ (by decide) (part_cell Tryd.underlying3 Z Z) (part_cell Tryd.underlying3 Z Z) (eqIn_int Tryd.underlying3 9998) (.cons _ _ _ _ _ _ (by decide) (part_cell Tryd.underlying4 Z Z) (part_cell Tryd.underlying4 Z Z) (eqIn_b Tryd.underlying4 9998) (.cons _ _ _ _ _ _ (by decide) (part_cell Tryd.underlying4 Z Z) (part_cell Tryd.underlying4 Z Z) (eqIn_b Tryd.underlying4 9998) .nil))))) ?_
      refine U.done (nr Z) ?_
      refine WP.cond _ (L 0 Z Z) Z (fun c130 => ?_) (fun c130 => ?_)
      ·have h131 := ifT c130 h121
       have k132 : ((decide (x108.role = x119.role)) && ((decide (x108.what = x119.what)) && ((x108.volatile == x119.volatile) && ((x108.final == x119.final) && true)))) = false := nT c130
       refine WP.usreg Z ?_
       refine U.p Z Z (.inl Z) (S.assign Z K) ?_
       refine U.done (nr Z) ?_
       refine WP.ret ?_
       refine blkR (sqR (sqR (blkR (sqR ?_))))
       have h133 := exitS h131 e103
       refine fin.slot (.inr Z) Z (L 0 Z Z) ⟨V98, Z, (((le15.trans le20).trans le55).trans le99), ?_⟩
       have ow134 := ow100.drop 0 Z
       have ow135 := ow134.drop 0 Z
       have e136 := Option.some.inj h133
       subst e136
       exact ⟨rfl, ow135⟩
      ·have h137 := ifF c130 h121
       have k138 : ((decide (x108.role = x119.role)) && ((decide (x108.what = x119.what)) && ((x108.volatile == x119.volatile) && ((x108.final == x119.final) && true)))) = true := nF c130
       refine WP.skip ?_
       refine blkN (sqN ?_)
       refine WP.ureg Z ?_
       refine U.p Z Z (.inl Z) (S.add Z (L 17 Z Z) K) ?_
       refine U.p Z Z (.inl Z) (S.move Z (L 0 Z Z)) ?_
       refine U.done (nr Z) ?_
       refine sqN ?_
       exact ⟨_, V98, Z, ⟨m101, Nat.lt_succ_self _, w64 (x95 + 1), Z, le99, ow100, backS h137 e103⟩, (allCons (L 16 Z Z) (allCons (L 17 Z Z) (allCons (L 18 Z Z) (allCons (L 0 Z Z) allNil))))⟩
     ·have h139 := ifF c106 h105
      refine WP.exit ?_
      refine sqE (sqE (blkE (sqN ?_)))
      have h140 := exitS h139 e103
      refine WP.seq ?_
      refine WP.usreg Z ?_
      refine U.p (v := .pointer (some ⟨b13, 2, none⟩)) Z Z (.inl Z) (S.fieldAddr Z (L 1 Z Z) Tryd.underlying27 Z ti25 Z Z) ?_
      refine U.k Z Z (.inl Z) (S.load Z (L 0 Z Z) Tryd.underlying25 Z ((ow100.own (k := 0) Z).cell Z)) nd ?_
      refine U.p Z Z (.inl Z) (f6.1.len Z (L 0 Z Z) Tryd.underlying25) ?_
      refine U.p Z Z (.inl Z) (S.move Z K) ?_
      refine U.done (nr Z) ?_
      refine WP.blk ?_
      unfold ref15_Same_l3 at h140
      obtain ⟨n143, hn142⟩ := loopO_some.1 h140
      refine WP.loopI2 (fun n l V' => ∃ (x141 : Int), l = [(2, .pointer (some ⟨b13, 0, none⟩)), (3, .pointer (some ⟨b18, 0, none⟩)), (71, .int .i64 (p0.threads.length : Int)), (72, .int .i64 x141)] ∧ V98.le V' ∧ Ow V' (.pt b13 (.cells 0 [v1, v3, v5]) :: .pt b18 (.cells 0 [v7, v9, v11]) :: Rs) ∧ itO (fun s => ref15_Same_l3b p0 p1 s) n x141 = some r) n143 _ ⟨0, Z, .refl _, ow100, hn142⟩ (allCons (L 5 Z Z) (allCons (L 6 Z Z) (allCons (L 1 Z Z) (allCons (L 0 Z Z) allNil)))) ?_
      rintro _ _ V144 ⟨x141, rfl, le145, ow146, h150⟩
      obtain ⟨m147, q148, rfl, h151, e149⟩ := itS h150
      replace h151 : ref15_Same_l3b p0 p1 x141 = some q148 := h151
      unfold ref15_Same_l3b at h151
      refine WP.usreg Z ?_
      refine U.p Z Z (.inl Z) (S.lss Z (L 3 Z Z) (L 2 Z Z)) ?_
      refine U.done (nr Z) ?_
      refine WP.seq ?_
      refine WP.cond _ (L 0 Z Z) Z (fun c152 => ?_) (fun c152 => ?_)
      ·have h153 := ifT c152 h151
       refine WP.skip ?_
       refine sqN ?_
       refine WP.seq ?_
       refine WP.blk ?_
       refine WP.usreg Z ?_
       refine U.p Z Z (.inl Z) (S.move Z (L 4 Z Z)) ?_
       refine U.p Z Z (.inl Z) (S.assign Z (L 0 Z Z)) ?_
       refine U.done (nr Z) ?_
       refine WP.usdreg Z Z Z ?_
       refine U.p (v := .pointer (some ⟨b13, 2, none⟩)) Z Z (.inl Z) (S.fieldAddr Z (L 3 Z Z) Tryd.underlying27 Z ti25 Z Z) ?_
       refine U.k Z Z (.inl Z) (S.load Z (L 0 Z Z) Tryd.underlying25 Z ((ow146.own (k := 0) Z).cell Z)) (fun _ => (okH.nil (fun r h => by cases h; exact (ow146.own (k := 0) Z).lt))) ?_
       refine U.p Z Z (.inl Z) (S.move Z (L 2 Z Z)) ?_
       obtain ⟨x154, hx155, h156⟩ := bindS h153
       obtain ⟨b157, o158, c159, cs160, hv161, hf162, hr163, hc164⟩ := f6.at hx155
       obtain rfl : cs160 = [.int .i64 x154] := hr163
       refine U.p Z Z (.inl Z) (S.index Z ((L 1 Z Z).trans hv161) (L 0 Z Z) Tryd.underlying25 ti3 (ix_ge hx155) (ix_lt hx155)) ?_
       refine U.k Z Z (.inl Z) (S.load Z (L 0 Z Z) Tryd.underlying3 Z (((((le15.trans le20).trans le55).trans le99).trans le145).cell hf162 (hc164 0 _ Z))) (fun _ => (okH.cons trivial (okH.nil (fun r h => by cases h; exact (V144.wf _ (((((le15.trans le20).trans le55).trans le99).trans le145).sub _ hf162)))))) ?_
       refine U.p (v := .pointer (some ⟨b18, 2, none⟩)) Z Z (.inl Z) (S.fieldAddr Z (L 9 Z Z) Tryd.underlying27 Z ti25 Z Z) ?_
       refine U.k Z Z (.inl Z) (S.load Z (L 0 Z Z) Tryd.underlying25 Z ((ow146.own (k := 1) Z).cell Z)) (fun _ => (okH.cons trivial (okH.cons trivial (okH.nil (fun r h => by cases h; exact (ow146.own (k := 1) Z).lt))))) ?_
       refine U.p Z Z (.inl Z) (S.move Z (L 7 Z Z)) ?_
       obtain ⟨x165, hx166, h167⟩ := bindS h156
       obtain ⟨b168, o169, c170, cs171, hv172, hf173, hr174, hc175⟩ := f12.at hx166
       obtain rfl : cs171 = [.int .i64 x165] := hr174
       refine U.p Z Z (.inl Z) (S.index Z ((L 1 Z Z).trans hv172) (L 0 Z Z) Tryd.underlying25 ti3 (ix_ge hx166) (ix_lt hx166)) ?_
       refine U.k Z Z (.inl Z) (S.load Z (L 0 Z Z) Tryd.underlying3 Z (((((le15.trans le20).trans le55).trans le99).trans le145).cell hf173 (hc175 0 _ Z))) (fun _ => (okH.cons trivial (okH.cons trivial (okH.cons trivial (okH.nil (fun r h => by cases h; exact (V144.wf _ (((((le15.trans le20).trans le55).trans le99).trans le145).sub _ hf173)))))))) ?_
       refine U.p Z Z (.inl Z) (S.neqI Z (L 5 Z Z) (L 0 Z Z)) ?_
       refine U.done (nr Z) ?_
       refine WP.cond _ (L 0 Z Z) Z (fun c176 => ?_) (fun c176 => ?_)
       ·have h177 := ifT c176 h167
        refine WP.usreg Z ?_
        refine U.p Z Z (.inl Z) (S.assign Z K) ?_
        refine U.done (nr Z) ?_
        refine WP.ret ?_
        refine blkR (sqR (sqR (blkR (sqR ?_))))
        have h178 := exitS h177 e149
        refine fin.slot (.inr Z) Z (L 0 Z Z) ⟨V144, Z, ((((le15.trans le20).trans le55).trans le99).trans le145), ?_⟩
        have ow179 := ow146.drop 0 Z
        have ow180 := ow179.drop 0 Z
        have e181 := Option.some.inj h178
        subst e181
        exact ⟨rfl, ow180⟩
       ·have h182 := ifF c176 h167
        refine WP.skip ?_
        refine blkN (sqN ?_)
        refine WP.ureg Z ?_
        refine U.p Z Z (.inl Z) (S.add Z (L 17 Z Z) K) ?_
        refine U.p Z Z (.inl Z) (S.move Z (L 0 Z Z)) ?_
        refine U.done (nr Z) ?_
        refine sqN ?_
        exact ⟨_, V144, Z, ⟨m147, Nat.lt_succ_self _, w64 (x141 + 1), Z, le145, ow146, backS h182 e149⟩, (allCons (L 16 Z Z) (allCons (L 17 Z Z) (allCons (L 18 Z Z) (allCons (L 0 Z Z) allNil))))⟩
      ·have h183 := ifF c152 h151
       refine WP.exit ?_
       refine sqE (sqE (blkE (sqN ?_)))
       have h184 := exitS h183 e149
       refine WP.usreg Z ?_
       refine U.p Z Z (.inl Z) (S.assign Z K) ?_
       refine U.done (nr Z) ?_
       refine WP.ret ?_
       refine fin.slot (.inr Z) Z (L 0 Z Z) ⟨V144, Z, ((((le15.trans le20).trans le55).trans le99).trans le145), ?_⟩
       have ow185 := ow146.drop 0 Z
       have ow186 := ow185.drop 0 Z
       have e187 := Option.some.inj h184
       subst e187
       exact ⟨rfl, ow186⟩
  ·intro kk
   refine bcase (b := (decide ((p0.code.length : Int) ≠ (p1.code.length : Int))) || (decide ((p0.notes.length : Int) ≠ (p1.notes.length : Int)))) (fun g188 => ?_) (fun g188 => ?_)
   ·skip
    refine U.x Z Z Z Z ((L 0 Z Z).trans (cB g188)) (by decide) ?_
    refine U.x Z Z Z Z ((L 1 Z Z).trans (cB g188)) (by decide) ?_
    refine U.x Z Z Z Z ((L 2 Z Z).trans (cB g188)) (by decide) ?_
    refine U.x Z Z Z Z ((L 3 Z Z).trans (cB g188)) (by decide) ?_
    refine U.x Z Z Z Z ((L 4 Z Z).trans (cB g188)) (by decide) ?_
    refine U.x Z Z Z Z ((L 5 Z Z).trans (cB g188)) (by decide) ?_
    refine U.x Z Z Z Z ((L 6 Z Z).trans (cB g188)) (by decide) ?_
    refine U.p Z Z (.inl Z) (S.pickT Z ((L 7 Z Z).trans (cB g188)) K) ?_
    exact kk [(32, .bool true), (31, .tuple #[]), (30, .tuple #[]), (29, .tuple #[]), (28, .tuple #[]), (27, .tuple #[]), (26, .tuple #[]), (25, .tuple #[])] _ ⟨.tuple #[], .tuple #[], .tuple #[], .tuple #[], .tuple #[], .tuple #[], .tuple #[], Z, (by rw [g188, Bool.true_or])⟩
   ·skip
    refine U.p (v := .pointer (some ⟨b13, 2, none⟩)) Z Z (.inr ⟨_, _, _, Z, Z, ((L 0 Z Z).trans (cB g188))⟩) (S.fieldAddr Z (L 19 Z Z) Tryd.underlying27 Z ti25 Z Z) ?_
    refine U.k Z Z (.inr ⟨_, _, _, Z, Z, ((L 1 Z Z).trans (cB g188))⟩) (S.load Z (L 0 Z Z) Tryd.underlying25 Z ((ow21.own (k := 1) Z).cell Z)) nd ?_
    refine U.p Z Z (.inr ⟨_, _, _, Z, Z, ((L 2 Z Z).trans (cB g188))⟩) (f6.1.len Z (L 0 Z Z) Tryd.underlying25) ?_
    refine U.p (v := .pointer (some ⟨b18, 2, none⟩)) Z Z (.inr ⟨_, _, _, Z, Z, ((L 3 Z Z).trans (cB g188))⟩) (S.fieldAddr Z (L 21 Z Z) Tryd.underlying27 Z ti25 Z Z) ?_
    refine U.k Z Z (.inr ⟨_, _, _, Z, Z, ((L 4 Z Z).trans (cB g188))⟩) (S.load Z (L 0 Z Z) Tryd.underlying25 Z ((ow21.own (k := 0) Z).cell Z)) nd ?_
    refine U.p Z Z (.inr ⟨_, _, _, Z, Z, ((L 5 Z Z).trans (cB g188))⟩) (f12.1.len Z (L 0 Z Z) Tryd.underlying25) ?_
    refine U.p Z Z (.inr ⟨_, _, _, Z, Z, ((L 6 Z Z).trans (cB g188))⟩) (S.neqI Z (L 3 Z Z) (L 0 Z Z)) ?_
    refine U.p Z Z (.inl Z) (S.pickF Z ((L 7 Z Z).trans (cB g188)) (L 0 Z Z)) ?_
    exact kk [(32, .bool (decide ((p0.threads.length : Int) ≠ (p1.threads.length : Int)))), (31, .bool (decide ((p0.threads.length : Int) ≠ (p1.threads.length : Int)))), (30, .int .i64 (p1.threads.length : Int)), (29, v11), (28, .pointer (some ⟨b18, 2, none⟩)), (27, .int .i64 (p0.threads.length : Int)), (26, v5), (25, .pointer (some ⟨b13, 2, none⟩))] _ ⟨.bool (decide ((p0.threads.length : Int) ≠ (p1.threads.length : Int))), .int .i64 (p1.threads.length : Int), v11, .pointer (some ⟨b18, 2, none⟩), .int .i64 (p0.threads.length : Int), v5, .pointer (some ⟨b13, 2, none⟩), Z, (by rw [g188, Bool.false_or])⟩
 ·intro kk
  refine bcase (b := decide ((p0.code.length : Int) ≠ (p1.code.length : Int))) (fun g189 => ?_) (fun g189 => ?_)
  ·skip
   refine U.x Z Z Z Z ((L 0 Z Z).trans (cB g189)) (by decide) ?_
   refine U.x Z Z Z Z ((L 1 Z Z).trans (cB g189)) (by decide) ?_
   refine U.x Z Z Z Z ((L 2 Z Z).trans (cB g189)) (by decide) ?_
   refine U.x Z Z Z Z ((L 3 Z Z).trans (cB g189)) (by decide) ?_
   refine U.x Z Z Z Z ((L 4 Z Z).trans (cB g189)) (by decide) ?_
   refine U.x Z Z Z Z ((L 5 Z Z).trans (cB g189)) (by decide) ?_
   refine U.x Z Z Z Z ((L 6 Z Z).trans (cB g189)) (by decide) ?_
   refine U.p Z Z (.inl Z) (S.pickT Z ((L 7 Z Z).trans (cB g189)) K) ?_
   exact kk [(23, .bool true), (22, .tuple #[]), (21, .tuple #[]), (20, .tuple #[]), (19, .tuple #[]), (18, .tuple #[]), (17, .tuple #[]), (16, .tuple #[])] _ ⟨.tuple #[], .tuple #[], .tuple #[], .tuple #[], .tuple #[], .tuple #[], .tuple #[], Z, (by rw [g189, Bool.true_or])⟩
  ·skip
   refine U.p (v := .pointer (some ⟨b13, 1, none⟩)) Z Z (.inr ⟨_, _, _, Z, Z, ((L 0 Z Z).trans (cB g189))⟩) (S.fieldAddr Z (L 10 Z Z) Tryd.underlying27 Z ti24 Z Z) ?_
   refine U.k Z Z (.inr ⟨_, _, _, Z, Z, ((L 1 Z Z).trans (cB g189))⟩) (S.load Z (L 0 Z Z) Tryd.underlying24 Z ((ow21.own (k := 1) Z).cell Z)) nd ?_
   refine U.p Z Z (.inr ⟨_, _, _, Z, Z, ((L 2 Z Z).trans (cB g189))⟩) (f4.1.len Z (L 0 Z Z) Tryd.underlying24) ?_
   refine U.p (v := .pointer (some ⟨b18, 1, none⟩)) Z Z (.inr ⟨_, _, _, Z, Z, ((L 3 Z Z).trans (cB g189))⟩) (S.fieldAddr Z (L 12 Z Z) Tryd.underlying27 Z ti24 Z Z) ?_
   refine U.k Z Z (.inr ⟨_, _, _, Z, Z, ((L 4 Z Z).trans (cB g189))⟩) (S.load Z (L 0 Z Z) Tryd.underlying24 Z ((ow21.own (k := 0) Z).cell Z)) nd ?_
   refine U.p Z Z (.inr ⟨_, _, _, Z, Z, ((L 5 Z Z).trans (cB g189))⟩) (f10.1.len Z (L 0 Z Z) Tryd.underlying24) ?_
   refine U.p Z Z (.inr ⟨_, _, _, Z, Z, ((L 6 Z Z).trans (cB g189))⟩) (S.neqI Z (L 3 Z Z) (L 0 Z Z)) ?_
   refine U.p Z Z (.inl Z) (S.pickF Z ((L 7 Z Z).trans (cB g189)) (L 0 Z Z)) ?_
   exact kk [(23, .bool (decide ((p0.notes.length : Int) ≠ (p1.notes.length : Int)))), (22, .bool (decide ((p0.notes.length : Int) ≠ (p1.notes.length : Int)))), (21, .int .i64 (p1.notes.length : Int)), (20, v9), (19, .pointer (some ⟨b18, 1, none⟩)), (18, .int .i64 (p0.notes.length : Int)), (17, v3), (16, .pointer (some ⟨b13, 1, none⟩))] _ ⟨.bool (decide ((p0.notes.length : Int) ≠ (p1.notes.length : Int))), .int .i64 (p1.notes.length : Int), v9, .pointer (some ⟨b18, 1, none⟩), .int .i64 (p0.notes.length : Int), v3, .pointer (some ⟨b13, 1, none⟩), Z, (by rw [g189, Bool.false_or])⟩
theorem wk_law15_ImageWrites (V : Vw) (Rs : List At) (gl : Glb V) (p0 : TImage) (v1 : Value) (v3 : Value) (v5 : Value) (f2 : Fz (RT.int .u32) V v1 p0.code) (f4 : Fz RT_TNote V v3 p0.notes) (f6 : Fz (RT.int .i64) V v5 p0.threads) (ow : Ow V (Rs)) (r : Bool) (h : law15_ImageWrites p0 = some r) : ∃ v V', Cl Tryd.prog NG 5 #[.agg #[v1, v3, v5]] V.H v V'.H ∧ V.le V' ∧ (v = .bool r ∧ Ow V' (Rs)) := by
 refine Ct.of gl.lo Tryd.func5 Z (nr Z) ?_
 unfold law15_ImageWrites at h
 refine WP.usreg Z ?_
 refine O.box ow Z Z (.inl Z) Z (L 0 Z Z) (by simp [topV]) Z nd (fun b7 V8 le9 ow10 => ?_)
 refine U.p Z Z (.inl Z) (S.assign Z K) ?_
 refine U.done (nr Z) ?_
 refine WP.seq ?_
 refine WP.usreg Z ?_
 obtain ⟨x12, hx13, h14⟩ := bindS h
 refine O.call (V := V8) Z Z (.inl Z) Z en6 aN (wk_law15_alive V8 _ (gl.up le9) ow10 _ hx13) (fun _ _ _ _ => nd) (fun v15 V16 le17 hp18 => ?_)
 obtain ⟨rfl, ow19⟩ := hp18
 refine U.p Z Z (.inl Z) (S.not Z (L 0 Z Z)) ?_
 refine U.done (nr Z) ?_
 refine WP.cond _ (L 0 Z Z) Z (fun c20 => ?_) (fun c20 => ?_)
 ·have h21 := ifT c20 h14
  have k22 : x12 = false := nT c20
  refine WP.usreg Z ?_
  refine U.p Z Z (.inl Z) (S.assign Z K) ?_
  refine U.done (nr Z) ?_
  refine WP.ret ?_
  refine sqR ?_
  refine fin.slot (.inr Z) Z (L 0 Z Z) ⟨V16, Z, (le9.trans le17), ?_⟩
  have ow23 := ow19.drop 0 Z
  have e24 := Option.some.inj h21
  subst e24
  exact ⟨rfl, ow23⟩
 ·have h25 := ifF c20 h14
  have k26 : x12 = true := nF c20
  refine WP.skip ?_
  refine sqN ?_
  refine WP.seq ?_
  refine WP.usreg Z ?_
  refine U.k Z Z (.inl Z) (S.loadB Z (L 3 Z Z) Tryd.underlying27 Z ti27 (ow19.own (k := 0) Z).get Z) nd ?_
  have f27 := f2.up (le9.trans le17)
  have f28 := f4.up (le9.trans le17)
  have f29 := f6.up (le9.trans le17)
  obtain ⟨x30, hx31, h32⟩ := bindS h25
  refine O.call (V := V16) Z Z (.inl Z) Z en11 (aC (L 0 Z Z) aN) (wk_law15_great V16 _ (gl.up (le9.trans le17)) p0 v1 v3 v5 f27 f28 f29 ow19 _ hx31) (fun _ _ _ _ => nd) (fun v33 V34 le35 hp36 => ?_)
  obtain ⟨rfl, ow37⟩ := hp36
  refine U.done (nr Z) ?_
  refine WP.cond _ (L 0 Z Z) Z (fun c38 => ?_) (fun c38 => ?_)
  ·have h39 := ifT c38 h32
   refine WP.usreg Z ?_
   refine U.p Z Z (.inl Z) (S.assign Z K) ?_
   refine U.done (nr Z) ?_
   refine WP.ret ?_
   refine sqR ?_
   refine fin.slot (.inr Z) Z (L 0 Z Z) ⟨V34, Z, ((le9.trans le17).trans le35), ?_⟩
   have ow40 := ow37.drop 0 Z
   have e41 := Option.some.inj h39
   subst e41
   exact ⟨rfl, ow40⟩
  ·have h42 := ifF c38 h32
   refine WP.skip ?_
   refine sqN ?_
   refine WP.usreg Z ?_
   refine U.k Z Z (.inl Z) (S.loadB Z (L 5 Z Z) Tryd.underlying27 Z ti27 (ow37.own (k := 0) Z).get Z) nd ?_
   have f43 := f27.up le35
   have f44 := f28.up le35
   have f45 := f29.up le35
   obtain ⟨x46, hx47, h48⟩ := bindS h42
   refine O.call (V := V34) Z Z (.inl Z) Z en12 (aC (L 0 Z Z) aN) (wk_ref15_Good V34 _ (gl.up ((le9.trans le17).trans le35)) p0 v1 v3 v5 f43 f44 f45 ow37 _ hx47) (fun _ _ _ _ => nd) (fun v49 V50 le51 hp52 => ?_)
   obtain ⟨rfl, ow53⟩ := hp52
   refine U.p Z Z (.inl Z) (S.assign Z (L 0 Z Z)) ?_
   refine U.done (nr Z) ?_
   refine WP.usreg Z ?_
   refine U.k Z Z (.inl Z) (S.loadB Z (L 8 Z Z) Tryd.underlying27 Z ti27 (ow53.own (k := 0) Z).get Z) nd ?_
   have f54 := f43.up le51
   have f55 := f44.up le51
   have f56 := f45.up le51
   obtain ⟨x57, hx58, h59⟩ := bindS h48
   refine O.call (V := V50) Z Z (.inl Z) Z en10 (aC (L 0 Z Z) aN) (wk_image_Encode V50 _ (gl.up (((le9.trans le17).trans le35).trans le51)) p0 v1 v3 v5 f54 f55 f56 ow53 _ hx58) (fun _ _ _ _ => nd) (fun v60 V61 le62 hp63 => ?_)
   obtain ⟨rfl, ow64⟩ := hp63
   refine U.p Z Z (.inl Z) (S.move Z (L 0 Z Z)) ?_
   refine U.p Z Z (.inl Z) (S.extract Z (L 0 Z Z) Z (nr Z)) ?_
   refine U.p Z Z (.inl Z) (S.extract Z (L 1 Z Z) Z (nr Z)) ?_
   refine U.p Z Z (.inl Z) (S.assign Z (L 1 Z Z)) ?_
   refine U.p Z Z (.inl Z) (S.assign Z (L 1 Z Z)) ?_
   refine U.done (nr Z) ?_
   refine WP.seq ?_
   refine WP.seqI (fun l V' => ∃ (x65 : Bool), l = [(1, .pointer (some ⟨b7, 0, none⟩)), (3, .bool x46), (4, .string x57.1), (5, .int .i64 x57.2), (29, .bool x65)] ∧ V61.le V' ∧ Ow V' (.pt b7 (.cells 0 [v1, v3, v5]) :: Rs) ∧ law15_ImageWrites_k1 p0 x46 x57 x65 = some r) ?_ ?_
   ·rintro _ V66 ⟨x65, rfl, le67, ow68, h69⟩
    unfold law15_ImageWrites_k1 at h69
    refine WP.cond _ (L 4 Z Z) Z (fun c70 => ?_) (fun c70 => ?_)
    ·have h71 := ifT c70 h69
     refine WP.usreg Z ?_
     refine U.p Z Z (.inl Z) (S.assign Z K) ?_
     refine U.done (nr Z) ?_
     refine WP.ret ?_
     refine sqR ?_
     refine fin.slot (.inr Z) Z (L 0 Z Z) ⟨V66, Z, (((((le9.trans le17).trans le35).trans le51).trans le62).trans le67), ?_⟩
     have ow72 := ow68.drop 0 Z
     have e73 := Option.some.inj h71
     subst e73
     exact ⟨rfl, ow72⟩
    ·have h74 := ifF c70 h69
     refine WP.skip ?_
     refine sqN ?_
     refine WP.seq ?_
     refine WP.usreg Z ?_
     refine U.p Z Z (.inl Z) (S.move Z (L 1 Z Z)) ?_
     refine U.p Z Z (.inl Z) (S.not Z (L 0 Z Z)) ?_
     refine U.done (nr Z) ?_
     refine WP.cond _ (L 0 Z Z) Z (fun c75 => ?_) (fun c75 => ?_)
     ·have h76 := ifT c75 h74
      have k77 : x46 = false := nT c75
      refine WP.usreg Z ?_
      refine U.p Z Z (.inl Z) (S.move Z (L 5 Z Z)) ?_
      refine U.p Z Z (.inl Z) (S.eqlI Z (L 0 Z Z) K) ?_
      refine U.p Z Z (.inl Z) (S.move Z (L 0 Z Z)) ?_
      refine U.joinX 6 (fun e H => ∃ (u78 u79 : Value), H = V66.H ∧ e = [(37, .bool ((decide (x57.2 = 1)) && (decide (x57.1 = ByteArray.empty)))), (36, u78), (35, u79)]) ?_ ?_
      ·rintro _ _ ⟨u78, u79, rfl, rfl⟩
       refine U.p Z Z (.inl Z) (S.assign Z (L 0 Z Z)) ?_
       refine U.done (nr Z) ?_
       refine WP.ret ?_
       refine sqR ?_
       refine fin.slot (.inr Z) Z (L 0 Z Z) ⟨V66, Z, (((((le9.trans le17).trans le35).trans le51).trans le62).trans le67), ?_⟩
       have ow83 := ow68.drop 0 Z
       have e84 := Option.some.inj h76
       subst e84
       exact ⟨rfl, ow83⟩
      ·intro kk
       refine bcase (b := decide (x57.2 = 1)) (fun g85 => ?_) (fun g85 => ?_)
       ·skip
        refine U.p Z Z (.inr ⟨_, _, _, Z, Z, ((L 0 Z Z).trans (cB g85))⟩) (S.move Z (L 7 Z Z)) ?_
        refine U.p Z Z (.inr ⟨_, _, _, Z, Z, ((L 1 Z Z).trans (cB g85))⟩) (S.eqlS Z (L 0 Z Z) K) ?_
        refine U.p Z Z (.inl Z) (S.pickT Z ((L 2 Z Z).trans (cB g85)) (L 0 Z Z)) ?_
        exact kk [(37, .bool (decide (x57.1 = ByteArray.empty))), (36, .bool (decide (x57.1 = ByteArray.empty))), (35, .string x57.1)] _ ⟨.bool (decide (x57.1 = ByteArray.empty)), .string x57.1, Z, (by rw [g85, Bool.true_and])⟩
       ·skip
        refine U.x Z Z Z Z ((L 0 Z Z).trans (cB g85)) (by decide) ?_
        refine U.x Z Z Z Z ((L 1 Z Z).trans (cB g85)) (by decide) ?_
        refine U.p Z Z (.inl Z) (S.pickF Z ((L 2 Z Z).trans (cB g85)) K) ?_
        exact kk [(37, .bool false), (36, .tuple #[]), (35, .tuple #[])] _ ⟨.tuple #[], .tuple #[], Z, (by rw [g85, Bool.false_and])⟩
     ·have h86 := ifF c75 h74
      have k87 : x46 = true := nF c75
      refine WP.skip ?_
      refine sqN ?_
      refine WP.usreg Z ?_
      refine U.p Z Z (.inl Z) (S.move Z (L 4 Z Z)) ?_
      obtain ⟨x88, hx89, h90⟩ := bindS h86
      refine O.call (V := V66) Z Z (.inl Z) Z en7 (aC (L 0 Z Z) aN) (wk_image_Decode V66 _ (gl.up (((((le9.trans le17).trans le35).trans le51).trans le62).trans le67)) x57.1 ow68 _ hx89) (fun _ _ _ _ => nd) (fun v91 V92 le93 hp94 => ?_)
      obtain ⟨v96, v98, v100, rfl, f97, f99, f101, ow95⟩ := hp94
      refine U.p Z Z (.inl Z) (S.move Z (L 0 Z Z)) ?_
      refine U.p Z Z (.inl Z) (S.extract Z (L 0 Z Z) Z (nr Z)) ?_
      refine U.p Z Z (.inl Z) (S.extract Z (L 1 Z Z) Z (nr Z)) ?_
      refine O.alloc ow95 Z Z (.inl Z) Z ti27 Z Z nd (fun b102 V103 le104 ow105 => ?_)
      refine O.store (k := 0) (cs := [v96, v98, v100]) (c' := [v96, v98, v100]) ow105 Z Z Z (.inl Z) Z (L 0 Z Z) (L 2 Z Z) ti27 (by simp [topV]) Z Z (nr Z) (by have q0 := f97.one; have q1 := f99.one; have q2 := f101.one; simp only [List.all_cons, List.all_nil, q0, q1, q2]; rfl) Z nd (fun V107 le108 ow109 => ?_)
      refine U.p Z Z (.inl Z) (S.assign Z (L 1 Z Z)) ?_
      refine U.done (nr Z) ?_
      refine WP.usreg Z ?_
      refine U.p Z Z (.inl Z) (S.move Z (L 12 Z Z)) ?_
      refine U.p Z Z (.inl Z) (S.eqlI Z (L 0 Z Z) K) ?_
      refine U.p Z Z (.inl Z) (S.move Z (L 0 Z Z)) ?_
      obtain ⟨y110, hy111, h112⟩ := bindS h90
      refine U.joinX 8 (fun e H => ∃ (u113 u114 u115 u116 : Value), ∃ V' : Vw, H = V'.H ∧ V107.le V' ∧ e = [(50, .bool y110), (49, u113), (48, u114), (47, u115), (46, u116)] ∧ Ow V' (.pt b102 (.cells 3 [v96, v98, v100]) :: .pt b7 (.cells 0 [v1, v3, v5]) :: Rs)) ?_ ?_
      ·rintro _ _ ⟨u113, u114, u115, u116, V117, rfl, le118, rfl, ow119⟩
       refine U.p Z Z (.inl Z) (S.move Z (L 0 Z Z)) ?_
       refine U.joinX 12 (fun e H => ∃ (u120 u121 : Value), H = V117.H ∧ e = [(54, .bool (y110 && (decide (x88.2 = 0)))), (53, u120), (52, u121)]) ?_ ?_
       ·rintro _ _ ⟨u120, u121, rfl, rfl⟩
        refine U.p Z Z (.inl Z) (S.move Z (L 0 Z Z)) ?_
        obtain ⟨y125, hy126, h127⟩ := bindS h112
        refine U.joinX 17 (fun e H => ∃ (u128 u129 u130 : Value), ∃ V' : Vw, H = V'.H ∧ V117.le V' ∧ e = [(59, .bool y125), (58, u128), (57, u129), (56, u130)] ∧ Ow V' (.pt b102 (.cells 3 [v96, v98, v100]) :: .pt b7 (.cells 0 [v1, v3, v5]) :: Rs)) ?_ ?_
        ·rintro _ _ ⟨u128, u129, u130, V131, rfl, le132, rfl, ow133⟩
         refine U.p Z Z (.inl Z) (S.assign Z (L 0 Z Z)) ?_
         refine U.done (nr Z) ?_
         refine WP.ret ?_
         refine fin.slot (.inr Z) Z (L 0 Z Z) ⟨V131, Z, ((((((((((le9.trans le17).trans le35).trans le51).trans le62).trans le67).trans le93).trans le104).trans le108).trans le118).trans le132), ?_⟩
         have ow134 := ow133.drop 0 Z
         have ow135 := ow134.drop 0 Z
         have e136 := Option.some.inj h127
         subst e136
         exact ⟨rfl, ow135⟩
        ·intro kk
         refine bcase (b := y110 && (decide (x88.2 = 0))) (fun g137 => ?_) (fun g137 => ?_)
         ·have h138 := ifT g137 hy126
          refine U.k Z Z (.inr ⟨_, _, _, Z, Z, ((L 0 Z Z).trans (cB g137))⟩) (S.loadB Z (L 22 Z Z) Tryd.underlying27 Z ti27 (ow119.own (k := 1) Z).get Z) nd ?_
          refine U.k Z Z (.inr ⟨_, _, _, Z, Z, ((L 1 Z Z).trans (cB g137))⟩) (S.loadB Z (L 15 Z Z) Tryd.underlying27 Z ti27 (ow119.own (k := 0) Z).get Z) nd ?_
          have f139 := f54.up (((((le62.trans le67).trans le93).trans le104).trans le108).trans le118)
          have f140 := f55.up (((((le62.trans le67).trans le93).trans le104).trans le108).trans le118)
          have f141 := f56.up (((((le62.trans le67).trans le93).trans le104).trans le108).trans le118)
          have f142 := f97.up ((le104.trans le108).trans le118)
          have f143 := f99.up ((le104.trans le108).trans le118)
          have f144 := f101.up ((le104.trans le108).trans le118)
          obtain ⟨x145, hx146, h147⟩ := bindS h138
          refine O.call (V := V117) Z Z (.inr ⟨_, _, _, Z, Z, ((L 2 Z Z).trans (cB g137))⟩) Z en9 (aC (L 1 Z Z) (aC (L 0 Z Z) aN)) (wk_ref15_Same V117 _ (gl.up (((((((((le9.trans le17).trans le35).trans le51).trans le62).trans le67).trans le93).trans le104).trans le108).trans le118)) p0 x88.1 v1 v3 v5 v96 v98 v100 f139 f140 f141 f142 f143 f144 ow119 _ hx146) (fun _ _ _ _ => nd) (fun v148 V149 le150 hp151 => ?_)
          obtain ⟨rfl, ow152⟩ := hp151
          refine U.p Z Z (.inl Z) (S.pickT Z ((L 3 Z Z).trans (cB g137)) (L 0 Z Z)) ?_
          have e153 := Option.some.inj h147
          subst e153
          exact kk [(59, .bool x145), (58, .bool x145), (57, .agg #[v96, v98, v100]), (56, .agg #[v1, v3, v5])] _ ⟨.bool x145, .agg #[v96, v98, v100], .agg #[v1, v3, v5], V149, Z, le150, Z, ow152⟩
         ·have h154 := ifF g137 hy126
          refine U.x Z Z Z Z ((L 0 Z Z).trans (cB g137)) (by decide) ?_
          refine U.x Z Z Z Z ((L 1 Z Z).trans (cB g137)) (by decide) ?_
          refine U.x Z Z Z Z ((L 2 Z Z).trans (cB g137)) (by decide) ?_
          refine U.p Z Z (.inl Z) (S.pickF Z ((L 3 Z Z).trans (cB g137)) K) ?_
          have e155 := Option.some.inj h154
          subst e155
          exact kk [(59, .bool false), (58, .tuple #[]), (57, .tuple #[]), (56, .tuple #[])] _ ⟨.tuple #[], .tuple #[], .tuple #[], V117, Z, (.refl _), Z, ow119⟩
       ·intro kk
        refine bcase (b := y110) (fun g156 => ?_) (fun g156 => ?_)
        ·skip
         refine U.p Z Z (.inr ⟨_, _, _, Z, Z, ((L 0 Z Z).trans (cB g156))⟩) (S.move Z (L 9 Z Z)) ?_
         refine U.p Z Z (.inr ⟨_, _, _, Z, Z, ((L 1 Z Z).trans (cB g156))⟩) (S.eqlI Z (L 0 Z Z) K) ?_
         refine U.p Z Z (.inl Z) (S.pickT Z ((L 2 Z Z).trans (cB g156)) (L 0 Z Z)) ?_
         exact kk [(54, .bool (decide (x88.2 = 0))), (53, .bool (decide (x88.2 = 0))), (52, .int .i64 x88.2)] _ ⟨.bool (decide (x88.2 = 0)), .int .i64 x88.2, Z, (by rw [g156, Bool.true_and])⟩
        ·skip
         refine U.x Z Z Z Z ((L 0 Z Z).trans (cB g156)) (by decide) ?_
         refine U.x Z Z Z Z ((L 1 Z Z).trans (cB g156)) (by decide) ?_
         refine U.p Z Z (.inl Z) (S.pickF Z ((L 2 Z Z).trans (cB g156)) K) ?_
         exact kk [(54, .bool false), (53, .tuple #[]), (52, .tuple #[])] _ ⟨.tuple #[], .tuple #[], Z, (by rw [g156, Bool.false_and])⟩
      ·intro kk
       refine bcase (b := decide (x57.2 = 0)) (fun g157 => ?_) (fun g157 => ?_)
       ·have h158 := ifT g157 hy111
        refine U.p Z Z (.inr ⟨_, _, _, Z, Z, ((L 0 Z Z).trans (cB g157))⟩) (S.move Z (L 14 Z Z)) ?_
        refine U.k Z Z (.inr ⟨_, _, _, Z, Z, ((L 1 Z Z).trans (cB g157))⟩) (S.loadB Z (L 13 Z Z) Tryd.underlying27 Z ti27 (ow109.own (k := 1) Z).get Z) nd ?_
        have f159 := f54.up ((((le62.trans le67).trans le93).trans le104).trans le108)
        have f160 := f55.up ((((le62.trans le67).trans le93).trans le104).trans le108)
        have f161 := f56.up ((((le62.trans le67).trans le93).trans le104).trans le108)
        obtain ⟨x162, hx163, h164⟩ := bindS h158
        refine O.call (V := V107) Z Z (.inr ⟨_, _, _, Z, Z, ((L 2 Z Z).trans (cB g157))⟩) Z en16 (aC (L 0 Z Z) aN) (wk_ref15_Bytes V107 _ (gl.up ((((((((le9.trans le17).trans le35).trans le51).trans le62).trans le67).trans le93).trans le104).trans le108)) p0 v1 v3 v5 f159 f160 f161 ow109 _ hx163) (fun _ _ _ _ => nd) (fun v165 V166 le167 hp168 => ?_)
        obtain ⟨rfl, ow169⟩ := hp168
        refine U.p Z Z (.inr ⟨_, _, _, Z, Z, ((L 3 Z Z).trans (cB g157))⟩) (S.eqlS Z (L 2 Z Z) (L 0 Z Z)) ?_
        refine U.p Z Z (.inl Z) (S.pickT Z ((L 4 Z Z).trans (cB g157)) (L 0 Z Z)) ?_
        have e170 := Option.some.inj h164
        subst e170
        exact kk [(50, .bool (decide (x57.1 = x162))), (49, .bool (decide (x57.1 = x162))), (48, .string x162), (47, .agg #[v1, v3, v5]), (46, .string x57.1)] _ ⟨.bool (decide (x57.1 = x162)), .string x162, .agg #[v1, v3, v5], .string x57.1, V166, Z, le167, Z, ow169⟩
       ·have h171 := ifF g157 hy111
        refine U.x Z Z Z Z ((L 0 Z Z).trans (cB g157)) (by decide) ?_
        refine U.x Z Z Z Z ((L 1 Z Z).trans (cB g157)) (by decide) ?_
        refine U.x Z Z Z Z ((L 2 Z Z).trans (cB g157)) (by decide) ?_
        refine U.x Z Z Z Z ((L 3 Z Z).trans (cB g157)) (by decide) ?_
        refine U.p Z Z (.inl Z) (S.pickF Z ((L 4 Z Z).trans (cB g157)) K) ?_
        have e172 := Option.some.inj h171
        subst e172
        exact kk [(50, .bool false), (49, .tuple #[]), (48, .tuple #[]), (47, .tuple #[]), (46, .tuple #[])] _ ⟨.tuple #[], .tuple #[], .tuple #[], .tuple #[], V107, Z, (.refl _), Z, ow109⟩
   ·skip
    refine WP.udreg Z Z Z ?_
    refine U.k Z Z (.inl Z) (S.loadB Z (L 15 Z Z) Tryd.underlying27 Z ti27 (ow64.own (k := 0) Z).get Z) (fun _ => (okH.nil (fun r h => by cases h; exact (ow64.own (k := 0) Z).lt))) ?_
    have f173 := f54.up le62
    have f174 := f55.up le62
    have f175 := f56.up le62
    obtain ⟨x176, hx177, h178⟩ := bindS h59
    refine O.call (V := V61) Z Z (.inl Z) Z en13 (aC (L 0 Z Z) aN) (wk_image_Good V61 _ (gl.up ((((le9.trans le17).trans le35).trans le51).trans le62)) p0 v1 v3 v5 f173 f174 f175 ow64 _ hx177) (fun v179 V180 le181 hp182 => by obtain ⟨rfl, ow183⟩ := hp182; exact (fun _ => (okH.cons (Or.inl Z) (okH.nil (fun r h => nomatch h))))) (fun v179 V180 le181 hp182 => ?_)
    obtain ⟨rfl, ow183⟩ := hp182
    refine U.p Z Z (.inl Z) (S.move Z (L 9 Z Z)) ?_
    refine U.p Z Z (.inl Z) (S.neqB Z (L 1 Z Z) (L 0 Z Z) Tryd.underlying4) ?_
    refine U.p Z Z (.inl Z) (S.move Z (L 0 Z Z)) ?_
    refine bcase (b := !(x176 == x46)) (fun g184 => ?_) (fun g184 => ?_)
    ·have h185 := ifT g184 h178
     have k186 : (x176 == x46) = false := nT g184
     refine U.x Z Z Z Z ((L 0 Z Z).trans (cB g184)) (by decide) ?_
     refine U.x Z Z Z Z ((L 1 Z Z).trans (cB g184)) (by decide) ?_
     refine U.x Z Z Z Z ((L 2 Z Z).trans (cB g184)) (by decide) ?_
     refine U.x Z Z Z Z ((L 3 Z Z).trans (cB g184)) (by decide) ?_
     refine U.x Z Z Z Z ((L 4 Z Z).trans (cB g184)) (by decide) ?_
     refine U.p Z Z (.inl Z) (S.pickT Z ((L 5 Z Z).trans (cB g184)) K) ?_
     refine U.done (nr Z) ?_
     refine sqN ?_
     exact ⟨_, V180, Z, ⟨true, Z, le181, ow183, h185⟩, (allCons (L 26 Z Z) (allCons (L 18 Z Z) (allCons (L 12 Z Z) (allCons (L 11 Z Z) (allCons (L 0 Z Z) allNil)))))⟩
    ·have h187 := ifF g184 h178
     have k188 : (x176 == x46) = true := nF g184
     refine U.k Z Z (.inr ⟨_, _, _, Z, Z, ((L 0 Z Z).trans (cB g184))⟩) (S.loadB Z (L 20 Z Z) Tryd.underlying27 Z ti27 (ow183.own (k := 0) Z).get Z) (fun _ => (okH.cons (Or.inl Z) (okH.cons trivial (okH.nil (fun r h => by cases h; exact (ow183.own (k := 0) Z).lt))))) ?_
     have f189 := f173.up le181
     have f190 := f174.up le181
     have f191 := f175.up le181
     obtain ⟨x192, hx193, h194⟩ := bindS h187
     refine O.call (V := V180) Z Z (.inr ⟨_, _, _, Z, Z, ((L 1 Z Z).trans (cB g184))⟩) Z en14 (aC (L 0 Z Z) aN) (wk_image_List V180 _ (gl.up (((((le9.trans le17).trans le35).trans le51).trans le62).trans le181)) p0 v1 v3 v5 f189 f190 f191 ow183 _ hx193) (fun v195 V196 le197 hp198 => by obtain ⟨rfl, ow199⟩ := hp198; exact (fun _ => (okH.cons (Or.inl Z) (okH.cons Z (okH.cons (Or.inl Z) (okH.nil (fun r h => nomatch h))))))) (fun v195 V196 le197 hp198 => ?_)
     obtain ⟨rfl, ow199⟩ := hp198
     refine U.k Z Z (.inr ⟨_, _, _, Z, Z, ((L 2 Z Z).trans (cB g184))⟩) (S.loadB Z (L 22 Z Z) Tryd.underlying27 Z ti27 (ow199.own (k := 0) Z).get Z) (fun _ => (okH.cons (Or.inr (Or.inl ((ow199.own (k := 0) Z).get.trans (ow183.own (k := 0) Z).get.symm))) (okH.cons trivial (okH.cons (Or.inl Z) (okH.cons trivial (okH.nil (fun r h => by cases h; exact (ow199.own (k := 0) Z).lt))))))) ?_
     have f200 := f189.up le197
     have f201 := f190.up le197
     have f202 := f191.up le197
     obtain ⟨x203, hx204, h205⟩ := bindS h194
     refine O.call (V := V196) Z Z (.inr ⟨_, _, _, Z, Z, ((L 3 Z Z).trans (cB g184))⟩) Z en15 (aC (L 0 Z Z) aN) (wk_ref15_List V196 _ (gl.up ((((((le9.trans le17).trans le35).trans le51).trans le62).trans le181).trans le197)) p0 v1 v3 v5 f200 f201 f202 ow199 _ hx204) (fun v206 V207 le208 hp209 => by obtain ⟨rfl, ow210⟩ := hp209; exact (fun _ => (okH.cons (Or.inl Z) (okH.cons Z (okH.cons (Or.inl Z) (okH.cons Z (okH.cons (Or.inl Z) (okH.nil (fun r h => nomatch h))))))))) (fun v206 V207 le208 hp209 => ?_)
     obtain ⟨rfl, ow210⟩ := hp209
     refine U.p Z Z (.inr ⟨_, _, _, Z, Z, ((L 4 Z Z).trans (cB g184))⟩) (S.neqS Z (L 2 Z Z) (L 0 Z Z)) ?_
     refine U.p Z Z (.inl Z) (S.pickF Z ((L 5 Z Z).trans (cB g184)) (L 0 Z Z)) ?_
     refine U.done (nr Z) ?_
     refine sqN ?_
     exact ⟨_, V207, Z, ⟨decide (x192 ≠ x203), Z, ((le181.trans le197).trans le208), ow210, h205⟩, (allCons (L 26 Z Z) (allCons (L 18 Z Z) (allCons (L 12 Z Z) (allCons (L 11 Z Z) (allCons (L 0 Z Z) allNil)))))⟩
end Go.Vm.G15w
