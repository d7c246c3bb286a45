/-
  What the functions compute is what the plain ones say, for all inputs at which those answer.
-/
import Derived.Test.YtipebnimgbigoaaDoorEWG02
set_option linter.unusedSimpArgs false
set_option linter.unusedVariables false
namespace Go.Vm.G02
open Go Go.Proofs
set_option maxHeartbeats 4000000 in
set_option maxRecDepth 10000 in
theorem wk_ref02_Good (V : Vw) (Rs : List At) (gl : Glb V) (p0 : TInst) (ow : Ow V (Rs)) (r : Bool) (h : ref02_Good p0 = some r) : ∃ v V', Cl Tryd.prog NG 16 #[.agg #[.int .i64 p0.op, .int .i64 p0.d, .int .i64 p0.a, .int .i64 p0.b, .int .i64 p0.imm]] V.H v V'.H ∧ V.le V' ∧ (v = .bool r ∧ Ow V' (Rs)) := by
 refine Ct.of gl.lo Tryd.func16 rfl (nr rfl) ?_
 unfold ref02_Good at h
 refine WP.usreg rfl ?_
 refine O.box ow rfl rfl (.inl rfl) rfl (L 0 rfl rfl) (by simp [topV]) rfl nd (fun b1 V2 le3 ow4 => ?_)
 refine U.p rfl rfl (.inl rfl) (S.assign rfl K) ?_
 refine U.done (nr rfl) ?_
 refine WP.usreg rfl ?_
 refine U.p (v := .pointer (some ⟨b1, 0, none⟩)) rfl rfl (.inl rfl) (S.fieldAddr rfl (L 1 rfl rfl) Tryd.underlying25 rfl ti3 rfl rfl) ?_
 refine U.k rfl rfl (.inl rfl) (S.load rfl (L 0 rfl rfl) Tryd.underlying3 rfl ((ow4.own (k := 0) rfl).cell rfl)) nd ?_
 obtain ⟨x6, hx7, h8⟩ := bindS h
 refine O.call (V := V2) rfl rfl (.inl rfl) rfl en15 (aC (L 0 rfl rfl) aN) (wk_ref02_Of V2 _ (gl.up le3) p0.op ow4 _ hx7) (fun _ _ _ _ => nd) (fun v9 V10 le11 hp12 => ?_)
 obtain ⟨rfl, ow13⟩ := hp12
 refine U.p rfl rfl (.inl rfl) (S.move rfl (L 0 rfl rfl)) ?_
 refine U.p rfl rfl (.inl rfl) (S.extract rfl (L 0 rfl rfl) rfl (nr rfl)) ?_
 refine U.p rfl rfl (.inl rfl) (S.extract rfl (L 1 rfl rfl) rfl (nr rfl)) ?_
 refine O.alloc ow13 rfl rfl (.inl rfl) rfl ti37 rfl rfl nd (fun b14 V15 le16 ow17 => ?_)
 refine O.store (k := 0) (cs := [.string x6.1.name, .bool x6.1.d, .bool x6.1.a, .bool x6.1.b, .int .i64 x6.1.imm, .int .u32 x6.1.word]) (c' := [.string x6.1.name, .bool x6.1.d, .bool x6.1.a, .bool x6.1.b, .int .i64 x6.1.imm, .int .u32 x6.1.word]) ow17 rfl rfl rfl (.inl rfl) rfl (L 0 rfl rfl) (L 2 rfl rfl) ti37 (by simp [topV]) rfl rfl (nr rfl) rfl rfl nd (fun V19 le20 ow21 => ?_)
 refine U.p rfl rfl (.inl rfl) (S.assign rfl (L 1 rfl rfl)) ?_
 refine U.done (nr rfl) ?_
 refine WP.seq ?_
 refine WP.usreg rfl ?_
 refine U.p rfl rfl (.inl rfl) (S.move rfl (L 0 rfl rfl)) ?_
 refine U.p rfl rfl (.inl rfl) (S.not rfl (L 0 rfl rfl)) ?_
 refine U.p rfl rfl (.inl rfl) (S.move rfl (L 0 rfl rfl)) ?_
 obtain ⟨y22, hy23, h24⟩ := bindS h8
 refine U.joinX 10 (fun e H => ∃ (u25 u26 u27 u28 u29 u30 : Value), ∃ V' : Vw, H = V'.H ∧ V19.le V' ∧ e = [(20, .bool y22), (19, u25), (18, u26), (17, u27), (16, u28), (15, u29), (14, u30)] ∧ Ow V' (.pt b14 (.cells 6 [.string x6.1.name, .bool x6.1.d, .bool x6.1.a, .bool x6.1.b, .int .i64 x6.1.imm, .int .u32 x6.1.word]) :: .pt b1 (.cells 0 [.int .i64 p0.op, .int .i64 p0.d, .int .i64 p0.a, .int .i64 p0.b, .int .i64 p0.imm]) :: Rs)) ?_ ?_
 ·rintro _ _ ⟨u25, u26, u27, u28, u29, u30, V31, rfl, le32, rfl, ow33⟩
  refine U.p rfl rfl (.inl rfl) (S.move rfl (L 0 rfl rfl)) ?_
  obtain ⟨y34, hy35, h36⟩ := bindS h24
  refine U.joinX 18 (fun e H => ∃ (u37 u38 u39 u40 u41 u42 : Value), ∃ V' : Vw, H = V'.H ∧ V31.le V' ∧ e = [(28, .bool y34), (27, u37), (26, u38), (25, u39), (24, u40), (23, u41), (22, u42)] ∧ Ow V' (.pt b14 (.cells 6 [.string x6.1.name, .bool x6.1.d, .bool x6.1.a, .bool x6.1.b, .int .i64 x6.1.imm, .int .u32 x6.1.word]) :: .pt b1 (.cells 0 [.int .i64 p0.op, .int .i64 p0.d, .int .i64 p0.a, .int .i64 p0.b, .int .i64 p0.imm]) :: Rs)) ?_ ?_
  ·rintro _ _ ⟨u37, u38, u39, u40, u41, u42, V43, rfl, le44, rfl, ow45⟩
   refine U.p rfl rfl (.inl rfl) (S.move rfl (L 0 rfl rfl)) ?_
   obtain ⟨y46, hy47, h48⟩ := bindS h36
   refine U.joinX 26 (fun e H => ∃ (u49 u50 u51 u52 u53 u54 : Value), ∃ V' : Vw, H = V'.H ∧ V43.le V' ∧ e = [(36, .bool y46), (35, u49), (34, u50), (33, u51), (32, u52), (31, u53), (30, u54)] ∧ Ow V' (.pt b14 (.cells 6 [.string x6.1.name, .bool x6.1.d, .bool x6.1.a, .bool x6.1.b, .int .i64 x6.1.imm, .int .u32 x6.1.word]) :: .pt b1 (.cells 0 [.int .i64 p0.op, .int .i64 p0.d, .int .i64 p0.a, .int .i64 p0.b, .int .i64 p0.imm]) :: Rs)) ?_ ?_
   ·rintro _ _ ⟨u49, u50, u51, u52, u53, u54, V55, rfl, le56, rfl, ow57⟩
    refine U.done (nr rfl) ?_
    refine WP.cond _ (L 0 rfl rfl) rfl (fun c58 => ?_) (fun c58 => ?_)
    ·have h59 := ifT c58 h48
     refine WP.usreg rfl ?_
     refine U.p rfl rfl (.inl rfl) (S.assign rfl K) ?_
     refine U.done (nr rfl) ?_
     refine WP.ret ?_
     refine sqR ?_
     refine fin.slot (.inr rfl) rfl (L 0 rfl rfl) ⟨V55, rfl, ((((((le3.trans le11).trans le16).trans le20).trans le32).trans le44).trans le56), ?_⟩
     have ow60 := ow57.drop 0 rfl
     have ow61 := ow60.drop 0 rfl
     have e62 := Option.some.inj h59
     subst e62
     exact ⟨rfl, ow61⟩
    ·have h63 := ifF c58 h48
     refine WP.skip ?_
     refine sqN ?_
     refine WP.seq ?_
     refine WP.usreg rfl ?_
     refine U.p (v := .pointer (some ⟨b1, 0, none⟩)) rfl rfl (.inl rfl) (S.fieldAddr rfl (L 35 rfl rfl) Tryd.underlying25 rfl ti3 rfl rfl) ?_
     refine U.k rfl rfl (.inl rfl) (S.load rfl (L 0 rfl rfl) Tryd.underlying3 rfl ((ow57.own (k := 1) rfl).cell rfl)) nd ?_
     refine U.p rfl rfl (.inl rfl) (S.eqlI rfl (L 0 rfl rfl) K) ?_
     refine U.p rfl rfl (.inl rfl) (S.move rfl (L 0 rfl rfl)) ?_
     refine U.joinX 18 (fun e H => ∃ (u64 u65 u66 u67 u68 u69 u70 u71 u72 u73 u74 u75 u76 : Value), H = V55.H ∧ e = [(54, .bool ((decide (p0.op = 10)) && (((decide (p0.d ≠ 4)) && (decide (p0.d ≠ 12))) || (decide (2 < p0.a))))), (53, u64), (52, u65), (51, u66), (50, u67), (49, u68), (48, u69), (47, u70), (46, u71), (45, u72), (44, u73), (43, u74), (42, u75), (41, u76)]) ?_ ?_
     ·rintro _ _ ⟨u64, u65, u66, u67, u68, u69, u70, u71, u72, u73, u74, u75, u76, rfl, rfl⟩
      refine U.p rfl rfl (.inl rfl) (S.move rfl (L 0 rfl rfl)) ?_
      refine U.joinX 28 (fun e H => ∃ (u80 u81 u82 u83 u84 u85 u86 u87 : Value), H = V55.H ∧ e = [(64, .bool (((decide (p0.op = 10)) && (((decide (p0.d ≠ 4)) && (decide (p0.d ≠ 12))) || (decide (2 < p0.a)))) || ((decide (p0.op = 21)) && (decide (p0.imm < 0))))), (63, u80), (62, u81), (61, u82), (60, u83), (59, u84), (58, u85), (57, u86), (56, u87)]) ?_ ?_
      ·rintro _ _ ⟨u80, u81, u82, u83, u84, u85, u86, u87, rfl, rfl⟩
       refine U.done (nr rfl) ?_
       refine WP.cond _ (L 0 rfl rfl) rfl (fun c91 => ?_) (fun c91 => ?_)
       ·have h92 := ifT c91 h63
        refine WP.usreg rfl ?_
        refine U.p rfl rfl (.inl rfl) (S.assign rfl K) ?_
        refine U.done (nr rfl) ?_
        refine WP.ret ?_
        refine sqR ?_
        refine fin.slot (.inr rfl) rfl (L 0 rfl rfl) ⟨V55, rfl, ((((((le3.trans le11).trans le16).trans le20).trans le32).trans le44).trans le56), ?_⟩
        have ow93 := ow57.drop 0 rfl
        have ow94 := ow93.drop 0 rfl
        have e95 := Option.some.inj h92
        subst e95
        exact ⟨rfl, ow94⟩
       ·have h96 := ifF c91 h63
        refine WP.skip ?_
        refine sqN ?_
        refine WP.seq ?_
        refine WP.usreg rfl ?_
        refine U.p (v := .pointer (some ⟨b14, 4, none⟩)) rfl rfl (.inl rfl) (S.fieldAddr rfl (L 55 rfl rfl) Tryd.underlying37 rfl ti3 rfl rfl) ?_
        refine U.k rfl rfl (.inl rfl) (S.load rfl (L 0 rfl rfl) Tryd.underlying3 rfl ((ow57.own (k := 0) rfl).cell rfl)) nd ?_
        refine U.done (nr rfl) ?_
        refine WP.blk ?_
        refine WP.usreg rfl ?_
        refine U.p rfl rfl (.inl rfl) (S.eqlI rfl (L 0 rfl rfl) K) ?_
        refine U.p rfl rfl (.inl rfl) (S.assign rfl (L 0 rfl rfl)) ?_
        refine U.done (nr rfl) ?_
        refine WP.cond _ (L 0 rfl rfl) rfl (fun c97 => ?_) (fun c97 => ?_)
        ·have h98 := ifT c97 h96
         refine WP.usreg rfl ?_
         refine U.p (v := .pointer (some ⟨b1, 4, none⟩)) rfl rfl (.inl rfl) (S.fieldAddr rfl (L 67 rfl rfl) Tryd.underlying25 rfl ti3 rfl rfl) ?_
         refine U.k rfl rfl (.inl rfl) (S.load rfl (L 0 rfl rfl) Tryd.underlying3 rfl ((ow57.own (k := 1) rfl).cell rfl)) nd ?_
         refine U.p rfl rfl (.inl rfl) (S.eqlI rfl (L 0 rfl rfl) K) ?_
         refine U.p rfl rfl (.inl rfl) (S.assign rfl (L 0 rfl rfl)) ?_
         refine U.done (nr rfl) ?_
         refine WP.ret ?_
         refine blkR (sqR ?_)
         refine fin.slot (.inr rfl) rfl (L 0 rfl rfl) ⟨V55, rfl, ((((((le3.trans le11).trans le16).trans le20).trans le32).trans le44).trans le56), ?_⟩
         have ow99 := ow57.drop 0 rfl
         have ow100 := ow99.drop 0 rfl
         have e101 := Option.some.inj h98
         subst e101
         exact ⟨rfl, ow100⟩
        ·have h102 := ifF c97 h96
         refine WP.usreg rfl ?_
         refine U.p rfl rfl (.inl rfl) (S.eqlI rfl (L 2 rfl rfl) K) ?_
         refine U.p rfl rfl (.inl rfl) (S.assign rfl (L 0 rfl rfl)) ?_
         refine U.done (nr rfl) ?_
         refine WP.cond _ (L 0 rfl rfl) rfl (fun c103 => ?_) (fun c103 => ?_)
         ·have h104 := ifT c103 h102
          refine WP.usreg rfl ?_
          refine U.p (v := .pointer (some ⟨b1, 4, none⟩)) rfl rfl (.inl rfl) (S.fieldAddr rfl (L 69 rfl rfl) Tryd.underlying25 rfl ti3 rfl rfl) ?_
          refine U.k rfl rfl (.inl rfl) (S.load rfl (L 0 rfl rfl) Tryd.underlying3 rfl ((ow57.own (k := 1) rfl).cell rfl)) nd ?_
          obtain ⟨x105, hx106, h107⟩ := bindS h104
          refine U.p rfl rfl (.inl rfl) (S.rem hx106 rfl (L 0 rfl rfl) K) ?_
          refine U.p rfl rfl (.inl rfl) (S.eqlI rfl (L 0 rfl rfl) K) ?_
          refine U.p rfl rfl (.inl rfl) (S.move rfl (L 0 rfl rfl)) ?_
          obtain ⟨y108, hy109, h110⟩ := bindS h107
          refine U.joinX 9 (fun e H => ∃ (u111 u112 u113 : Value), ∃ V' : Vw, H = V'.H ∧ V55.le V' ∧ e = [(82, .bool y108), (81, u111), (80, u112), (79, u113)] ∧ Ow V' (.pt b14 (.cells 6 [.string x6.1.name, .bool x6.1.d, .bool x6.1.a, .bool x6.1.b, .int .i64 x6.1.imm, .int .u32 x6.1.word]) :: .pt b1 (.cells 0 [.int .i64 p0.op, .int .i64 p0.d, .int .i64 p0.a, .int .i64 p0.b, .int .i64 p0.imm]) :: Rs)) ?_ ?_
          ·rintro _ _ ⟨u111, u112, u113, V114, rfl, le115, rfl, ow116⟩
           refine U.p rfl rfl (.inl rfl) (S.assign rfl (L 0 rfl rfl)) ?_
           refine U.done (nr rfl) ?_
           refine WP.ret ?_
           refine blkR (sqR ?_)
           refine fin.slot (.inr rfl) rfl (L 0 rfl rfl) ⟨V114, rfl, (((((((le3.trans le11).trans le16).trans le20).trans le32).trans le44).trans le56).trans le115), ?_⟩
           have ow117 := ow116.drop 0 rfl
           have ow118 := ow117.drop 0 rfl
           have e119 := Option.some.inj h110
           subst e119
           exact ⟨rfl, ow118⟩
          ·intro kk
           refine bcase (b := decide (x105 = 0)) (fun g120 => ?_) (fun g120 => ?_)
           ·have h121 := ifT g120 hy109
            refine U.p (v := .pointer (some ⟨b1, 4, none⟩)) rfl rfl (.inr ⟨_, _, _, rfl, rfl, ((L 0 rfl rfl).trans (congrArg Value.bool g120))⟩) (S.fieldAddr rfl (L 74 rfl rfl) Tryd.underlying25 rfl ti3 rfl rfl) ?_
            refine U.k rfl rfl (.inr ⟨_, _, _, rfl, rfl, ((L 1 rfl rfl).trans (congrArg Value.bool g120))⟩) (S.load rfl (L 0 rfl rfl) Tryd.underlying3 rfl ((ow57.own (k := 1) rfl).cell rfl)) nd ?_
            obtain ⟨x122, hx123, h124⟩ := bindS h121
            refine O.call (V := V55) rfl rfl (.inr ⟨_, _, _, rfl, rfl, ((L 2 rfl rfl).trans (congrArg Value.bool g120))⟩) rfl en33 (aC (L 0 rfl rfl) (aC K aN)) (wk_ref01_Fits V55 _ (gl.up ((((((le3.trans le11).trans le16).trans le20).trans le32).trans le44).trans le56)) p0.imm 16 ow57 _ hx123) (fun _ _ _ _ => nd) (fun v125 V126 le127 hp128 => ?_)
            obtain ⟨rfl, ow129⟩ := hp128
            refine U.p rfl rfl (.inl rfl) (S.pickT rfl ((L 3 rfl rfl).trans (congrArg Value.bool g120)) (L 0 rfl rfl)) ?_
            have e130 := Option.some.inj h124
            subst e130
            exact kk [(82, .bool x122), (81, .bool x122), (80, .int .i64 p0.imm), (79, .pointer (some ⟨b1, 4, none⟩))] _ ⟨.bool x122, .int .i64 p0.imm, .pointer (some ⟨b1, 4, none⟩), V126, rfl, le127, rfl, ow129⟩
           ·have h131 := ifF g120 hy109
            refine U.x rfl rfl rfl rfl ((L 0 rfl rfl).trans (congrArg Value.bool g120)) (by decide) ?_
            refine U.x rfl rfl rfl rfl ((L 1 rfl rfl).trans (congrArg Value.bool g120)) (by decide) ?_
            refine U.x rfl rfl rfl rfl ((L 2 rfl rfl).trans (congrArg Value.bool g120)) (by decide) ?_
            refine U.p rfl rfl (.inl rfl) (S.pickF rfl ((L 3 rfl rfl).trans (congrArg Value.bool g120)) K) ?_
            have e132 := Option.some.inj h131
            subst e132
            exact kk [(82, .bool false), (81, .tuple #[]), (80, .tuple #[]), (79, .tuple #[])] _ ⟨.tuple #[], .tuple #[], .tuple #[], V55, rfl, (.refl _), rfl, ow57⟩
         ·have h133 := ifF c103 h102
          refine WP.skip ?_
          refine blkN (sqN ?_)
          refine WP.usreg rfl ?_
          refine U.p (v := .pointer (some ⟨b1, 4, none⟩)) rfl rfl (.inl rfl) (S.fieldAddr rfl (L 69 rfl rfl) Tryd.underlying25 rfl ti3 rfl rfl) ?_
          refine U.k rfl rfl (.inl rfl) (S.load rfl (L 0 rfl rfl) Tryd.underlying3 rfl ((ow57.own (k := 1) rfl).cell rfl)) nd ?_
          refine U.p (v := .pointer (some ⟨b14, 4, none⟩)) rfl rfl (.inl rfl) (S.fieldAddr rfl (L 63 rfl rfl) Tryd.underlying37 rfl ti3 rfl rfl) ?_
          refine U.k rfl rfl (.inl rfl) (S.load rfl (L 0 rfl rfl) Tryd.underlying3 rfl ((ow57.own (k := 0) rfl).cell rfl)) nd ?_
          obtain ⟨x134, hx135, h136⟩ := bindS h133
          refine O.call (V := V55) rfl rfl (.inl rfl) rfl en33 (aC (L 2 rfl rfl) (aC (L 0 rfl rfl) aN)) (wk_ref01_Fits V55 _ (gl.up ((((((le3.trans le11).trans le16).trans le20).trans le32).trans le44).trans le56)) p0.imm x6.1.imm ow57 _ hx135) (fun _ _ _ _ => nd) (fun v137 V138 le139 hp140 => ?_)
          obtain ⟨rfl, ow141⟩ := hp140
          refine U.p rfl rfl (.inl rfl) (S.assign rfl (L 0 rfl rfl)) ?_
          refine U.done (nr rfl) ?_
          refine WP.ret ?_
          refine fin.slot (.inr rfl) rfl (L 0 rfl rfl) ⟨V138, rfl, (((((((le3.trans le11).trans le16).trans le20).trans le32).trans le44).trans le56).trans le139), ?_⟩
          have ow142 := ow141.drop 0 rfl
          have ow143 := ow142.drop 0 rfl
          have e144 := Option.some.inj h136
          subst e144
          exact ⟨rfl, ow143⟩
      ·intro kk
       refine bcase (b := (decide (p0.op = 10)) && (((decide (p0.d ≠ 4)) && (decide (p0.d ≠ 12))) || (decide (2 < p0.a)))) (fun g145 => ?_) (fun g145 => ?_)
       ·skip
        refine U.x rfl rfl rfl rfl ((L 0 rfl rfl).trans (congrArg Value.bool g145)) (by decide) ?_
        refine U.x rfl rfl rfl rfl ((L 1 rfl rfl).trans (congrArg Value.bool g145)) (by decide) ?_
        refine U.x rfl rfl rfl rfl ((L 2 rfl rfl).trans (congrArg Value.bool g145)) (by decide) ?_
        refine U.x rfl rfl rfl rfl ((L 3 rfl rfl).trans (congrArg Value.bool g145)) (by decide) ?_
        refine U.z rfl rfl rfl rfl (L 0 rfl rfl) ?_
        refine U.z rfl rfl rfl rfl (L 1 rfl rfl) ?_
        refine U.z rfl rfl rfl rfl (L 2 rfl rfl) ?_
        refine U.x rfl rfl rfl rfl ((L 7 rfl rfl).trans (congrArg Value.bool g145)) (by decide) ?_
        refine U.p rfl rfl (.inl rfl) (S.pickT rfl ((L 8 rfl rfl).trans (congrArg Value.bool g145)) K) ?_
        exact kk [(64, .bool true), (63, .tuple #[]), (62, .tuple #[]), (61, .tuple #[]), (60, .tuple #[]), (59, .tuple #[]), (58, .tuple #[]), (57, .tuple #[]), (56, .tuple #[])] _ ⟨.tuple #[], .tuple #[], .tuple #[], .tuple #[], .tuple #[], .tuple #[], .tuple #[], .tuple #[], rfl, (by rw [g145, Bool.true_or])⟩
       ·skip
        refine U.p (v := .pointer (some ⟨b1, 0, none⟩)) rfl rfl (.inr ⟨_, _, _, rfl, rfl, ((L 0 rfl rfl).trans (congrArg Value.bool g145))⟩) (S.fieldAddr rfl (L 54 rfl rfl) Tryd.underlying25 rfl ti3 rfl rfl) ?_
        refine U.k rfl rfl (.inr ⟨_, _, _, rfl, rfl, ((L 1 rfl rfl).trans (congrArg Value.bool g145))⟩) (S.load rfl (L 0 rfl rfl) Tryd.underlying3 rfl ((ow57.own (k := 1) rfl).cell rfl)) nd ?_
        refine U.p rfl rfl (.inr ⟨_, _, _, rfl, rfl, ((L 2 rfl rfl).trans (congrArg Value.bool g145))⟩) (S.eqlI rfl (L 0 rfl rfl) K) ?_
        refine U.p rfl rfl (.inr ⟨_, _, _, rfl, rfl, ((L 3 rfl rfl).trans (congrArg Value.bool g145))⟩) (S.move rfl (L 0 rfl rfl)) ?_
        refine U.joinX 27 (fun e H => ∃ (u146 u147 u148 : Value), H = V55.H ∧ e = [(63, .bool ((decide (p0.op = 21)) && (decide (p0.imm < 0)))), (62, u146), (61, u147), (60, u148)]) ?_ ?_
        ·rintro _ _ ⟨u146, u147, u148, rfl, rfl⟩
         refine U.p rfl rfl (.inl rfl) (S.pickF rfl ((L 8 rfl rfl).trans (congrArg Value.bool g145)) (L 0 rfl rfl)) ?_
         exact kk [(64, .bool ((decide (p0.op = 21)) && (decide (p0.imm < 0)))), (63, .bool ((decide (p0.op = 21)) && (decide (p0.imm < 0)))), (62, u146), (61, u147), (60, u148), (59, .bool (decide (p0.op = 21))), (58, .bool (decide (p0.op = 21))), (57, .int .i64 p0.op), (56, .pointer (some ⟨b1, 0, none⟩))] _ ⟨.bool ((decide (p0.op = 21)) && (decide (p0.imm < 0))), u146, u147, u148, .bool (decide (p0.op = 21)), .bool (decide (p0.op = 21)), .int .i64 p0.op, .pointer (some ⟨b1, 0, none⟩), rfl, (by rw [g145, Bool.false_or])⟩
        ·intro kk
         refine bcase (b := decide (p0.op = 21)) (fun g152 => ?_) (fun g152 => ?_)
         ·skip
          refine U.p (v := .pointer (some ⟨b1, 4, none⟩)) rfl rfl (.inr ⟨_, _, _, rfl, rfl, ((L 0 rfl rfl).trans (congrArg Value.bool g152))⟩) (S.fieldAddr rfl (L 58 rfl rfl) Tryd.underlying25 rfl ti3 rfl rfl) ?_
          refine U.k rfl rfl (.inr ⟨_, _, _, rfl, rfl, ((L 1 rfl rfl).trans (congrArg Value.bool g152))⟩) (S.load rfl (L 0 rfl rfl) Tryd.underlying3 rfl ((ow57.own (k := 1) rfl).cell rfl)) nd ?_
          refine U.p rfl rfl (.inr ⟨_, _, _, rfl, rfl, ((L 2 rfl rfl).trans (congrArg Value.bool g152))⟩) (S.lss rfl (L 0 rfl rfl) K) ?_
          refine U.p rfl rfl (.inr ⟨_, _, _, rfl, rfl, ((L 7 rfl rfl).trans (congrArg Value.bool g145))⟩) (S.pickT rfl ((L 3 rfl rfl).trans (congrArg Value.bool g152)) (L 0 rfl rfl)) ?_
          exact kk [(63, .bool (decide (p0.imm < 0))), (62, .bool (decide (p0.imm < 0))), (61, .int .i64 p0.imm), (60, .pointer (some ⟨b1, 4, none⟩))] _ ⟨.bool (decide (p0.imm < 0)), .int .i64 p0.imm, .pointer (some ⟨b1, 4, none⟩), rfl, (by rw [g152, Bool.true_and])⟩
         ·skip
          refine U.x rfl rfl rfl rfl ((L 0 rfl rfl).trans (congrArg Value.bool g152)) (by decide) ?_
          refine U.x rfl rfl rfl rfl ((L 1 rfl rfl).trans (congrArg Value.bool g152)) (by decide) ?_
          refine U.x rfl rfl rfl rfl ((L 2 rfl rfl).trans (congrArg Value.bool g152)) (by decide) ?_
          refine U.p rfl rfl (.inr ⟨_, _, _, rfl, rfl, ((L 7 rfl rfl).trans (congrArg Value.bool g145))⟩) (S.pickF rfl ((L 3 rfl rfl).trans (congrArg Value.bool g152)) K) ?_
          exact kk [(63, .bool false), (62, .tuple #[]), (61, .tuple #[]), (60, .tuple #[])] _ ⟨.tuple #[], .tuple #[], .tuple #[], rfl, (by rw [g152, Bool.false_and])⟩
     ·intro kk
      refine bcase (b := decide (p0.op = 10)) (fun g153 => ?_) (fun g153 => ?_)
      ·skip
       refine U.p (v := .pointer (some ⟨b1, 1, none⟩)) rfl rfl (.inr ⟨_, _, _, rfl, rfl, ((L 0 rfl rfl).trans (congrArg Value.bool g153))⟩) (S.fieldAddr rfl (L 39 rfl rfl) Tryd.underlying25 rfl ti3 rfl rfl) ?_
       refine U.k rfl rfl (.inr ⟨_, _, _, rfl, rfl, ((L 1 rfl rfl).trans (congrArg Value.bool g153))⟩) (S.load rfl (L 0 rfl rfl) Tryd.underlying3 rfl ((ow57.own (k := 1) rfl).cell rfl)) nd ?_
       refine U.p rfl rfl (.inr ⟨_, _, _, rfl, rfl, ((L 2 rfl rfl).trans (congrArg Value.bool g153))⟩) (S.neqI rfl (L 0 rfl rfl) K) ?_
       refine U.p rfl rfl (.inr ⟨_, _, _, rfl, rfl, ((L 3 rfl rfl).trans (congrArg Value.bool g153))⟩) (S.move rfl (L 0 rfl rfl)) ?_
       refine U.joinX 12 (fun e H => ∃ (u154 u155 u156 : Value), H = V55.H ∧ e = [(48, .bool ((decide (p0.d ≠ 4)) && (decide (p0.d ≠ 12)))), (47, u154), (46, u155), (45, u156)]) ?_ ?_
       ·rintro _ _ ⟨u154, u155, u156, rfl, rfl⟩
        refine U.p rfl rfl (.inr ⟨_, _, _, rfl, rfl, ((L 8 rfl rfl).trans (congrArg Value.bool g153))⟩) (S.move rfl (L 0 rfl rfl)) ?_
        refine U.joinX 17 (fun e H => ∃ (u160 u161 u162 : Value), H = V55.H ∧ e = [(53, .bool (((decide (p0.d ≠ 4)) && (decide (p0.d ≠ 12))) || (decide (2 < p0.a)))), (52, u160), (51, u161), (50, u162)]) ?_ ?_
        ·rintro _ _ ⟨u160, u161, u162, rfl, rfl⟩
         refine U.p rfl rfl (.inl rfl) (S.pickT rfl ((L 13 rfl rfl).trans (congrArg Value.bool g153)) (L 0 rfl rfl)) ?_
         exact kk [(54, .bool (((decide (p0.d ≠ 4)) && (decide (p0.d ≠ 12))) || (decide (2 < p0.a)))), (53, .bool (((decide (p0.d ≠ 4)) && (decide (p0.d ≠ 12))) || (decide (2 < p0.a)))), (52, u160), (51, u161), (50, u162), (49, .bool ((decide (p0.d ≠ 4)) && (decide (p0.d ≠ 12)))), (48, .bool ((decide (p0.d ≠ 4)) && (decide (p0.d ≠ 12)))), (47, u154), (46, u155), (45, u156), (44, .bool (decide (p0.d ≠ 4))), (43, .bool (decide (p0.d ≠ 4))), (42, .int .i64 p0.d), (41, .pointer (some ⟨b1, 1, none⟩))] _ ⟨.bool (((decide (p0.d ≠ 4)) && (decide (p0.d ≠ 12))) || (decide (2 < p0.a))), u160, u161, u162, .bool ((decide (p0.d ≠ 4)) && (decide (p0.d ≠ 12))), .bool ((decide (p0.d ≠ 4)) && (decide (p0.d ≠ 12))), u154, u155, u156, .bool (decide (p0.d ≠ 4)), .bool (decide (p0.d ≠ 4)), .int .i64 p0.d, .pointer (some ⟨b1, 1, none⟩), rfl, (by rw [g153, Bool.true_and])⟩
        ·intro kk
         refine bcase (b := (decide (p0.d ≠ 4)) && (decide (p0.d ≠ 12))) (fun g166 => ?_) (fun g166 => ?_)
         ·skip
          refine U.x rfl rfl rfl rfl ((L 0 rfl rfl).trans (congrArg Value.bool g166)) (by decide) ?_
          refine U.x rfl rfl rfl rfl ((L 1 rfl rfl).trans (congrArg Value.bool g166)) (by decide) ?_
          refine U.x rfl rfl rfl rfl ((L 2 rfl rfl).trans (congrArg Value.bool g166)) (by decide) ?_
          refine U.p rfl rfl (.inr ⟨_, _, _, rfl, rfl, ((L 12 rfl rfl).trans (congrArg Value.bool g153))⟩) (S.pickT rfl ((L 3 rfl rfl).trans (congrArg Value.bool g166)) K) ?_
          exact kk [(53, .bool true), (52, .tuple #[]), (51, .tuple #[]), (50, .tuple #[])] _ ⟨.tuple #[], .tuple #[], .tuple #[], rfl, (by rw [g166, Bool.true_or])⟩
         ·skip
          refine U.p (v := .pointer (some ⟨b1, 2, none⟩)) rfl rfl (.inr ⟨_, _, _, rfl, rfl, ((L 0 rfl rfl).trans (congrArg Value.bool g166))⟩) (S.fieldAddr rfl (L 48 rfl rfl) Tryd.underlying25 rfl ti3 rfl rfl) ?_
          refine U.k rfl rfl (.inr ⟨_, _, _, rfl, rfl, ((L 1 rfl rfl).trans (congrArg Value.bool g166))⟩) (S.load rfl (L 0 rfl rfl) Tryd.underlying3 rfl ((ow57.own (k := 1) rfl).cell rfl)) nd ?_
          refine U.p rfl rfl (.inr ⟨_, _, _, rfl, rfl, ((L 2 rfl rfl).trans (congrArg Value.bool g166))⟩) (S.gtr rfl (L 0 rfl rfl) K) ?_
          refine U.p rfl rfl (.inr ⟨_, _, _, rfl, rfl, ((L 12 rfl rfl).trans (congrArg Value.bool g153))⟩) (S.pickF rfl ((L 3 rfl rfl).trans (congrArg Value.bool g166)) (L 0 rfl rfl)) ?_
          exact kk [(53, .bool (decide (2 < p0.a))), (52, .bool (decide (2 < p0.a))), (51, .int .i64 p0.a), (50, .pointer (some ⟨b1, 2, none⟩))] _ ⟨.bool (decide (2 < p0.a)), .int .i64 p0.a, .pointer (some ⟨b1, 2, none⟩), rfl, (by rw [g166, Bool.false_or])⟩
       ·intro kk
        refine bcase (b := decide (p0.d ≠ 4)) (fun g167 => ?_) (fun g167 => ?_)
        ·skip
         refine U.p (v := .pointer (some ⟨b1, 1, none⟩)) rfl rfl (.inr ⟨_, _, _, rfl, rfl, ((L 0 rfl rfl).trans (congrArg Value.bool g167))⟩) (S.fieldAddr rfl (L 43 rfl rfl) Tryd.underlying25 rfl ti3 rfl rfl) ?_
         refine U.k rfl rfl (.inr ⟨_, _, _, rfl, rfl, ((L 1 rfl rfl).trans (congrArg Value.bool g167))⟩) (S.load rfl (L 0 rfl rfl) Tryd.underlying3 rfl ((ow57.own (k := 1) rfl).cell rfl)) nd ?_
         refine U.p rfl rfl (.inr ⟨_, _, _, rfl, rfl, ((L 2 rfl rfl).trans (congrArg Value.bool g167))⟩) (S.neqI rfl (L 0 rfl rfl) K) ?_
         refine U.p rfl rfl (.inr ⟨_, _, _, rfl, rfl, ((L 7 rfl rfl).trans (congrArg Value.bool g153))⟩) (S.pickT rfl ((L 3 rfl rfl).trans (congrArg Value.bool g167)) (L 0 rfl rfl)) ?_
         exact kk [(48, .bool (decide (p0.d ≠ 12))), (47, .bool (decide (p0.d ≠ 12))), (46, .int .i64 p0.d), (45, .pointer (some ⟨b1, 1, none⟩))] _ ⟨.bool (decide (p0.d ≠ 12)), .int .i64 p0.d, .pointer (some ⟨b1, 1, none⟩), rfl, (by rw [g167, Bool.true_and])⟩
        ·skip
         refine U.x rfl rfl rfl rfl ((L 0 rfl rfl).trans (congrArg Value.bool g167)) (by decide) ?_
         refine U.x rfl rfl rfl rfl ((L 1 rfl rfl).trans (congrArg Value.bool g167)) (by decide) ?_
         refine U.x rfl rfl rfl rfl ((L 2 rfl rfl).trans (congrArg Value.bool g167)) (by decide) ?_
         refine U.p rfl rfl (.inr ⟨_, _, _, rfl, rfl, ((L 7 rfl rfl).trans (congrArg Value.bool g153))⟩) (S.pickF rfl ((L 3 rfl rfl).trans (congrArg Value.bool g167)) K) ?_
         exact kk [(48, .bool false), (47, .tuple #[]), (46, .tuple #[]), (45, .tuple #[])] _ ⟨.tuple #[], .tuple #[], .tuple #[], rfl, (by rw [g167, Bool.false_and])⟩
      ·skip
       refine U.x rfl rfl rfl rfl ((L 0 rfl rfl).trans (congrArg Value.bool g153)) (by decide) ?_
       refine U.x rfl rfl rfl rfl ((L 1 rfl rfl).trans (congrArg Value.bool g153)) (by decide) ?_
       refine U.x rfl rfl rfl rfl ((L 2 rfl rfl).trans (congrArg Value.bool g153)) (by decide) ?_
       refine U.x rfl rfl rfl rfl ((L 3 rfl rfl).trans (congrArg Value.bool g153)) (by decide) ?_
       refine U.z rfl rfl rfl rfl (L 0 rfl rfl) ?_
       refine U.z rfl rfl rfl rfl (L 1 rfl rfl) ?_
       refine U.z rfl rfl rfl rfl (L 2 rfl rfl) ?_
       refine U.x rfl rfl rfl rfl ((L 7 rfl rfl).trans (congrArg Value.bool g153)) (by decide) ?_
       refine U.x rfl rfl rfl rfl ((L 8 rfl rfl).trans (congrArg Value.bool g153)) (by decide) ?_
       refine U.z rfl rfl rfl rfl (L 0 rfl rfl) ?_
       refine U.z rfl rfl rfl rfl (L 1 rfl rfl) ?_
       refine U.z rfl rfl rfl rfl (L 2 rfl rfl) ?_
       refine U.x rfl rfl rfl rfl ((L 12 rfl rfl).trans (congrArg Value.bool g153)) (by decide) ?_
       refine U.p rfl rfl (.inl rfl) (S.pickF rfl ((L 13 rfl rfl).trans (congrArg Value.bool g153)) K) ?_
       exact kk [(54, .bool false), (53, .tuple #[]), (52, .tuple #[]), (51, .tuple #[]), (50, .tuple #[]), (49, .tuple #[]), (48, .tuple #[]), (47, .tuple #[]), (46, .tuple #[]), (45, .tuple #[]), (44, .tuple #[]), (43, .tuple #[]), (42, .tuple #[]), (41, .tuple #[])] _ ⟨.tuple #[], .tuple #[], .tuple #[], .tuple #[], .tuple #[], .tuple #[], .tuple #[], .tuple #[], .tuple #[], .tuple #[], .tuple #[], .tuple #[], .tuple #[], rfl, (by rw [g153, Bool.false_and])⟩
   ·intro kk
    refine bcase (b := y34) (fun g168 => ?_) (fun g168 => ?_)
    ·have h169 := ifT g168 hy47
     refine U.x rfl rfl rfl rfl ((L 0 rfl rfl).trans (congrArg Value.bool g168)) (by decide) ?_
     refine U.x rfl rfl rfl rfl ((L 1 rfl rfl).trans (congrArg Value.bool g168)) (by decide) ?_
     refine U.x rfl rfl rfl rfl ((L 2 rfl rfl).trans (congrArg Value.bool g168)) (by decide) ?_
     refine U.x rfl rfl rfl rfl ((L 3 rfl rfl).trans (congrArg Value.bool g168)) (by decide) ?_
     refine U.x rfl rfl rfl rfl ((L 4 rfl rfl).trans (congrArg Value.bool g168)) (by decide) ?_
     refine U.x rfl rfl rfl rfl ((L 5 rfl rfl).trans (congrArg Value.bool g168)) (by decide) ?_
     refine U.p rfl rfl (.inl rfl) (S.pickT rfl ((L 6 rfl rfl).trans (congrArg Value.bool g168)) K) ?_
     have e170 := Option.some.inj h169
     subst e170
     exact kk [(36, .bool true), (35, .tuple #[]), (34, .tuple #[]), (33, .tuple #[]), (32, .tuple #[]), (31, .tuple #[]), (30, .tuple #[])] _ ⟨.tuple #[], .tuple #[], .tuple #[], .tuple #[], .tuple #[], .tuple #[], V43, rfl, (.refl _), rfl, ow45⟩
    ·have h171 := ifF g168 hy47
     refine U.p (v := .pointer (some ⟨b14, 3, none⟩)) rfl rfl (.inr ⟨_, _, _, rfl, rfl, ((L 0 rfl rfl).trans (congrArg Value.bool g168))⟩) (S.fieldAddr rfl (L 20 rfl rfl) Tryd.underlying37 rfl ti4 rfl rfl) ?_
     refine U.k rfl rfl (.inr ⟨_, _, _, rfl, rfl, ((L 1 rfl rfl).trans (congrArg Value.bool g168))⟩) (S.load rfl (L 0 rfl rfl) Tryd.underlying4 rfl ((ow45.own (k := 0) rfl).cell rfl)) nd ?_
     refine U.p (v := .pointer (some ⟨b1, 3, none⟩)) rfl rfl (.inr ⟨_, _, _, rfl, rfl, ((L 2 rfl rfl).trans (congrArg Value.bool g168))⟩) (S.fieldAddr rfl (L 30 rfl rfl) Tryd.underlying25 rfl ti3 rfl rfl) ?_
     refine U.k rfl rfl (.inr ⟨_, _, _, rfl, rfl, ((L 3 rfl rfl).trans (congrArg Value.bool g168))⟩) (S.load rfl (L 0 rfl rfl) Tryd.underlying3 rfl ((ow45.own (k := 1) rfl).cell rfl)) nd ?_
     obtain ⟨x172, hx173, h174⟩ := bindS h171
     refine O.call (V := V43) rfl rfl (.inr ⟨_, _, _, rfl, rfl, ((L 4 rfl rfl).trans (congrArg Value.bool g168))⟩) rfl en32 (aC (L 2 rfl rfl) (aC (L 0 rfl rfl) aN)) (wk_ref02_number V43 _ (gl.up (((((le3.trans le11).trans le16).trans le20).trans le32).trans le44)) x6.1.b p0.b ow45 _ hx173) (fun _ _ _ _ => nd) (fun v175 V176 le177 hp178 => ?_)
     obtain ⟨rfl, ow179⟩ := hp178
     refine U.p rfl rfl (.inr ⟨_, _, _, rfl, rfl, ((L 5 rfl rfl).trans (congrArg Value.bool g168))⟩) (S.not rfl (L 0 rfl rfl)) ?_
     refine U.p rfl rfl (.inl rfl) (S.pickF rfl ((L 6 rfl rfl).trans (congrArg Value.bool g168)) (L 0 rfl rfl)) ?_
     have e180 := Option.some.inj h174
     subst e180
     exact kk [(36, .bool (!x172)), (35, .bool (!x172)), (34, .bool x172), (33, .int .i64 p0.b), (32, .pointer (some ⟨b1, 3, none⟩)), (31, .bool x6.1.b), (30, .pointer (some ⟨b14, 3, none⟩))] _ ⟨.bool (!x172), .bool x172, .int .i64 p0.b, .pointer (some ⟨b1, 3, none⟩), .bool x6.1.b, .pointer (some ⟨b14, 3, none⟩), V176, rfl, le177, rfl, ow179⟩
  ·intro kk
   refine bcase (b := y22) (fun g181 => ?_) (fun g181 => ?_)
   ·have h182 := ifT g181 hy35
    refine U.x rfl rfl rfl rfl ((L 0 rfl rfl).trans (congrArg Value.bool g181)) (by decide) ?_
    refine U.x rfl rfl rfl rfl ((L 1 rfl rfl).trans (congrArg Value.bool g181)) (by decide) ?_
    refine U.x rfl rfl rfl rfl ((L 2 rfl rfl).trans (congrArg Value.bool g181)) (by decide) ?_
    refine U.x rfl rfl rfl rfl ((L 3 rfl rfl).trans (congrArg Value.bool g181)) (by decide) ?_
    refine U.x rfl rfl rfl rfl ((L 4 rfl rfl).trans (congrArg Value.bool g181)) (by decide) ?_
    refine U.x rfl rfl rfl rfl ((L 5 rfl rfl).trans (congrArg Value.bool g181)) (by decide) ?_
    refine U.p rfl rfl (.inl rfl) (S.pickT rfl ((L 6 rfl rfl).trans (congrArg Value.bool g181)) K) ?_
    have e183 := Option.some.inj h182
    subst e183
    exact kk [(28, .bool true), (27, .tuple #[]), (26, .tuple #[]), (25, .tuple #[]), (24, .tuple #[]), (23, .tuple #[]), (22, .tuple #[])] _ ⟨.tuple #[], .tuple #[], .tuple #[], .tuple #[], .tuple #[], .tuple #[], V31, rfl, (.refl _), rfl, ow33⟩
   ·have h184 := ifF g181 hy35
    refine U.p (v := .pointer (some ⟨b14, 2, none⟩)) rfl rfl (.inr ⟨_, _, _, rfl, rfl, ((L 0 rfl rfl).trans (congrArg Value.bool g181))⟩) (S.fieldAddr rfl (L 12 rfl rfl) Tryd.underlying37 rfl ti4 rfl rfl) ?_
    refine U.k rfl rfl (.inr ⟨_, _, _, rfl, rfl, ((L 1 rfl rfl).trans (congrArg Value.bool g181))⟩) (S.load rfl (L 0 rfl rfl) Tryd.underlying4 rfl ((ow33.own (k := 0) rfl).cell rfl)) nd ?_
    refine U.p (v := .pointer (some ⟨b1, 2, none⟩)) rfl rfl (.inr ⟨_, _, _, rfl, rfl, ((L 2 rfl rfl).trans (congrArg Value.bool g181))⟩) (S.fieldAddr rfl (L 22 rfl rfl) Tryd.underlying25 rfl ti3 rfl rfl) ?_
    refine U.k rfl rfl (.inr ⟨_, _, _, rfl, rfl, ((L 3 rfl rfl).trans (congrArg Value.bool g181))⟩) (S.load rfl (L 0 rfl rfl) Tryd.underlying3 rfl ((ow33.own (k := 1) rfl).cell rfl)) nd ?_
    obtain ⟨x185, hx186, h187⟩ := bindS h184
    refine O.call (V := V31) rfl rfl (.inr ⟨_, _, _, rfl, rfl, ((L 4 rfl rfl).trans (congrArg Value.bool g181))⟩) rfl en32 (aC (L 2 rfl rfl) (aC (L 0 rfl rfl) aN)) (wk_ref02_number V31 _ (gl.up ((((le3.trans le11).trans le16).trans le20).trans le32)) x6.1.a p0.a ow33 _ hx186) (fun _ _ _ _ => nd) (fun v188 V189 le190 hp191 => ?_)
    obtain ⟨rfl, ow192⟩ := hp191
    refine U.p rfl rfl (.inr ⟨_, _, _, rfl, rfl, ((L 5 rfl rfl).trans (congrArg Value.bool g181))⟩) (S.not rfl (L 0 rfl rfl)) ?_
    refine U.p rfl rfl (.inl rfl) (S.pickF rfl ((L 6 rfl rfl).trans (congrArg Value.bool g181)) (L 0 rfl rfl)) ?_
    have e193 := Option.some.inj h187
    subst e193
    exact kk [(28, .bool (!x185)), (27, .bool (!x185)), (26, .bool x185), (25, .int .i64 p0.a), (24, .pointer (some ⟨b1, 2, none⟩)), (23, .bool x6.1.a), (22, .pointer (some ⟨b14, 2, none⟩))] _ ⟨.bool (!x185), .bool x185, .int .i64 p0.a, .pointer (some ⟨b1, 2, none⟩), .bool x6.1.a, .pointer (some ⟨b14, 2, none⟩), V189, rfl, le190, rfl, ow192⟩
 ·intro kk
  refine bcase (b := !x6.2) (fun g194 => ?_) (fun g194 => ?_)
  ·have h195 := ifT g194 hy23
   have k196 : x6.2 = false := nT g194
   refine U.x rfl rfl rfl rfl ((L 0 rfl rfl).trans (congrArg Value.bool g194)) (by decide) ?_
   refine U.x rfl rfl rfl rfl ((L 1 rfl rfl).trans (congrArg Value.bool g194)) (by decide) ?_
   refine U.x rfl rfl rfl rfl ((L 2 rfl rfl).trans (congrArg Value.bool g194)) (by decide) ?_
   refine U.x rfl rfl rfl rfl ((L 3 rfl rfl).trans (congrArg Value.bool g194)) (by decide) ?_
   refine U.x rfl rfl rfl rfl ((L 4 rfl rfl).trans (congrArg Value.bool g194)) (by decide) ?_
   refine U.x rfl rfl rfl rfl ((L 5 rfl rfl).trans (congrArg Value.bool g194)) (by decide) ?_
   refine U.p rfl rfl (.inl rfl) (S.pickT rfl ((L 6 rfl rfl).trans (congrArg Value.bool g194)) K) ?_
   have e197 := Option.some.inj h195
   subst e197
   exact kk [(20, .bool true), (19, .tuple #[]), (18, .tuple #[]), (17, .tuple #[]), (16, .tuple #[]), (15, .tuple #[]), (14, .tuple #[])] _ ⟨.tuple #[], .tuple #[], .tuple #[], .tuple #[], .tuple #[], .tuple #[], V19, rfl, (.refl _), rfl, ow21⟩
  ·have h198 := ifF g194 hy23
   have k199 : x6.2 = true := nF g194
   refine U.p (v := .pointer (some ⟨b14, 1, none⟩)) rfl rfl (.inr ⟨_, _, _, rfl, rfl, ((L 0 rfl rfl).trans (congrArg Value.bool g194))⟩) (S.fieldAddr rfl (L 4 rfl rfl) Tryd.underlying37 rfl ti4 rfl rfl) ?_
   refine U.k rfl rfl (.inr ⟨_, _, _, rfl, rfl, ((L 1 rfl rfl).trans (congrArg Value.bool g194))⟩) (S.load rfl (L 0 rfl rfl) Tryd.underlying4 rfl ((ow21.own (k := 0) rfl).cell rfl)) nd ?_
   refine U.p (v := .pointer (some ⟨b1, 1, none⟩)) rfl rfl (.inr ⟨_, _, _, rfl, rfl, ((L 2 rfl rfl).trans (congrArg Value.bool g194))⟩) (S.fieldAddr rfl (L 14 rfl rfl) Tryd.underlying25 rfl ti3 rfl rfl) ?_
   refine U.k rfl rfl (.inr ⟨_, _, _, rfl, rfl, ((L 3 rfl rfl).trans (congrArg Value.bool g194))⟩) (S.load rfl (L 0 rfl rfl) Tryd.underlying3 rfl ((ow21.own (k := 1) rfl).cell rfl)) nd ?_
   obtain ⟨x200, hx201, h202⟩ := bindS h198
   refine O.call (V := V19) rfl rfl (.inr ⟨_, _, _, rfl, rfl, ((L 4 rfl rfl).trans (congrArg Value.bool g194))⟩) rfl en32 (aC (L 2 rfl rfl) (aC (L 0 rfl rfl) aN)) (wk_ref02_number V19 _ (gl.up (((le3.trans le11).trans le16).trans le20)) x6.1.d p0.d ow21 _ hx201) (fun _ _ _ _ => nd) (fun v203 V204 le205 hp206 => ?_)
   obtain ⟨rfl, ow207⟩ := hp206
   refine U.p rfl rfl (.inr ⟨_, _, _, rfl, rfl, ((L 5 rfl rfl).trans (congrArg Value.bool g194))⟩) (S.not rfl (L 0 rfl rfl)) ?_
   refine U.p rfl rfl (.inl rfl) (S.pickF rfl ((L 6 rfl rfl).trans (congrArg Value.bool g194)) (L 0 rfl rfl)) ?_
   have e208 := Option.some.inj h202
   subst e208
   exact kk [(20, .bool (!x200)), (19, .bool (!x200)), (18, .bool x200), (17, .int .i64 p0.d), (16, .pointer (some ⟨b1, 1, none⟩)), (15, .bool x6.1.d), (14, .pointer (some ⟨b14, 1, none⟩))] _ ⟨.bool (!x200), .bool x200, .int .i64 p0.d, .pointer (some ⟨b1, 1, none⟩), .bool x6.1.d, .pointer (some ⟨b14, 1, none⟩), V204, rfl, le205, rfl, ow207⟩
set_option maxHeartbeats 4000000 in
set_option maxRecDepth 10000 in
theorem wk_ref02_Encode (V : Vw) (Rs : List At) (gl : Glb V) (p0 : TInst) (ow : Ow V (Rs)) (r : Int) (h : ref02_Encode p0 = some r) : ∃ v V', Cl Tryd.prog NG 23 #[.agg #[.int .i64 p0.op, .int .i64 p0.d, .int .i64 p0.a, .int .i64 p0.b, .int .i64 p0.imm]] V.H v V'.H ∧ V.le V' ∧ (v = .int .u32 r ∧ Ow V' (Rs)) := by
 refine Ct.of gl.lo Tryd.func23 rfl (nr rfl) ?_
 unfold ref02_Encode at h
 refine WP.usreg rfl ?_
 refine O.box ow rfl rfl (.inl rfl) rfl (L 0 rfl rfl) (by simp [topV]) rfl nd (fun b1 V2 le3 ow4 => ?_)
 refine U.p rfl rfl (.inl rfl) (S.assign rfl K) ?_
 refine U.done (nr rfl) ?_
 refine WP.usreg rfl ?_
 refine U.p (v := .pointer (some ⟨b1, 0, none⟩)) rfl rfl (.inl rfl) (S.fieldAddr rfl (L 1 rfl rfl) Tryd.underlying25 rfl ti3 rfl rfl) ?_
 refine U.k rfl rfl (.inl rfl) (S.load rfl (L 0 rfl rfl) Tryd.underlying3 rfl ((ow4.own (k := 0) rfl).cell rfl)) nd ?_
 obtain ⟨x6, hx7, h8⟩ := bindS h
 refine O.call (V := V2) rfl rfl (.inl rfl) rfl en15 (aC (L 0 rfl rfl) aN) (wk_ref02_Of V2 _ (gl.up le3) p0.op ow4 _ hx7) (fun _ _ _ _ => nd) (fun v9 V10 le11 hp12 => ?_)
 obtain ⟨rfl, ow13⟩ := hp12
 refine U.p rfl rfl (.inl rfl) (S.move rfl (L 0 rfl rfl)) ?_
 refine U.p rfl rfl (.inl rfl) (S.extract rfl (L 0 rfl rfl) rfl (nr rfl)) ?_
 refine U.p rfl rfl (.inl rfl) (S.extract rfl (L 1 rfl rfl) rfl (nr rfl)) ?_
 refine O.alloc ow13 rfl rfl (.inl rfl) rfl ti37 rfl rfl nd (fun b14 V15 le16 ow17 => ?_)
 refine O.store (k := 0) (cs := [.string x6.1.name, .bool x6.1.d, .bool x6.1.a, .bool x6.1.b, .int .i64 x6.1.imm, .int .u32 x6.1.word]) (c' := [.string x6.1.name, .bool x6.1.d, .bool x6.1.a, .bool x6.1.b, .int .i64 x6.1.imm, .int .u32 x6.1.word]) ow17 rfl rfl rfl (.inl rfl) rfl (L 0 rfl rfl) (L 2 rfl rfl) ti37 (by simp [topV]) rfl rfl (nr rfl) rfl rfl nd (fun V19 le20 ow21 => ?_)
 refine U.p rfl rfl (.inl rfl) (S.assign rfl (L 1 rfl rfl)) ?_
 refine U.done (nr rfl) ?_
 refine WP.usreg rfl ?_
 refine U.p (v := .pointer (some ⟨b14, 5, none⟩)) rfl rfl (.inl rfl) (S.fieldAddr rfl (L 1 rfl rfl) Tryd.underlying37 rfl ti22 rfl rfl) ?_
 refine U.k rfl rfl (.inl rfl) (S.load rfl (L 0 rfl rfl) Tryd.underlying22 rfl ((ow21.own (k := 0) rfl).cell rfl)) nd ?_
 refine U.p rfl rfl (.inl rfl) (S.assign rfl (L 0 rfl rfl)) ?_
 refine U.done (nr rfl) ?_
 refine WP.usreg rfl ?_
 refine U.p rfl rfl (.inl rfl) (S.move rfl (L 0 rfl rfl)) ?_
 refine U.p (v := .pointer (some ⟨b1, 1, none⟩)) rfl rfl (.inl rfl) (S.fieldAddr rfl (L 13 rfl rfl) Tryd.underlying25 rfl ti3 rfl rfl) ?_
 refine U.k rfl rfl (.inl rfl) (S.load rfl (L 0 rfl rfl) Tryd.underlying3 rfl ((ow21.own (k := 1) rfl).cell rfl)) nd ?_
 refine U.p rfl rfl (.inl rfl) (S.conv rfl (L 0 rfl rfl) Tryd.underlying3 Tryd.underlying22) ?_
 refine U.p rfl rfl (.inl rfl) (S.mul rfl (L 0 rfl rfl) K) ?_
 refine U.p rfl rfl (.inl rfl) (S.add rfl (L 4 rfl rfl) (L 0 rfl rfl)) ?_
 refine U.p (v := .pointer (some ⟨b1, 2, none⟩)) rfl rfl (.inl rfl) (S.fieldAddr rfl (L 18 rfl rfl) Tryd.underlying25 rfl ti3 rfl rfl) ?_
 refine U.k rfl rfl (.inl rfl) (S.load rfl (L 0 rfl rfl) Tryd.underlying3 rfl ((ow21.own (k := 1) rfl).cell rfl)) nd ?_
 refine U.p rfl rfl (.inl rfl) (S.conv rfl (L 0 rfl rfl) Tryd.underlying3 Tryd.underlying22) ?_
 refine U.p rfl rfl (.inl rfl) (S.mul rfl (L 0 rfl rfl) K) ?_
 refine U.p rfl rfl (.inl rfl) (S.add rfl (L 4 rfl rfl) (L 0 rfl rfl)) ?_
 refine U.p (v := .pointer (some ⟨b1, 3, none⟩)) rfl rfl (.inl rfl) (S.fieldAddr rfl (L 23 rfl rfl) Tryd.underlying25 rfl ti3 rfl rfl) ?_
 refine U.k rfl rfl (.inl rfl) (S.load rfl (L 0 rfl rfl) Tryd.underlying3 rfl ((ow21.own (k := 1) rfl).cell rfl)) nd ?_
 refine U.p rfl rfl (.inl rfl) (S.conv rfl (L 0 rfl rfl) Tryd.underlying3 Tryd.underlying22) ?_
 refine U.p rfl rfl (.inl rfl) (S.mul rfl (L 0 rfl rfl) K) ?_
 refine U.p rfl rfl (.inl rfl) (S.add rfl (L 4 rfl rfl) (L 0 rfl rfl)) ?_
 refine U.p rfl rfl (.inl rfl) (S.assign rfl (L 0 rfl rfl)) ?_
 refine U.done (nr rfl) ?_
 refine WP.seqI (fun l V' => ∃ (x22 : Int), l = [(5, .int .u32 x22)] ∧ V19.le V' ∧ Ow V' (Rs) ∧ ref02_Encode_k1 x22 = some r) ?_ ?_
 ·rintro _ V23 ⟨x22, rfl, le24, ow25, h26⟩
  unfold ref02_Encode_k1 at h26
  refine WP.usreg rfl ?_
  refine U.p rfl rfl (.inl rfl) (S.move rfl (L 0 rfl rfl)) ?_
  refine U.p rfl rfl (.inl rfl) (S.assign rfl (L 0 rfl rfl)) ?_
  refine U.done (nr rfl) ?_
  refine WP.ret ?_
  refine fin.slot (.inr rfl) rfl (L 0 rfl rfl) ⟨V23, rfl, ((((le3.trans le11).trans le16).trans le20).trans le24), ?_⟩
  have e27 := Option.some.inj h26
  subst e27
  exact ⟨rfl, ow25⟩
 ·skip
  refine WP.usreg rfl ?_
  refine U.p (v := .pointer (some ⟨b14, 4, none⟩)) rfl rfl (.inl rfl) (S.fieldAddr rfl (L 21 rfl rfl) Tryd.underlying37 rfl ti3 rfl rfl) ?_
  refine U.k rfl rfl (.inl rfl) (S.load rfl (L 0 rfl rfl) Tryd.underlying3 rfl ((ow21.own (k := 0) rfl).cell rfl)) nd ?_
  refine U.done (nr rfl) ?_
  refine WP.blk ?_
  refine WP.seqI (fun l V' => ∃ (x28 : Bool), l = [(1, .pointer (some ⟨b1, 0, none⟩)), (5, .int .u32 (IntKind.wrap .u32 ((IntKind.wrap .u32 ((IntKind.wrap .u32 (x6.1.word + (IntKind.wrap .u32 ((IntKind.wrap .u32 p0.d) * 2097152)))) + (IntKind.wrap .u32 ((IntKind.wrap .u32 p0.a) * 65536)))) + (IntKind.wrap .u32 ((IntKind.wrap .u32 p0.b) * 2048))))), (31, .int .i64 x6.1.imm), (32, .bool x28)] ∧ V19.le V' ∧ Ow V' (.pt b1 (.cells 0 [.int .i64 p0.op, .int .i64 p0.d, .int .i64 p0.a, .int .i64 p0.b, .int .i64 p0.imm]) :: Rs) ∧ ref02_Encode_k2 p0 x6 x28 = some r) ?_ ?_
  ·rintro _ V29 ⟨x28, rfl, le30, ow31, h32⟩
   unfold ref02_Encode_k2 at h32
   refine WP.cond _ (L 3 rfl rfl) rfl (fun c33 => ?_) (fun c33 => ?_)
   ·have h34 := ifT c33 h32
    refine WP.ureg rfl ?_
    refine U.p rfl rfl (.inl rfl) (S.move rfl (L 1 rfl rfl)) ?_
    refine U.p (v := .pointer (some ⟨b1, 4, none⟩)) rfl rfl (.inl rfl) (S.fieldAddr rfl (L 1 rfl rfl) Tryd.underlying25 rfl ti3 rfl rfl) ?_
    refine U.k rfl rfl (.inl rfl) (S.load rfl (L 0 rfl rfl) Tryd.underlying3 rfl ((ow31.own (k := 0) rfl).cell rfl)) nd ?_
    refine U.p rfl rfl (.inl rfl) (S.add rfl (L 0 rfl rfl) K) ?_
    obtain ⟨x35, hx36, h37⟩ := bindS h34
    refine U.p rfl rfl (.inl rfl) (S.rem hx36 rfl (L 0 rfl rfl) K) ?_
    refine U.p rfl rfl (.inl rfl) (S.conv rfl (L 0 rfl rfl) Tryd.underlying3 Tryd.underlying22) ?_
    refine U.p rfl rfl (.inl rfl) (S.add rfl (L 5 rfl rfl) (L 0 rfl rfl)) ?_
    refine U.p rfl rfl (.inl rfl) (S.assign rfl (L 0 rfl rfl)) ?_
    refine U.done (nr rfl) ?_
    refine blkN (sqN ?_)
    have ow38 := ow31.drop 0 rfl
    exact ⟨_, V29, rfl, ⟨IntKind.wrap .u32 ((IntKind.wrap .u32 ((IntKind.wrap .u32 ((IntKind.wrap .u32 (x6.1.word + (IntKind.wrap .u32 ((IntKind.wrap .u32 p0.d) * 2097152)))) + (IntKind.wrap .u32 ((IntKind.wrap .u32 p0.a) * 65536)))) + (IntKind.wrap .u32 ((IntKind.wrap .u32 p0.b) * 2048)))) + (IntKind.wrap .u32 x35)), rfl, le30, ow38, h37⟩, (allCons (L 0 rfl rfl) allNil)⟩
   ·have h39 := ifF c33 h32
    refine WP.usreg rfl ?_
    refine U.p rfl rfl (.inl rfl) (S.eqlI rfl (L 2 rfl rfl) K) ?_
    refine U.p rfl rfl (.inl rfl) (S.assign rfl (L 0 rfl rfl)) ?_
    refine U.done (nr rfl) ?_
    refine WP.cond _ (L 0 rfl rfl) rfl (fun c40 => ?_) (fun c40 => ?_)
    ·have h41 := ifT c40 h39
     refine WP.ureg rfl ?_
     refine U.p rfl rfl (.inl rfl) (S.move rfl (L 3 rfl rfl)) ?_
     refine U.p (v := .pointer (some ⟨b1, 4, none⟩)) rfl rfl (.inl rfl) (S.fieldAddr rfl (L 3 rfl rfl) Tryd.underlying25 rfl ti3 rfl rfl) ?_
     refine U.k rfl rfl (.inl rfl) (S.load rfl (L 0 rfl rfl) Tryd.underlying3 rfl ((ow31.own (k := 0) rfl).cell rfl)) nd ?_
     refine U.p rfl rfl (.inl rfl) (S.mul rfl K (L 0 rfl rfl)) ?_
     refine U.p rfl rfl (.inl rfl) (S.add rfl (L 0 rfl rfl) K) ?_
     obtain ⟨x42, hx43, h44⟩ := bindS h41
     refine U.p rfl rfl (.inl rfl) (S.rem hx43 rfl (L 0 rfl rfl) K) ?_
     refine U.p rfl rfl (.inl rfl) (S.conv rfl (L 0 rfl rfl) Tryd.underlying3 Tryd.underlying22) ?_
     refine U.p rfl rfl (.inl rfl) (S.add rfl (L 6 rfl rfl) (L 0 rfl rfl)) ?_
     refine U.p rfl rfl (.inl rfl) (S.assign rfl (L 0 rfl rfl)) ?_
     refine U.done (nr rfl) ?_
     refine blkN (sqN ?_)
     have ow45 := ow31.drop 0 rfl
     exact ⟨_, V29, rfl, ⟨IntKind.wrap .u32 ((IntKind.wrap .u32 ((IntKind.wrap .u32 ((IntKind.wrap .u32 (x6.1.word + (IntKind.wrap .u32 ((IntKind.wrap .u32 p0.d) * 2097152)))) + (IntKind.wrap .u32 ((IntKind.wrap .u32 p0.a) * 65536)))) + (IntKind.wrap .u32 ((IntKind.wrap .u32 p0.b) * 2048)))) + (IntKind.wrap .u32 x42)), rfl, le30, ow45, h44⟩, (allCons (L 0 rfl rfl) allNil)⟩
    ·have h46 := ifF c40 h39
     refine WP.usreg rfl ?_
     refine U.p rfl rfl (.inl rfl) (S.eqlI rfl (L 4 rfl rfl) K) ?_
     refine U.p rfl rfl (.inl rfl) (S.assign rfl (L 0 rfl rfl)) ?_
     refine U.done (nr rfl) ?_
     refine WP.cond _ (L 0 rfl rfl) rfl (fun c47 => ?_) (fun c47 => ?_)
     ·have h48 := ifT c47 h46
      refine WP.ureg rfl ?_
      refine U.p rfl rfl (.inl rfl) (S.move rfl (L 5 rfl rfl)) ?_
      refine U.p (v := .pointer (some ⟨b1, 4, none⟩)) rfl rfl (.inl rfl) (S.fieldAddr rfl (L 5 rfl rfl) Tryd.underlying25 rfl ti3 rfl rfl) ?_
      refine U.k rfl rfl (.inl rfl) (S.load rfl (L 0 rfl rfl) Tryd.underlying3 rfl ((ow31.own (k := 0) rfl).cell rfl)) nd ?_
      refine U.p rfl rfl (.inl rfl) (S.mul rfl K (L 0 rfl rfl)) ?_
      refine U.p rfl rfl (.inl rfl) (S.add rfl (L 0 rfl rfl) K) ?_
      obtain ⟨x49, hx50, h51⟩ := bindS h48
      refine U.p rfl rfl (.inl rfl) (S.rem hx50 rfl (L 0 rfl rfl) K) ?_
      refine U.p rfl rfl (.inl rfl) (S.conv rfl (L 0 rfl rfl) Tryd.underlying3 Tryd.underlying22) ?_
      refine U.p rfl rfl (.inl rfl) (S.add rfl (L 6 rfl rfl) (L 0 rfl rfl)) ?_
      refine U.p rfl rfl (.inl rfl) (S.assign rfl (L 0 rfl rfl)) ?_
      refine U.done (nr rfl) ?_
      refine blkN (sqN ?_)
      have ow52 := ow31.drop 0 rfl
      exact ⟨_, V29, rfl, ⟨IntKind.wrap .u32 ((IntKind.wrap .u32 ((IntKind.wrap .u32 ((IntKind.wrap .u32 (x6.1.word + (IntKind.wrap .u32 ((IntKind.wrap .u32 p0.d) * 2097152)))) + (IntKind.wrap .u32 ((IntKind.wrap .u32 p0.a) * 65536)))) + (IntKind.wrap .u32 ((IntKind.wrap .u32 p0.b) * 2048)))) + (IntKind.wrap .u32 x49)), rfl, le30, ow52, h51⟩, (allCons (L 0 rfl rfl) allNil)⟩
     ·have h53 := ifF c47 h46
      refine WP.skip ?_
      refine blkN (sqN ?_)
      have ow54 := ow31.drop 0 rfl
      exact ⟨_, V29, rfl, ⟨IntKind.wrap .u32 ((IntKind.wrap .u32 ((IntKind.wrap .u32 (x6.1.word + (IntKind.wrap .u32 ((IntKind.wrap .u32 p0.d) * 2097152)))) + (IntKind.wrap .u32 ((IntKind.wrap .u32 p0.a) * 65536)))) + (IntKind.wrap .u32 ((IntKind.wrap .u32 p0.b) * 2048))), rfl, le30, ow54, h53⟩, (allCons (L 5 rfl rfl) allNil)⟩
  ·skip
   refine WP.usreg rfl ?_
   refine U.p rfl rfl (.inl rfl) (S.eqlI rfl (L 0 rfl rfl) K) ?_
   refine U.p rfl rfl (.inl rfl) (S.assign rfl (L 0 rfl rfl)) ?_
   refine U.done (nr rfl) ?_
   refine WP.cond _ (L 0 rfl rfl) rfl (fun c55 => ?_) (fun c55 => ?_)
   ·have h56 := ifT c55 h8
    refine WP.skip ?_
    refine sqN ?_
    have ow57 := ow21.drop 0 rfl
    exact ⟨_, V19, rfl, ⟨true, rfl, (.refl _), ow57, h56⟩, (allCons (L 33 rfl rfl) (allCons (L 4 rfl rfl) (allCons (L 2 rfl rfl) (allCons ((L 0 rfl rfl).trans (congrArg Value.bool c55)) allNil))))⟩
   ·have h58 := ifF c55 h8
    refine WP.ureg rfl ?_
    refine U.p rfl rfl (.inl rfl) (S.eqlI rfl (L 2 rfl rfl) K) ?_
    refine U.p rfl rfl (.inl rfl) (S.assign rfl (L 0 rfl rfl)) ?_
    refine U.done (nr rfl) ?_
    refine sqN ?_
    have ow59 := ow21.drop 0 rfl
    exact ⟨_, V19, rfl, ⟨decide (x6.1.imm = 16), rfl, (.refl _), ow59, h58⟩, (allCons (L 35 rfl rfl) (allCons (L 6 rfl rfl) (allCons (L 4 rfl rfl) (allCons (L 0 rfl rfl) allNil))))⟩
set_option maxHeartbeats 4000000 in
set_option maxRecDepth 10000 in
theorem wk_ref02_Decode (V : Vw) (Rs : List At) (gl : Glb V) (p0 : Int) (ow : Ow V (Rs)) (r : TInst × Bool) (h : ref02_Decode p0 = some r) : ∃ v V', Cl Tryd.prog NG 12 #[.int .u32 p0] V.H v V'.H ∧ V.le V' ∧ (v = .tuple #[.agg #[.int .i64 r.1.op, .int .i64 r.1.d, .int .i64 r.1.a, .int .i64 r.1.b, .int .i64 r.1.imm], .bool r.2] ∧ Ow V' (Rs)) := by
 refine Ct.of gl.lo Tryd.func12 rfl (nr rfl) ?_
 unfold ref02_Decode at h
 refine WP.usreg rfl ?_
 refine O.alloc ow rfl rfl (.inl rfl) rfl ti25 rfl rfl nd (fun b1 V2 le3 ow4 => ?_)
 refine U.p rfl rfl (.inl rfl) (S.assign rfl K) ?_
 refine U.done (nr rfl) ?_
 refine WP.seq ?_
 refine WP.usreg rfl ?_
 refine U.p rfl rfl (.inl rfl) (S.assign rfl K) ?_
 refine U.done (nr rfl) ?_
 refine WP.blk ?_
 unfold ref02_Decode_l1 at h
 obtain ⟨n8, hn7⟩ := loopO_some.1 h
 refine WP.loopI2 (fun n l V' => ∃ (x6 : Int), l = [(0, .int .u32 p0), (2, .pointer (some ⟨b1, 0, none⟩)), (4, .int .i64 x6)] ∧ V2.le V' ∧ Ow V' (.pt b1 (.cells 5 [.int .i64 0, .int .i64 0, .int .i64 0, .int .i64 0, .int .i64 0]) :: Rs) ∧ itO (fun s => ref02_Decode_l1b p0 s) n x6 = some r) n8 _ ⟨1, rfl, .refl _, ow4, hn7⟩ (allCons (L 3 rfl rfl) (allCons (L 2 rfl rfl) (allCons (L 0 rfl rfl) allNil))) ?_
 rintro _ _ V9 ⟨x6, rfl, le10, ow11, h15⟩
 obtain ⟨m12, q13, rfl, h16, e14⟩ := itS h15
 replace h16 : ref02_Decode_l1b p0 x6 = some q13 := h16
 unfold ref02_Decode_l1b at h16
 refine WP.seq ?_
 refine WP.usreg rfl ?_
 refine U.p rfl rfl (.inl rfl) (S.move rfl (L 2 rfl rfl)) ?_
 refine U.p rfl rfl (.inl rfl) (S.leq rfl (L 0 rfl rfl) K) ?_
 refine U.done (nr rfl) ?_
 refine WP.cond _ (L 0 rfl rfl) rfl (fun c17 => ?_) (fun c17 => ?_)
 ·have h18 := ifT c17 h16
  refine WP.skip ?_
  refine sqN ?_
  refine WP.seq ?_
  refine WP.blk ?_
  refine WP.usreg rfl ?_
  refine U.p rfl rfl (.inl rfl) (S.move rfl (L 4 rfl rfl)) ?_
  obtain ⟨x19, hx20, h21⟩ := bindS h18
  refine O.call (V := V9) rfl rfl (.inl rfl) rfl en15 (aC (L 0 rfl rfl) aN) (wk_ref02_Of V9 _ (gl.up (le3.trans le10)) x6 ow11 _ hx20) (fun _ _ _ _ => nd) (fun v22 V23 le24 hp25 => ?_)
  obtain ⟨rfl, ow26⟩ := hp25
  refine U.p rfl rfl (.inl rfl) (S.move rfl (L 0 rfl rfl)) ?_
  refine U.p rfl rfl (.inl rfl) (S.extract rfl (L 0 rfl rfl) rfl (nr rfl)) ?_
  refine U.p rfl rfl (.inl rfl) (S.extract rfl (L 1 rfl rfl) rfl (nr rfl)) ?_
  refine O.alloc ow26 rfl rfl (.inl rfl) rfl ti37 rfl rfl nd (fun b27 V28 le29 ow30 => ?_)
  refine O.store (k := 0) (cs := [.string x19.1.name, .bool x19.1.d, .bool x19.1.a, .bool x19.1.b, .int .i64 x19.1.imm, .int .u32 x19.1.word]) (c' := [.string x19.1.name, .bool x19.1.d, .bool x19.1.a, .bool x19.1.b, .int .i64 x19.1.imm, .int .u32 x19.1.word]) ow30 rfl rfl rfl (.inl rfl) rfl (L 0 rfl rfl) (L 2 rfl rfl) ti37 (by simp [topV]) rfl rfl (nr rfl) rfl rfl nd (fun V32 le33 ow34 => ?_)
  refine U.p rfl rfl (.inl rfl) (S.assign rfl (L 1 rfl rfl)) ?_
  refine U.done (nr rfl) ?_
  refine WP.usreg rfl ?_
  refine U.p rfl rfl (.inl rfl) (S.move rfl (L 11 rfl rfl)) ?_
  refine U.p (v := .agg #[.int .i64 x6, .int .i64 0, .int .i64 0, .int .i64 0, .int .i64 0]) rfl rfl (.inl rfl) (S.build (vs := [.int .i64 x6]) rfl ti25 rfl pl25 (aC (L 0 rfl rfl) aN) (allC (by simp [topV]) allN) rfl) ?_
  refine O.alloc ow34 rfl rfl (.inl rfl) rfl ti25 rfl rfl nd (fun b35 V36 le37 ow38 => ?_)
  refine O.store (k := 0) (cs := [.int .i64 x6, .int .i64 0, .int .i64 0, .int .i64 0, .int .i64 0]) (c' := [.int .i64 x6, .int .i64 0, .int .i64 0, .int .i64 0, .int .i64 0]) ow38 rfl rfl rfl (.inl rfl) rfl (L 0 rfl rfl) (L 1 rfl rfl) ti25 (by simp [topV]) rfl rfl (nr rfl) rfl rfl nd (fun V40 le41 ow42 => ?_)
  refine U.done (nr rfl) ?_
  refine WP.seqI (fun l V' => ∃ (x43 : Int), l = [(0, .int .u32 p0), (2, .pointer (some ⟨b1, 0, none⟩)), (4, .int .i64 x6), (5, .pointer (some ⟨b27, 0, none⟩)), (7, .pointer (some ⟨b35, 0, none⟩))] ∧ V40.le V' ∧ Ow V' (.pt b1 (.cells 5 [.int .i64 0, .int .i64 0, .int .i64 0, .int .i64 0, .int .i64 0]) :: .pt b27 (.cells 6 [.string x19.1.name, .bool x19.1.d, .bool x19.1.a, .bool x19.1.b, .int .i64 x19.1.imm, .int .u32 x19.1.word]) :: .pt b35 (.cells 5 [.int .i64 x6, .int .i64 x43, .int .i64 0, .int .i64 0, .int .i64 0]) :: Rs) ∧ ref02_Decode_k1 p0 x6 x19 x43 = some q13) ?_ ?_
  ·rintro _ V44 ⟨x43, rfl, le45, ow46, h47⟩
   unfold ref02_Decode_k1 at h47
   refine WP.seqI (fun l V' => ∃ (x48 : Int), l = [(0, .int .u32 p0), (2, .pointer (some ⟨b1, 0, none⟩)), (4, .int .i64 x6), (5, .pointer (some ⟨b27, 0, none⟩)), (7, .pointer (some ⟨b35, 0, none⟩))] ∧ V44.le V' ∧ Ow V' (.pt b1 (.cells 5 [.int .i64 0, .int .i64 0, .int .i64 0, .int .i64 0, .int .i64 0]) :: .pt b27 (.cells 6 [.string x19.1.name, .bool x19.1.d, .bool x19.1.a, .bool x19.1.b, .int .i64 x19.1.imm, .int .u32 x19.1.word]) :: .pt b35 (.cells 5 [.int .i64 x6, .int .i64 x43, .int .i64 x48, .int .i64 0, .int .i64 0]) :: Rs) ∧ ref02_Decode_k2 p0 x6 x19 x43 x48 = some q13) ?_ ?_
   ·rintro _ V49 ⟨x48, rfl, le50, ow51, h52⟩
    unfold ref02_Decode_k2 at h52
    refine WP.seqI (fun l V' => ∃ (x53 : Int), l = [(0, .int .u32 p0), (2, .pointer (some ⟨b1, 0, none⟩)), (4, .int .i64 x6), (5, .pointer (some ⟨b27, 0, none⟩)), (7, .pointer (some ⟨b35, 0, none⟩))] ∧ V49.le V' ∧ Ow V' (.pt b1 (.cells 5 [.int .i64 0, .int .i64 0, .int .i64 0, .int .i64 0, .int .i64 0]) :: .pt b27 (.cells 6 [.string x19.1.name, .bool x19.1.d, .bool x19.1.a, .bool x19.1.b, .int .i64 x19.1.imm, .int .u32 x19.1.word]) :: .pt b35 (.cells 5 [.int .i64 x6, .int .i64 x43, .int .i64 x48, .int .i64 x53, .int .i64 0]) :: Rs) ∧ ref02_Decode_k3 p0 x6 x19 x43 x48 x53 = some q13) ?_ ?_
    ·rintro _ V54 ⟨x53, rfl, le55, ow56, h57⟩
     unfold ref02_Decode_k3 at h57
     refine WP.seqI (fun l V' => ∃ (x58 : Int), l = [(0, .int .u32 p0), (2, .pointer (some ⟨b1, 0, none⟩)), (4, .int .i64 x6), (7, .pointer (some ⟨b35, 0, none⟩))] ∧ V54.le V' ∧ Ow V' (.pt b1 (.cells 5 [.int .i64 0, .int .i64 0, .int .i64 0, .int .i64 0, .int .i64 0]) :: .pt b35 (.cells 5 [.int .i64 x6, .int .i64 x43, .int .i64 x48, .int .i64 x53, .int .i64 x58]) :: Rs) ∧ ref02_Decode_k4 p0 x6 x43 x48 x53 x58 = some q13) ?_ ?_
     ·rintro _ V59 ⟨x58, rfl, le60, ow61, h62⟩
      unfold ref02_Decode_k4 at h62
      refine WP.usreg rfl ?_
      refine U.k rfl rfl (.inl rfl) (S.loadB rfl (L 3 rfl rfl) Tryd.underlying25 rfl ti25 (ow61.own (k := 1) rfl).get rfl) nd ?_
      obtain ⟨x63, hx64, h65⟩ := bindS h62
      refine O.call (V := V59) rfl rfl (.inl rfl) rfl en16 (aC (L 0 rfl rfl) aN) (wk_ref02_Good V59 _ (gl.up ((((((((((le3.trans le10).trans le24).trans le29).trans le33).trans le37).trans le41).trans le45).trans le50).trans le55).trans le60)) (⟨x6, x43, x48, x53, x58⟩ : TInst) ow61 _ hx64) (fun _ _ _ _ => nd) (fun v66 V67 le68 hp69 => ?_)
      obtain ⟨rfl, ow70⟩ := hp69
      refine U.p rfl rfl (.inl rfl) (S.move rfl (L 0 rfl rfl)) ?_
      obtain ⟨y71, hy72, h73⟩ := bindS h65
      refine U.joinX 8 (fun e H => ∃ (u74 u75 u76 u77 : Value), ∃ V' : Vw, H = V'.H ∧ V67.le V' ∧ e = [(70, .bool y71), (69, u74), (68, u75), (67, u76), (66, u77)] ∧ Ow V' (.pt b1 (.cells 5 [.int .i64 0, .int .i64 0, .int .i64 0, .int .i64 0, .int .i64 0]) :: .pt b35 (.cells 5 [.int .i64 x6, .int .i64 x43, .int .i64 x48, .int .i64 x53, .int .i64 x58]) :: Rs)) ?_ ?_
      ·rintro _ _ ⟨u74, u75, u76, u77, V78, rfl, le79, rfl, ow80⟩
       refine U.done (nr rfl) ?_
       refine WP.cond _ (L 0 rfl rfl) rfl (fun c81 => ?_) (fun c81 => ?_)
       ·have h82 := ifT c81 h73
        refine WP.usreg rfl ?_
        refine U.k rfl rfl (.inl rfl) (S.loadB rfl (L 11 rfl rfl) Tryd.underlying25 rfl ti25 (ow80.own (k := 1) rfl).get rfl) nd ?_
        refine O.store (k := 0) (cs := [.int .i64 x6, .int .i64 x43, .int .i64 x48, .int .i64 x53, .int .i64 x58]) (c' := [.int .i64 x6, .int .i64 x43, .int .i64 x48, .int .i64 x53, .int .i64 x58]) ow80 rfl rfl rfl (.inl rfl) rfl (L 10 rfl rfl) (L 0 rfl rfl) ti25 (by simp [topV]) rfl rfl (nr rfl) rfl rfl nd (fun V83 le84 ow85 => ?_)
        refine U.p rfl rfl (.inl rfl) (S.assign rfl K) ?_
        refine U.done (nr rfl) ?_
        refine WP.ret ?_
        refine blkR (sqR (sqR (blkR (sqR ?_))))
        have h86 := exitS h82 e14
        refine fin.mix (.inr rfl) (resA (L 11 rfl rfl) Tryd.underlying25 rfl ti25 (ow85.own (k := 0) rfl).get rfl (resT (L 0 rfl rfl) res0)) rfl ⟨V83, rfl, (((((((((((((le3.trans le10).trans le24).trans le29).trans le33).trans le37).trans le41).trans le45).trans le50).trans le55).trans le60).trans le68).trans le79).trans le84), ?_⟩
        have ow87 := ow85.drop 0 rfl
        have ow88 := ow87.drop 0 rfl
        have e89 := Option.some.inj h86
        subst e89
        exact ⟨rfl, ow88⟩
       ·have h90 := ifF c81 h73
        refine WP.skip ?_
        refine blkN (sqN ?_)
        refine WP.ureg rfl ?_
        refine U.p rfl rfl (.inl rfl) (S.move rfl (L 10 rfl rfl)) ?_
        refine U.p rfl rfl (.inl rfl) (S.add rfl (L 0 rfl rfl) K) ?_
        refine U.p rfl rfl (.inl rfl) (S.assign rfl (L 0 rfl rfl)) ?_
        refine U.done (nr rfl) ?_
        refine sqN ?_
        have ow91 := ow80.drop 1 rfl
        exact ⟨_, V78, rfl, ⟨m12, Nat.lt_succ_self _, w64 (x6 + 1), rfl, (((((((((((le10.trans le24).trans le29).trans le33).trans le37).trans le41).trans le45).trans le50).trans le55).trans le60).trans le68).trans le79), ow91, backS h90 e14⟩, (allCons (L 11 rfl rfl) (allCons (L 12 rfl rfl) (allCons (L 0 rfl rfl) allNil)))⟩
      ·intro kk
       refine bcase (b := x63) (fun g92 => ?_) (fun g92 => ?_)
       ·have h93 := ifT g92 hy72
        refine U.k rfl rfl (.inr ⟨_, _, _, rfl, rfl, ((L 0 rfl rfl).trans (congrArg Value.bool g92))⟩) (S.loadB rfl (L 6 rfl rfl) Tryd.underlying25 rfl ti25 (ow70.own (k := 1) rfl).get rfl) nd ?_
        obtain ⟨x94, hx95, h96⟩ := bindS h93
        refine O.call (V := V67) rfl rfl (.inr ⟨_, _, _, rfl, rfl, ((L 1 rfl rfl).trans (congrArg Value.bool g92))⟩) rfl en23 (aC (L 0 rfl rfl) aN) (wk_ref02_Encode V67 _ (gl.up (((((((((((le3.trans le10).trans le24).trans le29).trans le33).trans le37).trans le41).trans le45).trans le50).trans le55).trans le60).trans le68)) (⟨x6, x43, x48, x53, x58⟩ : TInst) ow70 _ hx95) (fun _ _ _ _ => nd) (fun v97 V98 le99 hp100 => ?_)
        obtain ⟨rfl, ow101⟩ := hp100
        refine U.p rfl rfl (.inr ⟨_, _, _, rfl, rfl, ((L 2 rfl rfl).trans (congrArg Value.bool g92))⟩) (S.move rfl (L 5 rfl rfl)) ?_
        refine U.p rfl rfl (.inr ⟨_, _, _, rfl, rfl, ((L 3 rfl rfl).trans (congrArg Value.bool g92))⟩) (S.eqlI rfl (L 1 rfl rfl) (L 0 rfl rfl)) ?_
        refine U.p rfl rfl (.inl rfl) (S.pickT rfl ((L 4 rfl rfl).trans (congrArg Value.bool g92)) (L 0 rfl rfl)) ?_
        have e102 := Option.some.inj h96
        subst e102
        exact kk [(70, .bool (decide (x94 = p0))), (69, .bool (decide (x94 = p0))), (68, .int .u32 p0), (67, .int .u32 x94), (66, .agg #[.int .i64 x6, .int .i64 x43, .int .i64 x48, .int .i64 x53, .int .i64 x58])] _ ⟨.bool (decide (x94 = p0)), .int .u32 p0, .int .u32 x94, .agg #[.int .i64 x6, .int .i64 x43, .int .i64 x48, .int .i64 x53, .int .i64 x58], V98, rfl, le99, rfl, ow101⟩
       ·have h103 := ifF g92 hy72
        refine U.x rfl rfl rfl rfl ((L 0 rfl rfl).trans (congrArg Value.bool g92)) (by decide) ?_
        refine U.x rfl rfl rfl rfl ((L 1 rfl rfl).trans (congrArg Value.bool g92)) (by decide) ?_
        refine U.x rfl rfl rfl rfl ((L 2 rfl rfl).trans (congrArg Value.bool g92)) (by decide) ?_
        refine U.x rfl rfl rfl rfl ((L 3 rfl rfl).trans (congrArg Value.bool g92)) (by decide) ?_
        refine U.p rfl rfl (.inl rfl) (S.pickF rfl ((L 4 rfl rfl).trans (congrArg Value.bool g92)) K) ?_
        have e104 := Option.some.inj h103
        subst e104
        exact kk [(70, .bool false), (69, .tuple #[]), (68, .tuple #[]), (67, .tuple #[]), (66, .tuple #[])] _ ⟨.tuple #[], .tuple #[], .tuple #[], .tuple #[], V67, rfl, (.refl _), rfl, ow70⟩
     ·skip
      refine WP.usreg rfl ?_
      refine U.p (v := .pointer (some ⟨b27, 4, none⟩)) rfl rfl (.inl rfl) (S.fieldAddr rfl (L 3 rfl rfl) Tryd.underlying37 rfl ti3 rfl rfl) ?_
      refine U.k rfl rfl (.inl rfl) (S.load rfl (L 0 rfl rfl) Tryd.underlying3 rfl ((ow56.own (k := 1) rfl).cell rfl)) nd ?_
      refine U.done (nr rfl) ?_
      refine WP.blk ?_
      refine WP.usreg rfl ?_
      refine U.p rfl rfl (.inl rfl) (S.eqlI rfl (L 0 rfl rfl) K) ?_
      refine U.p rfl rfl (.inl rfl) (S.assign rfl (L 0 rfl rfl)) ?_
      refine U.done (nr rfl) ?_
      refine WP.cond _ (L 0 rfl rfl) rfl (fun c105 => ?_) (fun c105 => ?_)
      ·have h106 := ifT c105 h57
       refine WP.ureg rfl ?_
       refine U.p rfl rfl (.inl rfl) (S.move rfl (L 4 rfl rfl)) ?_
       obtain ⟨x107, hx108, h109⟩ := bindS h106
       refine O.call (V := V54) rfl rfl (.inl rfl) rfl en26 (aC (L 0 rfl rfl) (aC K aN)) (wk_ref01_Signed V54 _ (gl.up (((((((((le3.trans le10).trans le24).trans le29).trans le33).trans le37).trans le41).trans le45).trans le50).trans le55)) p0 16 ow56 _ hx108) (fun _ _ _ _ => nd) (fun v110 V111 le112 hp113 => ?_)
       obtain ⟨rfl, ow114⟩ := hp113
       refine U.p (v := .pointer (some ⟨b35, 4, none⟩)) rfl rfl (.inl rfl) (S.fieldAddr rfl (L 10 rfl rfl) Tryd.underlying25 rfl ti3 rfl rfl) ?_
       refine O.store (k := 2) (cs := [.int .i64 x107]) (c' := [.int .i64 x6, .int .i64 x43, .int .i64 x48, .int .i64 x53, .int .i64 x107]) ow114 rfl rfl rfl (.inl rfl) rfl (L 0 rfl rfl) (L 1 rfl rfl) ti3 (by simp [topV]) rfl rfl (nr rfl) rfl rfl nd (fun V115 le116 ow117 => ?_)
       refine U.done (nr rfl) ?_
       refine blkN (sqN ?_)
       have ow118 := ow117.drop 1 rfl
       exact ⟨_, V115, rfl, ⟨x107, rfl, (le112.trans le116), ow118, h109⟩, (allCons (L 7 rfl rfl) (allCons (L 8 rfl rfl) (allCons (L 9 rfl rfl) (allCons (L 11 rfl rfl) allNil))))⟩
      ·have h119 := ifF c105 h57
       refine WP.usreg rfl ?_
       refine U.p rfl rfl (.inl rfl) (S.eqlI rfl (L 2 rfl rfl) K) ?_
       refine U.p rfl rfl (.inl rfl) (S.assign rfl (L 0 rfl rfl)) ?_
       refine U.done (nr rfl) ?_
       refine WP.cond _ (L 0 rfl rfl) rfl (fun c120 => ?_) (fun c120 => ?_)
       ·have h121 := ifT c120 h119
        refine WP.ureg rfl ?_
        refine U.p rfl rfl (.inl rfl) (S.move rfl (L 6 rfl rfl)) ?_
        obtain ⟨x122, hx123, h124⟩ := bindS h121
        refine O.call (V := V54) rfl rfl (.inl rfl) rfl en25 (aC (L 0 rfl rfl) (aC K (aC K aN))) (wk_ref01_Get V54 _ (gl.up (((((((((le3.trans le10).trans le24).trans le29).trans le33).trans le37).trans le41).trans le45).trans le50).trans le55)) p0 16 14 ow56 _ hx123) (fun _ _ _ _ => nd) (fun v125 V126 le127 hp128 => ?_)
        obtain ⟨rfl, ow129⟩ := hp128
        obtain ⟨x130, hx131, h132⟩ := bindS h124
        refine O.call (V := V126) rfl rfl (.inl rfl) rfl en26 (aC (L 0 rfl rfl) (aC K aN)) (wk_ref01_Signed V126 _ (gl.up ((((((((((le3.trans le10).trans le24).trans le29).trans le33).trans le37).trans le41).trans le45).trans le50).trans le55).trans le127)) x122 14 ow129 _ hx131) (fun _ _ _ _ => nd) (fun v133 V134 le135 hp136 => ?_)
        obtain ⟨rfl, ow137⟩ := hp136
        refine U.p rfl rfl (.inl rfl) (S.mul rfl K (L 0 rfl rfl)) ?_
        refine U.p (v := .pointer (some ⟨b35, 4, none⟩)) rfl rfl (.inl rfl) (S.fieldAddr rfl (L 14 rfl rfl) Tryd.underlying25 rfl ti3 rfl rfl) ?_
        refine O.store (k := 2) (cs := [.int .i64 (w64 (4 * x130))]) (c' := [.int .i64 x6, .int .i64 x43, .int .i64 x48, .int .i64 x53, .int .i64 (w64 (4 * x130))]) ow137 rfl rfl rfl (.inl rfl) rfl (L 0 rfl rfl) (L 1 rfl rfl) ti3 (by simp [topV]) rfl rfl (nr rfl) rfl rfl nd (fun V138 le139 ow140 => ?_)
        refine U.done (nr rfl) ?_
        refine blkN (sqN ?_)
        have ow141 := ow140.drop 1 rfl
        exact ⟨_, V138, rfl, ⟨w64 (4 * x130), rfl, ((le127.trans le135).trans le139), ow141, h132⟩, (allCons (L 11 rfl rfl) (allCons (L 12 rfl rfl) (allCons (L 13 rfl rfl) (allCons (L 15 rfl rfl) allNil))))⟩
       ·have h142 := ifF c120 h119
        refine WP.usreg rfl ?_
        refine U.p rfl rfl (.inl rfl) (S.eqlI rfl (L 4 rfl rfl) K) ?_
        refine U.p rfl rfl (.inl rfl) (S.assign rfl (L 0 rfl rfl)) ?_
        refine U.done (nr rfl) ?_
        refine WP.cond _ (L 0 rfl rfl) rfl (fun c143 => ?_) (fun c143 => ?_)
        ·have h144 := ifT c143 h142
         refine WP.ureg rfl ?_
         refine U.p rfl rfl (.inl rfl) (S.move rfl (L 8 rfl rfl)) ?_
         obtain ⟨x145, hx146, h147⟩ := bindS h144
         refine O.call (V := V54) rfl rfl (.inl rfl) rfl en25 (aC (L 0 rfl rfl) (aC K (aC K aN))) (wk_ref01_Get V54 _ (gl.up (((((((((le3.trans le10).trans le24).trans le29).trans le33).trans le37).trans le41).trans le45).trans le50).trans le55)) p0 16 14 ow56 _ hx146) (fun _ _ _ _ => nd) (fun v148 V149 le150 hp151 => ?_)
         obtain ⟨rfl, ow152⟩ := hp151
         obtain ⟨x153, hx154, h155⟩ := bindS h147
         refine O.call (V := V149) rfl rfl (.inl rfl) rfl en26 (aC (L 0 rfl rfl) (aC K aN)) (wk_ref01_Signed V149 _ (gl.up ((((((((((le3.trans le10).trans le24).trans le29).trans le33).trans le37).trans le41).trans le45).trans le50).trans le55).trans le150)) x145 14 ow152 _ hx154) (fun _ _ _ _ => nd) (fun v156 V157 le158 hp159 => ?_)
         obtain ⟨rfl, ow160⟩ := hp159
         refine U.p (v := .pointer (some ⟨b35, 4, none⟩)) rfl rfl (.inl rfl) (S.fieldAddr rfl (L 15 rfl rfl) Tryd.underlying25 rfl ti3 rfl rfl) ?_
         refine O.store (k := 2) (cs := [.int .i64 x153]) (c' := [.int .i64 x6, .int .i64 x43, .int .i64 x48, .int .i64 x53, .int .i64 x153]) ow160 rfl rfl rfl (.inl rfl) rfl (L 0 rfl rfl) (L 1 rfl rfl) ti3 (by simp [topV]) rfl rfl (nr rfl) rfl rfl nd (fun V161 le162 ow163 => ?_)
         refine U.done (nr rfl) ?_
         refine blkN (sqN ?_)
         have ow164 := ow163.drop 1 rfl
         exact ⟨_, V161, rfl, ⟨x153, rfl, ((le150.trans le158).trans le162), ow164, h155⟩, (allCons (L 12 rfl rfl) (allCons (L 13 rfl rfl) (allCons (L 14 rfl rfl) (allCons (L 16 rfl rfl) allNil))))⟩
        ·have h165 := ifF c143 h142
         refine WP.usreg rfl ?_
         refine U.p rfl rfl (.inl rfl) (S.eqlI rfl (L 6 rfl rfl) K) ?_
         refine U.p rfl rfl (.inl rfl) (S.assign rfl (L 0 rfl rfl)) ?_
         refine U.done (nr rfl) ?_
         refine WP.cond _ (L 0 rfl rfl) rfl (fun c166 => ?_) (fun c166 => ?_)
         ·have h167 := ifT c166 h165
          refine WP.ureg rfl ?_
          refine U.p rfl rfl (.inl rfl) (S.move rfl (L 10 rfl rfl)) ?_
          obtain ⟨x168, hx169, h170⟩ := bindS h167
          refine O.call (V := V54) rfl rfl (.inl rfl) rfl en25 (aC (L 0 rfl rfl) (aC K (aC K aN))) (wk_ref01_Get V54 _ (gl.up (((((((((le3.trans le10).trans le24).trans le29).trans le33).trans le37).trans le41).trans le45).trans le50).trans le55)) p0 6 24 ow56 _ hx169) (fun _ _ _ _ => nd) (fun v171 V172 le173 hp174 => ?_)
          obtain ⟨rfl, ow175⟩ := hp174
          obtain ⟨x176, hx177, h178⟩ := bindS h170
          refine O.call (V := V172) rfl rfl (.inl rfl) rfl en26 (aC (L 0 rfl rfl) (aC K aN)) (wk_ref01_Signed V172 _ (gl.up ((((((((((le3.trans le10).trans le24).trans le29).trans le33).trans le37).trans le41).trans le45).trans le50).trans le55).trans le173)) x168 24 ow175 _ hx177) (fun _ _ _ _ => nd) (fun v179 V180 le181 hp182 => ?_)
          obtain ⟨rfl, ow183⟩ := hp182
          refine U.p (v := .pointer (some ⟨b35, 4, none⟩)) rfl rfl (.inl rfl) (S.fieldAddr rfl (L 17 rfl rfl) Tryd.underlying25 rfl ti3 rfl rfl) ?_
          refine O.store (k := 2) (cs := [.int .i64 x176]) (c' := [.int .i64 x6, .int .i64 x43, .int .i64 x48, .int .i64 x53, .int .i64 x176]) ow183 rfl rfl rfl (.inl rfl) rfl (L 0 rfl rfl) (L 1 rfl rfl) ti3 (by simp [topV]) rfl rfl (nr rfl) rfl rfl nd (fun V184 le185 ow186 => ?_)
          refine U.done (nr rfl) ?_
          refine blkN (sqN ?_)
          have ow187 := ow186.drop 1 rfl
          exact ⟨_, V184, rfl, ⟨x176, rfl, ((le173.trans le181).trans le185), ow187, h178⟩, (allCons (L 14 rfl rfl) (allCons (L 15 rfl rfl) (allCons (L 16 rfl rfl) (allCons (L 18 rfl rfl) allNil))))⟩
         ·have h188 := ifF c166 h165
          refine WP.skip ?_
          refine blkN (sqN ?_)
          have ow189 := ow56.drop 1 rfl
          exact ⟨_, V54, rfl, ⟨0, rfl, (.refl _), ow189, h188⟩, (allCons (L 10 rfl rfl) (allCons (L 11 rfl rfl) (allCons (L 12 rfl rfl) (allCons (L 14 rfl rfl) allNil))))⟩
    ·skip
     refine WP.usreg rfl ?_
     refine U.p (v := .pointer (some ⟨b27, 3, none⟩)) rfl rfl (.inl rfl) (S.fieldAddr rfl (L 3 rfl rfl) Tryd.underlying37 rfl ti4 rfl rfl) ?_
     refine U.k rfl rfl (.inl rfl) (S.load rfl (L 0 rfl rfl) Tryd.underlying4 rfl ((ow51.own (k := 1) rfl).cell rfl)) nd ?_
     refine U.done (nr rfl) ?_
     refine WP.cond _ (L 0 rfl rfl) rfl (fun c190 => ?_) (fun c190 => ?_)
     ·have h191 := ifT c190 h52
      refine WP.ureg rfl ?_
      refine U.p rfl rfl (.inl rfl) (S.move rfl (L 2 rfl rfl)) ?_
      obtain ⟨x192, hx193, h194⟩ := bindS h191
      refine O.call (V := V49) rfl rfl (.inl rfl) rfl en25 (aC (L 0 rfl rfl) (aC K (aC K aN))) (wk_ref01_Get V49 _ (gl.up ((((((((le3.trans le10).trans le24).trans le29).trans le33).trans le37).trans le41).trans le45).trans le50)) p0 16 5 ow51 _ hx193) (fun _ _ _ _ => nd) (fun v195 V196 le197 hp198 => ?_)
      obtain ⟨rfl, ow199⟩ := hp198
      refine U.p rfl rfl (.inl rfl) (S.conv rfl (L 0 rfl rfl) Tryd.underlying22 Tryd.underlying3) ?_
      refine U.p (v := .pointer (some ⟨b35, 3, none⟩)) rfl rfl (.inl rfl) (S.fieldAddr rfl (L 9 rfl rfl) Tryd.underlying25 rfl ti3 rfl rfl) ?_
      refine O.store (k := 2) (cs := [.int .i64 (w64 x192)]) (c' := [.int .i64 x6, .int .i64 x43, .int .i64 x48, .int .i64 (w64 x192), .int .i64 0]) ow199 rfl rfl rfl (.inl rfl) rfl (L 0 rfl rfl) (L 1 rfl rfl) ti3 (by simp [topV]) rfl rfl (nr rfl) rfl rfl nd (fun V200 le201 ow202 => ?_)
      refine U.done (nr rfl) ?_
      refine sqN ?_
      exact ⟨_, V200, rfl, ⟨w64 x192, rfl, (le197.trans le201), ow202, h194⟩, (allCons (L 6 rfl rfl) (allCons (L 7 rfl rfl) (allCons (L 8 rfl rfl) (allCons (L 9 rfl rfl) (allCons (L 10 rfl rfl) allNil)))))⟩
     ·have h203 := ifF c190 h52
      refine WP.skip ?_
      refine sqN ?_
      exact ⟨_, V49, rfl, ⟨0, rfl, (.refl _), ow51, h203⟩, (allCons (L 2 rfl rfl) (allCons (L 3 rfl rfl) (allCons (L 4 rfl rfl) (allCons (L 5 rfl rfl) (allCons (L 6 rfl rfl) allNil)))))⟩
   ·skip
    refine WP.usreg rfl ?_
    refine U.p (v := .pointer (some ⟨b27, 2, none⟩)) rfl rfl (.inl rfl) (S.fieldAddr rfl (L 3 rfl rfl) Tryd.underlying37 rfl ti4 rfl rfl) ?_
    refine U.k rfl rfl (.inl rfl) (S.load rfl (L 0 rfl rfl) Tryd.underlying4 rfl ((ow46.own (k := 1) rfl).cell rfl)) nd ?_
    refine U.done (nr rfl) ?_
    refine WP.cond _ (L 0 rfl rfl) rfl (fun c204 => ?_) (fun c204 => ?_)
    ·have h205 := ifT c204 h47
     refine WP.ureg rfl ?_
     refine U.p rfl rfl (.inl rfl) (S.move rfl (L 2 rfl rfl)) ?_
     obtain ⟨x206, hx207, h208⟩ := bindS h205
     refine O.call (V := V44) rfl rfl (.inl rfl) rfl en25 (aC (L 0 rfl rfl) (aC K (aC K aN))) (wk_ref01_Get V44 _ (gl.up (((((((le3.trans le10).trans le24).trans le29).trans le33).trans le37).trans le41).trans le45)) p0 11 5 ow46 _ hx207) (fun _ _ _ _ => nd) (fun v209 V210 le211 hp212 => ?_)
     obtain ⟨rfl, ow213⟩ := hp212
     refine U.p rfl rfl (.inl rfl) (S.conv rfl (L 0 rfl rfl) Tryd.underlying22 Tryd.underlying3) ?_
     refine U.p (v := .pointer (some ⟨b35, 2, none⟩)) rfl rfl (.inl rfl) (S.fieldAddr rfl (L 9 rfl rfl) Tryd.underlying25 rfl ti3 rfl rfl) ?_
     refine O.store (k := 2) (cs := [.int .i64 (w64 x206)]) (c' := [.int .i64 x6, .int .i64 x43, .int .i64 (w64 x206), .int .i64 0, .int .i64 0]) ow213 rfl rfl rfl (.inl rfl) rfl (L 0 rfl rfl) (L 1 rfl rfl) ti3 (by simp [topV]) rfl rfl (nr rfl) rfl rfl nd (fun V214 le215 ow216 => ?_)
     refine U.done (nr rfl) ?_
     refine sqN ?_
     exact ⟨_, V214, rfl, ⟨w64 x206, rfl, (le211.trans le215), ow216, h208⟩, (allCons (L 6 rfl rfl) (allCons (L 7 rfl rfl) (allCons (L 8 rfl rfl) (allCons (L 9 rfl rfl) (allCons (L 10 rfl rfl) allNil)))))⟩
    ·have h217 := ifF c204 h47
     refine WP.skip ?_
     refine sqN ?_
     exact ⟨_, V44, rfl, ⟨0, rfl, (.refl _), ow46, h217⟩, (allCons (L 2 rfl rfl) (allCons (L 3 rfl rfl) (allCons (L 4 rfl rfl) (allCons (L 5 rfl rfl) (allCons (L 6 rfl rfl) allNil)))))⟩
  ·skip
   refine WP.usreg rfl ?_
   refine U.p (v := .pointer (some ⟨b27, 1, none⟩)) rfl rfl (.inl rfl) (S.fieldAddr rfl (L 4 rfl rfl) Tryd.underlying37 rfl ti4 rfl rfl) ?_
   refine U.k rfl rfl (.inl rfl) (S.load rfl (L 0 rfl rfl) Tryd.underlying4 rfl ((ow42.own (k := 1) rfl).cell rfl)) nd ?_
   refine U.done (nr rfl) ?_
   refine WP.cond _ (L 0 rfl rfl) rfl (fun c218 => ?_) (fun c218 => ?_)
   ·have h219 := ifT c218 h21
    refine WP.ureg rfl ?_
    refine U.p rfl rfl (.inl rfl) (S.move rfl (L 14 rfl rfl)) ?_
    obtain ⟨x220, hx221, h222⟩ := bindS h219
    refine O.call (V := V40) rfl rfl (.inl rfl) rfl en25 (aC (L 0 rfl rfl) (aC K (aC K aN))) (wk_ref01_Get V40 _ (gl.up ((((((le3.trans le10).trans le24).trans le29).trans le33).trans le37).trans le41)) p0 6 5 ow42 _ hx221) (fun _ _ _ _ => nd) (fun v223 V224 le225 hp226 => ?_)
    obtain ⟨rfl, ow227⟩ := hp226
    refine U.p rfl rfl (.inl rfl) (S.conv rfl (L 0 rfl rfl) Tryd.underlying22 Tryd.underlying3) ?_
    refine U.p (v := .pointer (some ⟨b35, 1, none⟩)) rfl rfl (.inl rfl) (S.fieldAddr rfl (L 5 rfl rfl) Tryd.underlying25 rfl ti3 rfl rfl) ?_
    refine O.store (k := 0) (cs := [.int .i64 (w64 x220)]) (c' := [.int .i64 x6, .int .i64 (w64 x220), .int .i64 0, .int .i64 0, .int .i64 0]) ow227 rfl rfl rfl (.inl rfl) rfl (L 0 rfl rfl) (L 1 rfl rfl) ti3 (by simp [topV]) rfl rfl (nr rfl) rfl rfl nd (fun V228 le229 ow230 => ?_)
    refine U.done (nr rfl) ?_
    refine sqN ?_
    have ow231 := ow230.pick 0 rfl
    have ow232 := ow231.pick 1 rfl
    have ow233 := ow232.pick 2 rfl
    exact ⟨_, V228, rfl, ⟨w64 x220, rfl, (le225.trans le229), ow233, h222⟩, (allCons (L 18 rfl rfl) (allCons (L 19 rfl rfl) (allCons (L 20 rfl rfl) (allCons (L 10 rfl rfl) (allCons (L 6 rfl rfl) allNil)))))⟩
   ·have h234 := ifF c218 h21
    refine WP.skip ?_
    refine sqN ?_
    have ow235 := ow42.pick 0 rfl
    have ow236 := ow235.pick 1 rfl
    have ow237 := ow236.pick 2 rfl
    exact ⟨_, V40, rfl, ⟨0, rfl, (.refl _), ow237, h234⟩, (allCons (L 14 rfl rfl) (allCons (L 15 rfl rfl) (allCons (L 16 rfl rfl) (allCons (L 6 rfl rfl) (allCons (L 2 rfl rfl) allNil)))))⟩
 ·have h238 := ifF c17 h16
  refine WP.exit ?_
  refine sqE (sqE (blkE (sqN ?_)))
  have h239 := exitS h238 e14
  refine WP.usreg rfl ?_
  refine U.p (v := .agg #[.int .i64 0, .int .i64 0, .int .i64 0, .int .i64 0, .int .i64 0]) rfl rfl (.inl rfl) (S.build (vs := []) rfl ti25 rfl pl25 aN allN rfl) ?_
  refine O.store (k := 0) (cs := [.int .i64 0, .int .i64 0, .int .i64 0, .int .i64 0, .int .i64 0]) (c' := [.int .i64 0, .int .i64 0, .int .i64 0, .int .i64 0, .int .i64 0]) ow11 rfl rfl rfl (.inl rfl) rfl (L 4 rfl rfl) (L 0 rfl rfl) ti25 (by simp [topV]) rfl rfl (nr rfl) rfl rfl nd (fun V240 le241 ow242 => ?_)
  refine U.p rfl rfl (.inl rfl) (S.assign rfl K) ?_
  refine U.done (nr rfl) ?_
  refine WP.ret ?_
  refine fin.mix (.inr rfl) (resA (L 5 rfl rfl) Tryd.underlying25 rfl ti25 (ow242.own (k := 0) rfl).get rfl (resT (L 0 rfl rfl) res0)) rfl ⟨V240, rfl, ((le3.trans le10).trans le241), ?_⟩
  have ow243 := ow242.drop 0 rfl
  have e244 := Option.some.inj h239
  subst e244
  exact ⟨rfl, ow243⟩
set_option maxHeartbeats 4000000 in
set_option maxRecDepth 10000 in
theorem wk_law02_IsaReads (V : Vw) (Rs : List At) (gl : Glb V) (p0 : Int) (ow : Ow V (Rs)) (r : Bool) (h : law02_IsaReads p0 = some r) : ∃ v V', Cl Tryd.prog NG 3 #[.int .u32 p0] V.H v V'.H ∧ V.le V' ∧ (v = .bool r ∧ Ow V' (Rs)) := by
 refine Ct.of gl.lo Tryd.func3 rfl (nr rfl) ?_
 unfold law02_IsaReads at h
 refine WP.usreg rfl ?_
 refine U.p rfl rfl (.inl rfl) (S.assign rfl K) ?_
 refine U.done (nr rfl) ?_
 refine WP.seq ?_
 refine WP.usreg rfl ?_
 obtain ⟨x1, hx2, h3⟩ := bindS h
 refine O.call (V := V) rfl rfl (.inl rfl) rfl en10 aN (wk_law02_alive V _ gl ow _ hx2) (fun _ _ _ _ => nd) (fun v4 V5 le6 hp7 => ?_)
 obtain ⟨rfl, ow8⟩ := hp7
 refine U.p rfl rfl (.inl rfl) (S.not rfl (L 0 rfl rfl)) ?_
 refine U.done (nr rfl) ?_
 refine WP.cond _ (L 0 rfl rfl) rfl (fun c9 => ?_) (fun c9 => ?_)
 ·have h10 := ifT c9 h3
  have k11 : x1 = false := nT c9
  refine WP.usreg rfl ?_
  refine U.p rfl rfl (.inl rfl) (S.assign rfl K) ?_
  refine U.done (nr rfl) ?_
  refine WP.ret ?_
  refine sqR ?_
  refine fin.slot (.inr rfl) rfl (L 0 rfl rfl) ⟨V5, rfl, le6, ?_⟩
  have e12 := Option.some.inj h10
  subst e12
  exact ⟨rfl, ow8⟩
 ·have h13 := ifF c9 h3
  have k14 : x1 = true := nF c9
  refine WP.skip ?_
  refine sqN ?_
  refine WP.usreg rfl ?_
  refine U.p rfl rfl (.inl rfl) (S.move rfl (L 3 rfl rfl)) ?_
  obtain ⟨x15, hx16, h17⟩ := bindS h13
  refine O.call (V := V5) rfl rfl (.inl rfl) rfl en11 (aC (L 0 rfl rfl) aN) (wk_isa_Decode V5 _ (gl.up le6) p0 ow8 _ hx16) (fun _ _ _ _ => nd) (fun v18 V19 le20 hp21 => ?_)
  obtain ⟨rfl, ow22⟩ := hp21
  refine U.p rfl rfl (.inl rfl) (S.move rfl (L 0 rfl rfl)) ?_
  refine U.p rfl rfl (.inl rfl) (S.extract rfl (L 0 rfl rfl) rfl (nr rfl)) ?_
  refine U.p rfl rfl (.inl rfl) (S.extract rfl (L 1 rfl rfl) rfl (nr rfl)) ?_
  refine O.alloc ow22 rfl rfl (.inl rfl) rfl ti25 rfl rfl nd (fun b23 V24 le25 ow26 => ?_)
  refine O.store (k := 0) (cs := [.int .i64 x15.1.op, .int .i64 x15.1.d, .int .i64 x15.1.a, .int .i64 x15.1.b, .int .i64 x15.1.imm]) (c' := [.int .i64 x15.1.op, .int .i64 x15.1.d, .int .i64 x15.1.a, .int .i64 x15.1.b, .int .i64 x15.1.imm]) ow26 rfl rfl rfl (.inl rfl) rfl (L 0 rfl rfl) (L 2 rfl rfl) ti25 (by simp [topV]) rfl rfl (nr rfl) rfl rfl nd (fun V28 le29 ow30 => ?_)
  refine U.p rfl rfl (.inl rfl) (S.assign rfl (L 1 rfl rfl)) ?_
  refine U.done (nr rfl) ?_
  refine WP.usreg rfl ?_
  refine U.p rfl rfl (.inl rfl) (S.move rfl (L 10 rfl rfl)) ?_
  obtain ⟨x31, hx32, h33⟩ := bindS h17
  refine O.call (V := V28) rfl rfl (.inl rfl) rfl en12 (aC (L 0 rfl rfl) aN) (wk_ref02_Decode V28 _ (gl.up (((le6.trans le20).trans le25).trans le29)) p0 ow30 _ hx32) (fun _ _ _ _ => nd) (fun v34 V35 le36 hp37 => ?_)
  obtain ⟨rfl, ow38⟩ := hp37
  refine U.p rfl rfl (.inl rfl) (S.move rfl (L 0 rfl rfl)) ?_
  refine U.p rfl rfl (.inl rfl) (S.extract rfl (L 0 rfl rfl) rfl (nr rfl)) ?_
  refine U.p rfl rfl (.inl rfl) (S.extract rfl (L 1 rfl rfl) rfl (nr rfl)) ?_
  refine O.alloc ow38 rfl rfl (.inl rfl) rfl ti25 rfl rfl nd (fun b39 V40 le41 ow42 => ?_)
  refine O.store (k := 0) (cs := [.int .i64 x31.1.op, .int .i64 x31.1.d, .int .i64 x31.1.a, .int .i64 x31.1.b, .int .i64 x31.1.imm]) (c' := [.int .i64 x31.1.op, .int .i64 x31.1.d, .int .i64 x31.1.a, .int .i64 x31.1.b, .int .i64 x31.1.imm]) ow42 rfl rfl rfl (.inl rfl) rfl (L 0 rfl rfl) (L 2 rfl rfl) ti25 (by simp [topV]) rfl rfl (nr rfl) rfl rfl nd (fun V44 le45 ow46 => ?_)
  refine U.p rfl rfl (.inl rfl) (S.assign rfl (L 1 rfl rfl)) ?_
  refine U.done (nr rfl) ?_
  refine WP.seq ?_
  refine WP.usreg rfl ?_
  refine U.k rfl rfl (.inl rfl) (S.loadB rfl (L 8 rfl rfl) Tryd.underlying25 rfl ti25 (ow46.own (k := 1) rfl).get rfl) nd ?_
  refine U.k rfl rfl (.inl rfl) (S.loadB rfl (L 2 rfl rfl) Tryd.underlying25 rfl ti25 (ow46.own (k := 0) rfl).get rfl) nd ?_
  refine U.p rfl rfl (.inl rfl) (S.neqT (flA (flC (.int _ _) (flC (.int _ _) (flC (.int _ _) (flC (.int _ _) (flC (.int _ _) flN)))))) (flA (flC (.int _ _) (flC (.int _ _) (flC (.int _ _) (flC (.int _ _) (flC (.int _ _) flN)))))) rfl (L 1 rfl rfl) (L 0 rfl rfl) Tryd.underlying25 (by kernel_rfl) (by kernel_rfl) (.cons _ _ _ _ _ _ (by decide) (part_cell Tryd.underlying3 rfl rfl) (part_cell Tryd.underlying3 rfl rfl) (eqIn_int Tryd.underlying3 9998) (.cons _ _ _ _ _ _ (by decide) (part_cell Tryd.underlying3 rfl rfl) (part_cell Tryd.underlying3 rfl rfl) (eqIn_int Tryd.underlying3 9998) (.cons _ _ _ _ _ _ (by decide) (part_cell Tryd.underlying3 rfl rfl) (part_cell Tryd.underlying3 rfl rfl) (eqIn_int Tryd.underlying3 9998) (.cons _ _ _ _ _ _ (by decide) (part_cell Tryd.underlying3 rfl rfl) (part_cell Tryd.underlying3 rfl rfl) (eqIn_int Tryd.underlying3 9998) (.cons _ _ _ _ _ _ (by decide) (part_cell Tryd.underlying3 rfl rfl) (part_cell Tryd.underlying3 rfl rfl) (eqIn_int Tryd.underlying3 9998) .nil)))))) ?_
  refine U.p rfl rfl (.inl rfl) (S.move rfl (L 0 rfl rfl)) ?_
  refine U.joinX 9 (fun e H => ∃ (u47 u48 u49 u50 : Value), H = V44.H ∧ e = [(29, .bool ((!((decide (x15.1.op = x31.1.op)) && ((decide (x15.1.d = x31.1.d)) && ((decide (x15.1.a = x31.1.a)) && ((decide (x15.1.b = x31.1.b)) && ((decide (x15.1.imm = x31.1.imm)) && true)))))) || (!((decide (x15.2 = 0)) == x31.2)))), (28, u47), (27, u48), (26, u49), (25, u50)]) ?_ ?_
  ·rintro _ _ ⟨u47, u48, u49, u50, rfl, rfl⟩
   refine U.p rfl rfl (.inl rfl) (S.move rfl (L 0 rfl rfl)) ?_
   refine U.joinX 17 (fun e H => ∃ (u54 u55 u56 u57 u58 u59 : Value), H = V44.H ∧ e = [(37, .bool (((!((decide (x15.1.op = x31.1.op)) && ((decide (x15.1.d = x31.1.d)) && ((decide (x15.1.a = x31.1.a)) && ((decide (x15.1.b = x31.1.b)) && ((decide (x15.1.imm = x31.1.imm)) && true)))))) || (!((decide (x15.2 = 0)) == x31.2))) || ((!x31.2) && (decide (x15.2 ≠ 4))))), (36, u54), (35, u55), (34, u56), (33, u57), (32, u58), (31, u59)]) ?_ ?_
   ·rintro _ _ ⟨u54, u55, u56, u57, u58, u59, rfl, rfl⟩
    refine U.done (nr rfl) ?_
    refine WP.cond _ (L 0 rfl rfl) rfl (fun c63 => ?_) (fun c63 => ?_)
    ·have h64 := ifT c63 h33
     refine WP.usreg rfl ?_
     refine U.p rfl rfl (.inl rfl) (S.assign rfl K) ?_
     refine U.done (nr rfl) ?_
     refine WP.ret ?_
     refine sqR ?_
     refine fin.slot (.inr rfl) rfl (L 0 rfl rfl) ⟨V44, rfl, ((((((le6.trans le20).trans le25).trans le29).trans le36).trans le41).trans le45), ?_⟩
     have ow65 := ow46.drop 0 rfl
     have ow66 := ow65.drop 0 rfl
     have e67 := Option.some.inj h64
     subst e67
     exact ⟨rfl, ow66⟩
    ·have h68 := ifF c63 h33
     refine WP.skip ?_
     refine sqN ?_
     refine WP.usreg rfl ?_
     refine U.k rfl rfl (.inl rfl) (S.loadB rfl (L 25 rfl rfl) Tryd.underlying25 rfl ti25 (ow46.own (k := 1) rfl).get rfl) nd ?_
     obtain ⟨x69, hx70, h71⟩ := bindS h68
     refine O.call (V := V44) rfl rfl (.inl rfl) rfl en13 (aC (L 0 rfl rfl) aN) (wk_isa_Encode V44 _ (gl.up ((((((le6.trans le20).trans le25).trans le29).trans le36).trans le41).trans le45)) x15.1 ow46 _ hx70) (fun _ _ _ _ => nd) (fun v72 V73 le74 hp75 => ?_)
     obtain ⟨rfl, ow76⟩ := hp75
     refine U.p rfl rfl (.inl rfl) (S.move rfl (L 0 rfl rfl)) ?_
     refine U.p rfl rfl (.inl rfl) (S.extract rfl (L 0 rfl rfl) rfl (nr rfl)) ?_
     refine U.p rfl rfl (.inl rfl) (S.extract rfl (L 1 rfl rfl) rfl (nr rfl)) ?_
     refine U.p rfl rfl (.inl rfl) (S.assign rfl (L 1 rfl rfl)) ?_
     refine U.p rfl rfl (.inl rfl) (S.assign rfl (L 1 rfl rfl)) ?_
     refine U.done (nr rfl) ?_
     refine WP.usreg rfl ?_
     refine U.p rfl rfl (.inl rfl) (S.move rfl (L 24 rfl rfl)) ?_
     refine U.p rfl rfl (.inl rfl) (S.not rfl (L 0 rfl rfl)) ?_
     refine U.p rfl rfl (.inl rfl) (S.move rfl (L 0 rfl rfl)) ?_
     obtain ⟨y77, hy78, h79⟩ := bindS h71
     refine U.joinX 15 (fun e H => ∃ (u80 u81 u82 u83 u84 u85 u86 u87 u88 u89 u90 : Value), ∃ V' : Vw, H = V'.H ∧ V73.le V' ∧ e = [(57, .bool y77), (56, u80), (55, u81), (54, u82), (53, u83), (52, u84), (51, u85), (50, u86), (49, u87), (48, u88), (47, u89), (46, u90)] ∧ Ow V' (.pt b39 (.cells 5 [.int .i64 x31.1.op, .int .i64 x31.1.d, .int .i64 x31.1.a, .int .i64 x31.1.b, .int .i64 x31.1.imm]) :: .pt b23 (.cells 5 [.int .i64 x15.1.op, .int .i64 x15.1.d, .int .i64 x15.1.a, .int .i64 x15.1.b, .int .i64 x15.1.imm]) :: Rs)) ?_ ?_
     ·rintro _ _ ⟨u80, u81, u82, u83, u84, u85, u86, u87, u88, u89, u90, V91, rfl, le92, rfl, ow93⟩
      refine U.p rfl rfl (.inl rfl) (S.assign rfl (L 0 rfl rfl)) ?_
      refine U.done (nr rfl) ?_
      refine WP.ret ?_
      refine fin.slot (.inr rfl) rfl (L 0 rfl rfl) ⟨V91, rfl, ((((((((le6.trans le20).trans le25).trans le29).trans le36).trans le41).trans le45).trans le74).trans le92), ?_⟩
      have ow94 := ow93.drop 0 rfl
      have ow95 := ow94.drop 0 rfl
      have e96 := Option.some.inj h79
      subst e96
      exact ⟨rfl, ow95⟩
     ·intro kk
      refine bcase (b := !x31.2) (fun g97 => ?_) (fun g97 => ?_)
      ·have h98 := ifT g97 hy78
       have k99 : x31.2 = false := nT g97
       refine U.x rfl rfl rfl rfl ((L 0 rfl rfl).trans (congrArg Value.bool g97)) (by decide) ?_
       refine U.x rfl rfl rfl rfl ((L 1 rfl rfl).trans (congrArg Value.bool g97)) (by decide) ?_
       refine U.x rfl rfl rfl rfl ((L 2 rfl rfl).trans (congrArg Value.bool g97)) (by decide) ?_
       refine U.z rfl rfl rfl rfl (L 0 rfl rfl) ?_
       refine U.z rfl rfl rfl rfl (L 1 rfl rfl) ?_
       refine U.z rfl rfl rfl rfl (L 2 rfl rfl) ?_
       refine U.x rfl rfl rfl rfl ((L 6 rfl rfl).trans (congrArg Value.bool g97)) (by decide) ?_
       refine U.x rfl rfl rfl rfl ((L 7 rfl rfl).trans (congrArg Value.bool g97)) (by decide) ?_
       refine U.z rfl rfl rfl rfl (L 0 rfl rfl) ?_
       refine U.z rfl rfl rfl rfl (L 1 rfl rfl) ?_
       refine U.x rfl rfl rfl rfl ((L 10 rfl rfl).trans (congrArg Value.bool g97)) (by decide) ?_
       refine U.p rfl rfl (.inl rfl) (S.pickT rfl ((L 11 rfl rfl).trans (congrArg Value.bool g97)) K) ?_
       have e100 := Option.some.inj h98
       subst e100
       exact kk [(57, .bool true), (56, .tuple #[]), (55, .tuple #[]), (54, .tuple #[]), (53, .tuple #[]), (52, .tuple #[]), (51, .tuple #[]), (50, .tuple #[]), (49, .tuple #[]), (48, .tuple #[]), (47, .tuple #[]), (46, .tuple #[])] _ ⟨.tuple #[], .tuple #[], .tuple #[], .tuple #[], .tuple #[], .tuple #[], .tuple #[], .tuple #[], .tuple #[], .tuple #[], .tuple #[], V73, rfl, (.refl _), rfl, ow76⟩
      ·have h101 := ifF g97 hy78
       have k102 : x31.2 = true := nF g97
       refine U.p rfl rfl (.inr ⟨_, _, _, rfl, rfl, ((L 0 rfl rfl).trans (congrArg Value.bool g97))⟩) (S.move rfl (L 3 rfl rfl)) ?_
       refine U.p rfl rfl (.inr ⟨_, _, _, rfl, rfl, ((L 1 rfl rfl).trans (congrArg Value.bool g97))⟩) (S.eqlI rfl (L 0 rfl rfl) K) ?_
       refine U.p rfl rfl (.inr ⟨_, _, _, rfl, rfl, ((L 2 rfl rfl).trans (congrArg Value.bool g97))⟩) (S.move rfl (L 0 rfl rfl)) ?_
       refine U.joinX 10 (fun e H => ∃ (u103 u104 u105 : Value), H = V73.H ∧ e = [(52, .bool ((decide (x69.2 = 0)) && (decide (x69.1 = p0)))), (51, u103), (50, u104), (49, u105)]) ?_ ?_
       ·rintro _ _ ⟨u103, u104, u105, rfl, rfl⟩
        refine U.p rfl rfl (.inr ⟨_, _, _, rfl, rfl, ((L 7 rfl rfl).trans (congrArg Value.bool g97))⟩) (S.move rfl (L 0 rfl rfl)) ?_
        obtain ⟨y109, hy110, h111⟩ := bindS h101
        refine U.joinX 14 (fun e H => ∃ (u112 u113 : Value), ∃ V' : Vw, H = V'.H ∧ V73.le V' ∧ e = [(56, .bool y109), (55, u112), (54, u113)] ∧ Ow V' (.pt b39 (.cells 5 [.int .i64 x31.1.op, .int .i64 x31.1.d, .int .i64 x31.1.a, .int .i64 x31.1.b, .int .i64 x31.1.imm]) :: .pt b23 (.cells 5 [.int .i64 x15.1.op, .int .i64 x15.1.d, .int .i64 x15.1.a, .int .i64 x15.1.b, .int .i64 x15.1.imm]) :: Rs)) ?_ ?_
        ·rintro _ _ ⟨u112, u113, V114, rfl, le115, rfl, ow116⟩
         refine U.p rfl rfl (.inl rfl) (S.pickF rfl ((L 11 rfl rfl).trans (congrArg Value.bool g97)) (L 0 rfl rfl)) ?_
         have e117 := Option.some.inj h111
         subst e117
         exact kk [(57, .bool y109), (56, .bool y109), (55, u112), (54, u113), (53, .bool ((decide (x69.2 = 0)) && (decide (x69.1 = p0)))), (52, .bool ((decide (x69.2 = 0)) && (decide (x69.1 = p0)))), (51, u103), (50, u104), (49, u105), (48, .bool (decide (x69.2 = 0))), (47, .bool (decide (x69.2 = 0))), (46, .int .i64 x69.2)] _ ⟨.bool y109, u112, u113, .bool ((decide (x69.2 = 0)) && (decide (x69.1 = p0))), .bool ((decide (x69.2 = 0)) && (decide (x69.1 = p0))), u103, u104, u105, .bool (decide (x69.2 = 0)), .bool (decide (x69.2 = 0)), .int .i64 x69.2, V114, rfl, le115, rfl, ow116⟩
        ·intro kk
         refine bcase (b := (decide (x69.2 = 0)) && (decide (x69.1 = p0))) (fun g118 => ?_) (fun g118 => ?_)
         ·have h119 := ifT g118 hy110
          refine U.k rfl rfl (.inr ⟨_, _, _, rfl, rfl, ((L 0 rfl rfl).trans (congrArg Value.bool g118))⟩) (S.loadB rfl (L 43 rfl rfl) Tryd.underlying25 rfl ti25 (ow76.own (k := 1) rfl).get rfl) nd ?_
          obtain ⟨x120, hx121, h122⟩ := bindS h119
          refine O.call (V := V73) rfl rfl (.inr ⟨_, _, _, rfl, rfl, ((L 1 rfl rfl).trans (congrArg Value.bool g118))⟩) rfl en14 (aC (L 0 rfl rfl) aN) (wk_isa_Good V73 _ (gl.up (((((((le6.trans le20).trans le25).trans le29).trans le36).trans le41).trans le45).trans le74)) x15.1 ow76 _ hx121) (fun _ _ _ _ => nd) (fun v123 V124 le125 hp126 => ?_)
          obtain ⟨rfl, ow127⟩ := hp126
          refine U.p rfl rfl (.inr ⟨_, _, _, rfl, rfl, ((L 10 rfl rfl).trans (congrArg Value.bool g97))⟩) (S.pickT rfl ((L 2 rfl rfl).trans (congrArg Value.bool g118)) (L 0 rfl rfl)) ?_
          have e128 := Option.some.inj h122
          subst e128
          exact kk [(56, .bool x120), (55, .bool x120), (54, .agg #[.int .i64 x15.1.op, .int .i64 x15.1.d, .int .i64 x15.1.a, .int .i64 x15.1.b, .int .i64 x15.1.imm])] _ ⟨.bool x120, .agg #[.int .i64 x15.1.op, .int .i64 x15.1.d, .int .i64 x15.1.a, .int .i64 x15.1.b, .int .i64 x15.1.imm], V124, rfl, le125, rfl, ow127⟩
         ·have h129 := ifF g118 hy110
          refine U.x rfl rfl rfl rfl ((L 0 rfl rfl).trans (congrArg Value.bool g118)) (by decide) ?_
          refine U.x rfl rfl rfl rfl ((L 1 rfl rfl).trans (congrArg Value.bool g118)) (by decide) ?_
          refine U.p rfl rfl (.inr ⟨_, _, _, rfl, rfl, ((L 10 rfl rfl).trans (congrArg Value.bool g97))⟩) (S.pickF rfl ((L 2 rfl rfl).trans (congrArg Value.bool g118)) K) ?_
          have e130 := Option.some.inj h129
          subst e130
          exact kk [(56, .bool false), (55, .tuple #[]), (54, .tuple #[])] _ ⟨.tuple #[], .tuple #[], V73, rfl, (.refl _), rfl, ow76⟩
       ·intro kk
        refine bcase (b := decide (x69.2 = 0)) (fun g131 => ?_) (fun g131 => ?_)
        ·skip
         refine U.p rfl rfl (.inr ⟨_, _, _, rfl, rfl, ((L 0 rfl rfl).trans (congrArg Value.bool g131))⟩) (S.move rfl (L 7 rfl rfl)) ?_
         refine U.p rfl rfl (.inr ⟨_, _, _, rfl, rfl, ((L 1 rfl rfl).trans (congrArg Value.bool g131))⟩) (S.move rfl (L 48 rfl rfl)) ?_
         refine U.p rfl rfl (.inr ⟨_, _, _, rfl, rfl, ((L 2 rfl rfl).trans (congrArg Value.bool g131))⟩) (S.eqlI rfl (L 1 rfl rfl) (L 0 rfl rfl)) ?_
         refine U.p rfl rfl (.inr ⟨_, _, _, rfl, rfl, ((L 6 rfl rfl).trans (congrArg Value.bool g97))⟩) (S.pickT rfl ((L 3 rfl rfl).trans (congrArg Value.bool g131)) (L 0 rfl rfl)) ?_
         exact kk [(52, .bool (decide (x69.1 = p0))), (51, .bool (decide (x69.1 = p0))), (50, .int .u32 p0), (49, .int .u32 x69.1)] _ ⟨.bool (decide (x69.1 = p0)), .int .u32 p0, .int .u32 x69.1, rfl, (by rw [g131, Bool.true_and])⟩
        ·skip
         refine U.x rfl rfl rfl rfl ((L 0 rfl rfl).trans (congrArg Value.bool g131)) (by decide) ?_
         refine U.x rfl rfl rfl rfl ((L 1 rfl rfl).trans (congrArg Value.bool g131)) (by decide) ?_
         refine U.x rfl rfl rfl rfl ((L 2 rfl rfl).trans (congrArg Value.bool g131)) (by decide) ?_
         refine U.p rfl rfl (.inr ⟨_, _, _, rfl, rfl, ((L 6 rfl rfl).trans (congrArg Value.bool g97))⟩) (S.pickF rfl ((L 3 rfl rfl).trans (congrArg Value.bool g131)) K) ?_
         exact kk [(52, .bool false), (51, .tuple #[]), (50, .tuple #[]), (49, .tuple #[])] _ ⟨.tuple #[], .tuple #[], .tuple #[], rfl, (by rw [g131, Bool.false_and])⟩
   ·intro kk
    refine bcase (b := (!((decide (x15.1.op = x31.1.op)) && ((decide (x15.1.d = x31.1.d)) && ((decide (x15.1.a = x31.1.a)) && ((decide (x15.1.b = x31.1.b)) && ((decide (x15.1.imm = x31.1.imm)) && true)))))) || (!((decide (x15.2 = 0)) == x31.2))) (fun g132 => ?_) (fun g132 => ?_)
    ·skip
     refine U.x rfl rfl rfl rfl ((L 0 rfl rfl).trans (congrArg Value.bool g132)) (by decide) ?_
     refine U.x rfl rfl rfl rfl ((L 1 rfl rfl).trans (congrArg Value.bool g132)) (by decide) ?_
     refine U.x rfl rfl rfl rfl ((L 2 rfl rfl).trans (congrArg Value.bool g132)) (by decide) ?_
     refine U.z rfl rfl rfl rfl (L 0 rfl rfl) ?_
     refine U.z rfl rfl rfl rfl (L 1 rfl rfl) ?_
     refine U.x rfl rfl rfl rfl ((L 5 rfl rfl).trans (congrArg Value.bool g132)) (by decide) ?_
     refine U.p rfl rfl (.inl rfl) (S.pickT rfl ((L 6 rfl rfl).trans (congrArg Value.bool g132)) K) ?_
     exact kk [(37, .bool true), (36, .tuple #[]), (35, .tuple #[]), (34, .tuple #[]), (33, .tuple #[]), (32, .tuple #[]), (31, .tuple #[])] _ ⟨.tuple #[], .tuple #[], .tuple #[], .tuple #[], .tuple #[], .tuple #[], rfl, (by rw [g132, Bool.true_or])⟩
    ·skip
     refine U.p rfl rfl (.inr ⟨_, _, _, rfl, rfl, ((L 0 rfl rfl).trans (congrArg Value.bool g132))⟩) (S.move rfl (L 10 rfl rfl)) ?_
     refine U.p rfl rfl (.inr ⟨_, _, _, rfl, rfl, ((L 1 rfl rfl).trans (congrArg Value.bool g132))⟩) (S.not rfl (L 0 rfl rfl)) ?_
     refine U.p rfl rfl (.inr ⟨_, _, _, rfl, rfl, ((L 2 rfl rfl).trans (congrArg Value.bool g132))⟩) (S.move rfl (L 0 rfl rfl)) ?_
     refine U.joinX 16 (fun e H => ∃ (u133 u134 : Value), H = V44.H ∧ e = [(36, .bool ((!x31.2) && (decide (x15.2 ≠ 4)))), (35, u133), (34, u134)]) ?_ ?_
     ·rintro _ _ ⟨u133, u134, rfl, rfl⟩
      refine U.p rfl rfl (.inl rfl) (S.pickF rfl ((L 6 rfl rfl).trans (congrArg Value.bool g132)) (L 0 rfl rfl)) ?_
      exact kk [(37, .bool ((!x31.2) && (decide (x15.2 ≠ 4)))), (36, .bool ((!x31.2) && (decide (x15.2 ≠ 4)))), (35, u133), (34, u134), (33, .bool (!x31.2)), (32, .bool (!x31.2)), (31, .bool x31.2)] _ ⟨.bool ((!x31.2) && (decide (x15.2 ≠ 4))), u133, u134, .bool (!x31.2), .bool (!x31.2), .bool x31.2, rfl, (by rw [g132, Bool.false_or])⟩
     ·intro kk
      refine bcase (b := !x31.2) (fun g138 => ?_) (fun g138 => ?_)
      ·skip
       have k139 : x31.2 = false := nT g138
       refine U.p rfl rfl (.inr ⟨_, _, _, rfl, rfl, ((L 0 rfl rfl).trans (congrArg Value.bool g138))⟩) (S.move rfl (L 20 rfl rfl)) ?_
       refine U.p rfl rfl (.inr ⟨_, _, _, rfl, rfl, ((L 1 rfl rfl).trans (congrArg Value.bool g138))⟩) (S.neqI rfl (L 0 rfl rfl) K) ?_
       refine U.p rfl rfl (.inr ⟨_, _, _, rfl, rfl, ((L 5 rfl rfl).trans (congrArg Value.bool g132))⟩) (S.pickT rfl ((L 2 rfl rfl).trans (congrArg Value.bool g138)) (L 0 rfl rfl)) ?_
       exact kk [(36, .bool (decide (x15.2 ≠ 4))), (35, .bool (decide (x15.2 ≠ 4))), (34, .int .i64 x15.2)] _ ⟨.bool (decide (x15.2 ≠ 4)), .int .i64 x15.2, rfl, (by rw [g138, Bool.true_and])⟩
      ·skip
       have k140 : x31.2 = true := nF g138
       refine U.x rfl rfl rfl rfl ((L 0 rfl rfl).trans (congrArg Value.bool g138)) (by decide) ?_
       refine U.x rfl rfl rfl rfl ((L 1 rfl rfl).trans (congrArg Value.bool g138)) (by decide) ?_
       refine U.p rfl rfl (.inr ⟨_, _, _, rfl, rfl, ((L 5 rfl rfl).trans (congrArg Value.bool g132))⟩) (S.pickF rfl ((L 2 rfl rfl).trans (congrArg Value.bool g138)) K) ?_
       exact kk [(36, .bool false), (35, .tuple #[]), (34, .tuple #[])] _ ⟨.tuple #[], .tuple #[], rfl, (by rw [g138, Bool.false_and])⟩
  ·intro kk
   refine bcase (b := !((decide (x15.1.op = x31.1.op)) && ((decide (x15.1.d = x31.1.d)) && ((decide (x15.1.a = x31.1.a)) && ((decide (x15.1.b = x31.1.b)) && ((decide (x15.1.imm = x31.1.imm)) && true)))))) (fun g141 => ?_) (fun g141 => ?_)
   ·skip
    have k142 : ((decide (x15.1.op = x31.1.op)) && ((decide (x15.1.d = x31.1.d)) && ((decide (x15.1.a = x31.1.a)) && ((decide (x15.1.b = x31.1.b)) && ((decide (x15.1.imm = x31.1.imm)) && true))))) = false := nT g141
    refine U.x rfl rfl rfl rfl ((L 0 rfl rfl).trans (congrArg Value.bool g141)) (by decide) ?_
    refine U.x rfl rfl rfl rfl ((L 1 rfl rfl).trans (congrArg Value.bool g141)) (by decide) ?_
    refine U.x rfl rfl rfl rfl ((L 2 rfl rfl).trans (congrArg Value.bool g141)) (by decide) ?_
    refine U.x rfl rfl rfl rfl ((L 3 rfl rfl).trans (congrArg Value.bool g141)) (by decide) ?_
    refine U.p rfl rfl (.inl rfl) (S.pickT rfl ((L 4 rfl rfl).trans (congrArg Value.bool g141)) K) ?_
    exact kk [(29, .bool true), (28, .tuple #[]), (27, .tuple #[]), (26, .tuple #[]), (25, .tuple #[])] _ ⟨.tuple #[], .tuple #[], .tuple #[], .tuple #[], rfl, (by rw [g141, Bool.true_or])⟩
   ·skip
    have k143 : ((decide (x15.1.op = x31.1.op)) && ((decide (x15.1.d = x31.1.d)) && ((decide (x15.1.a = x31.1.a)) && ((decide (x15.1.b = x31.1.b)) && ((decide (x15.1.imm = x31.1.imm)) && true))))) = true := nF g141
    refine U.p rfl rfl (.inr ⟨_, _, _, rfl, rfl, ((L 0 rfl rfl).trans (congrArg Value.bool g141))⟩) (S.move rfl (L 11 rfl rfl)) ?_
    refine U.p rfl rfl (.inr ⟨_, _, _, rfl, rfl, ((L 1 rfl rfl).trans (congrArg Value.bool g141))⟩) (S.eqlI rfl (L 0 rfl rfl) K) ?_
    refine U.p rfl rfl (.inr ⟨_, _, _, rfl, rfl, ((L 2 rfl rfl).trans (congrArg Value.bool g141))⟩) (S.move rfl (L 6 rfl rfl)) ?_
    refine U.p rfl rfl (.inr ⟨_, _, _, rfl, rfl, ((L 3 rfl rfl).trans (congrArg Value.bool g141))⟩) (S.neqB rfl (L 1 rfl rfl) (L 0 rfl rfl) Tryd.underlying4) ?_
    refine U.p rfl rfl (.inl rfl) (S.pickF rfl ((L 4 rfl rfl).trans (congrArg Value.bool g141)) (L 0 rfl rfl)) ?_
    exact kk [(29, .bool (!((decide (x15.2 = 0)) == x31.2))), (28, .bool (!((decide (x15.2 = 0)) == x31.2))), (27, .bool x31.2), (26, .bool (decide (x15.2 = 0))), (25, .int .i64 x15.2)] _ ⟨.bool (!((decide (x15.2 = 0)) == x31.2)), .bool x31.2, .bool (decide (x15.2 = 0)), .int .i64 x15.2, rfl, (by rw [g141, Bool.false_or])⟩
set_option maxHeartbeats 4000000 in
set_option maxRecDepth 10000 in
theorem wk_law02_IsaBack (V : Vw) (Rs : List At) (gl : Glb V) (p0 : TInst) (p1 : TInst) (ow : Ow V (Rs)) (r : Bool) (h : law02_IsaBack p0 p1 = some r) : ∃ v V', Cl Tryd.prog NG 4 #[.agg #[.int .i64 p0.op, .int .i64 p0.d, .int .i64 p0.a, .int .i64 p0.b, .int .i64 p0.imm], .agg #[.int .i64 p1.op, .int .i64 p1.d, .int .i64 p1.a, .int .i64 p1.b, .int .i64 p1.imm]] V.H v V'.H ∧ V.le V' ∧ (v = .bool r ∧ Ow V' (Rs)) := by
 refine Ct.of gl.lo Tryd.func4 rfl (nr rfl) ?_
 unfold law02_IsaBack at h
 refine WP.usreg rfl ?_
 refine O.box ow rfl rfl (.inl rfl) rfl (L 0 rfl rfl) (by simp [topV]) rfl nd (fun b1 V2 le3 ow4 => ?_)
 refine O.box ow4 rfl rfl (.inl rfl) rfl (L 2 rfl rfl) (by simp [topV]) rfl nd (fun b6 V7 le8 ow9 => ?_)
 refine U.p rfl rfl (.inl rfl) (S.assign rfl K) ?_
 refine U.done (nr rfl) ?_
 refine WP.seq ?_
 refine WP.usreg rfl ?_
 obtain ⟨x11, hx12, h13⟩ := bindS h
 refine O.call (V := V7) rfl rfl (.inl rfl) rfl en10 aN (wk_law02_alive V7 _ (gl.up (le3.trans le8)) ow9 _ hx12) (fun _ _ _ _ => nd) (fun v14 V15 le16 hp17 => ?_)
 obtain ⟨rfl, ow18⟩ := hp17
 refine U.p rfl rfl (.inl rfl) (S.not rfl (L 0 rfl rfl)) ?_
 refine U.done (nr rfl) ?_
 refine WP.cond _ (L 0 rfl rfl) rfl (fun c19 => ?_) (fun c19 => ?_)
 ·have h20 := ifT c19 h13
  have k21 : x11 = false := nT c19
  refine WP.usreg rfl ?_
  refine U.p rfl rfl (.inl rfl) (S.assign rfl K) ?_
  refine U.done (nr rfl) ?_
  refine WP.ret ?_
  refine sqR ?_
  refine fin.slot (.inr rfl) rfl (L 0 rfl rfl) ⟨V15, rfl, ((le3.trans le8).trans le16), ?_⟩
  have ow22 := ow18.drop 0 rfl
  have ow23 := ow22.drop 0 rfl
  have e24 := Option.some.inj h20
  subst e24
  exact ⟨rfl, ow23⟩
 ·have h25 := ifF c19 h13
  have k26 : x11 = true := nF c19
  refine WP.skip ?_
  refine sqN ?_
  refine WP.usreg rfl ?_
  refine U.k rfl rfl (.inl rfl) (S.loadB rfl (L 4 rfl rfl) Tryd.underlying25 rfl ti25 (ow18.own (k := 1) rfl).get rfl) nd ?_
  obtain ⟨x27, hx28, h29⟩ := bindS h25
  refine O.call (V := V15) rfl rfl (.inl rfl) rfl en13 (aC (L 0 rfl rfl) aN) (wk_isa_Encode V15 _ (gl.up ((le3.trans le8).trans le16)) p0 ow18 _ hx28) (fun _ _ _ _ => nd) (fun v30 V31 le32 hp33 => ?_)
  obtain ⟨rfl, ow34⟩ := hp33
  refine U.p rfl rfl (.inl rfl) (S.move rfl (L 0 rfl rfl)) ?_
  refine U.p rfl rfl (.inl rfl) (S.extract rfl (L 0 rfl rfl) rfl (nr rfl)) ?_
  refine U.p rfl rfl (.inl rfl) (S.extract rfl (L 1 rfl rfl) rfl (nr rfl)) ?_
  refine U.p rfl rfl (.inl rfl) (S.assign rfl (L 1 rfl rfl)) ?_
  refine U.p rfl rfl (.inl rfl) (S.assign rfl (L 1 rfl rfl)) ?_
  refine U.done (nr rfl) ?_
  refine WP.usreg rfl ?_
  refine U.k rfl rfl (.inl rfl) (S.loadB rfl (L 10 rfl rfl) Tryd.underlying25 rfl ti25 (ow34.own (k := 0) rfl).get rfl) nd ?_
  obtain ⟨x35, hx36, h37⟩ := bindS h29
  refine O.call (V := V31) rfl rfl (.inl rfl) rfl en13 (aC (L 0 rfl rfl) aN) (wk_isa_Encode V31 _ (gl.up (((le3.trans le8).trans le16).trans le32)) p1 ow34 _ hx36) (fun _ _ _ _ => nd) (fun v38 V39 le40 hp41 => ?_)
  obtain ⟨rfl, ow42⟩ := hp41
  refine U.p rfl rfl (.inl rfl) (S.move rfl (L 0 rfl rfl)) ?_
  refine U.p rfl rfl (.inl rfl) (S.extract rfl (L 0 rfl rfl) rfl (nr rfl)) ?_
  refine U.p rfl rfl (.inl rfl) (S.extract rfl (L 1 rfl rfl) rfl (nr rfl)) ?_
  refine U.p rfl rfl (.inl rfl) (S.assign rfl (L 1 rfl rfl)) ?_
  refine U.p rfl rfl (.inl rfl) (S.assign rfl (L 1 rfl rfl)) ?_
  refine U.done (nr rfl) ?_
  refine WP.seq ?_
  refine WP.usreg rfl ?_
  refine U.p rfl rfl (.inl rfl) (S.move rfl (L 7 rfl rfl)) ?_
  refine U.p rfl rfl (.inl rfl) (S.neqI rfl (L 0 rfl rfl) K) ?_
  refine U.done (nr rfl) ?_
  refine WP.cond _ (L 0 rfl rfl) rfl (fun c43 => ?_) (fun c43 => ?_)
  ·have h44 := ifT c43 h37
   refine WP.usreg rfl ?_
   refine U.p rfl rfl (.inl rfl) (S.assign rfl K) ?_
   refine U.done (nr rfl) ?_
   refine WP.ret ?_
   refine sqR ?_
   refine fin.slot (.inr rfl) rfl (L 0 rfl rfl) ⟨V39, rfl, ((((le3.trans le8).trans le16).trans le32).trans le40), ?_⟩
   have ow45 := ow42.drop 0 rfl
   have ow46 := ow45.drop 0 rfl
   have e47 := Option.some.inj h44
   subst e47
   exact ⟨rfl, ow46⟩
  ·have h48 := ifF c43 h37
   refine WP.skip ?_
   refine sqN ?_
   refine WP.usreg rfl ?_
   refine U.p rfl rfl (.inl rfl) (S.move rfl (L 10 rfl rfl)) ?_
   obtain ⟨x49, hx50, h51⟩ := bindS h48
   refine O.call (V := V39) rfl rfl (.inl rfl) rfl en11 (aC (L 0 rfl rfl) aN) (wk_isa_Decode V39 _ (gl.up ((((le3.trans le8).trans le16).trans le32).trans le40)) x27.1 ow42 _ hx50) (fun _ _ _ _ => nd) (fun v52 V53 le54 hp55 => ?_)
   obtain ⟨rfl, ow56⟩ := hp55
   refine U.p rfl rfl (.inl rfl) (S.move rfl (L 0 rfl rfl)) ?_
   refine U.p rfl rfl (.inl rfl) (S.extract rfl (L 0 rfl rfl) rfl (nr rfl)) ?_
   refine U.p rfl rfl (.inl rfl) (S.extract rfl (L 1 rfl rfl) rfl (nr rfl)) ?_
   refine O.alloc ow56 rfl rfl (.inl rfl) rfl ti25 rfl rfl nd (fun b57 V58 le59 ow60 => ?_)
   refine O.store (k := 0) (cs := [.int .i64 x49.1.op, .int .i64 x49.1.d, .int .i64 x49.1.a, .int .i64 x49.1.b, .int .i64 x49.1.imm]) (c' := [.int .i64 x49.1.op, .int .i64 x49.1.d, .int .i64 x49.1.a, .int .i64 x49.1.b, .int .i64 x49.1.imm]) ow60 rfl rfl rfl (.inl rfl) rfl (L 0 rfl rfl) (L 2 rfl rfl) ti25 (by simp [topV]) rfl rfl (nr rfl) rfl rfl nd (fun V62 le63 ow64 => ?_)
   refine U.p rfl rfl (.inl rfl) (S.assign rfl (L 1 rfl rfl)) ?_
   refine U.done (nr rfl) ?_
   refine WP.usreg rfl ?_
   refine U.p rfl rfl (.inl rfl) (S.move rfl (L 0 rfl rfl)) ?_
   refine U.p rfl rfl (.inl rfl) (S.eqlI rfl (L 0 rfl rfl) K) ?_
   refine U.p rfl rfl (.inl rfl) (S.move rfl (L 0 rfl rfl)) ?_
   refine U.joinX 7 (fun e H => ∃ (u65 u66 u67 : Value), H = V62.H ∧ e = [(36, .bool ((decide (x49.2 = 0)) && ((decide (x49.1.op = p0.op)) && ((decide (x49.1.d = p0.d)) && ((decide (x49.1.a = p0.a)) && ((decide (x49.1.b = p0.b)) && ((decide (x49.1.imm = p0.imm)) && true))))))), (35, u65), (34, u66), (33, u67)]) ?_ ?_
   ·rintro _ _ ⟨u65, u66, u67, rfl, rfl⟩
    refine U.p rfl rfl (.inl rfl) (S.move rfl (L 0 rfl rfl)) ?_
    refine U.joinX 20 (fun e H => ∃ (u71 u72 u73 u74 u75 u76 u77 u78 u79 u80 u81 : Value), H = V62.H ∧ e = [(49, .bool (((decide (x49.2 = 0)) && ((decide (x49.1.op = p0.op)) && ((decide (x49.1.d = p0.d)) && ((decide (x49.1.a = p0.a)) && ((decide (x49.1.b = p0.b)) && ((decide (x49.1.imm = p0.imm)) && true)))))) && ((decide (x35.2 ≠ 0)) || ((decide (x27.1 = x35.1)) == ((decide (p0.op = p1.op)) && ((decide (p0.d = p1.d)) && ((decide (p0.a = p1.a)) && ((decide (p0.b = p1.b)) && ((decide (p0.imm = p1.imm)) && true))))))))), (48, u71), (47, u72), (46, u73), (45, u74), (44, u75), (43, u76), (42, u77), (41, u78), (40, u79), (39, u80), (38, u81)]) ?_ ?_
    ·rintro _ _ ⟨u71, u72, u73, u74, u75, u76, u77, u78, u79, u80, u81, rfl, rfl⟩
     refine U.p rfl rfl (.inl rfl) (S.assign rfl (L 0 rfl rfl)) ?_
     refine U.done (nr rfl) ?_
     refine WP.ret ?_
     refine fin.slot (.inr rfl) rfl (L 0 rfl rfl) ⟨V62, rfl, (((((((le3.trans le8).trans le16).trans le32).trans le40).trans le54).trans le59).trans le63), ?_⟩
     have ow85 := ow64.drop 0 rfl
     have ow86 := ow85.drop 0 rfl
     have ow87 := ow86.drop 0 rfl
     have e88 := Option.some.inj h51
     subst e88
     exact ⟨rfl, ow87⟩
    ·intro kk
     refine bcase (b := (decide (x49.2 = 0)) && ((decide (x49.1.op = p0.op)) && ((decide (x49.1.d = p0.d)) && ((decide (x49.1.a = p0.a)) && ((decide (x49.1.b = p0.b)) && ((decide (x49.1.imm = p0.imm)) && true)))))) (fun g89 => ?_) (fun g89 => ?_)
     ·skip
      refine U.p rfl rfl (.inr ⟨_, _, _, rfl, rfl, ((L 0 rfl rfl).trans (congrArg Value.bool g89))⟩) (S.move rfl (L 17 rfl rfl)) ?_
      refine U.p rfl rfl (.inr ⟨_, _, _, rfl, rfl, ((L 1 rfl rfl).trans (congrArg Value.bool g89))⟩) (S.neqI rfl (L 0 rfl rfl) K) ?_
      refine U.p rfl rfl (.inr ⟨_, _, _, rfl, rfl, ((L 2 rfl rfl).trans (congrArg Value.bool g89))⟩) (S.move rfl (L 0 rfl rfl)) ?_
      refine U.joinX 19 (fun e H => ∃ (u90 u91 u92 u93 u94 u95 u96 : Value), H = V62.H ∧ e = [(48, .bool ((decide (x35.2 ≠ 0)) || ((decide (x27.1 = x35.1)) == ((decide (p0.op = p1.op)) && ((decide (p0.d = p1.d)) && ((decide (p0.a = p1.a)) && ((decide (p0.b = p1.b)) && ((decide (p0.imm = p1.imm)) && true)))))))), (47, u90), (46, u91), (45, u92), (44, u93), (43, u94), (42, u95), (41, u96)]) ?_ ?_
      ·rintro _ _ ⟨u90, u91, u92, u93, u94, u95, u96, rfl, rfl⟩
       refine U.p rfl rfl (.inl rfl) (S.pickT rfl ((L 11 rfl rfl).trans (congrArg Value.bool g89)) (L 0 rfl rfl)) ?_
       exact kk [(49, .bool ((decide (x35.2 ≠ 0)) || ((decide (x27.1 = x35.1)) == ((decide (p0.op = p1.op)) && ((decide (p0.d = p1.d)) && ((decide (p0.a = p1.a)) && ((decide (p0.b = p1.b)) && ((decide (p0.imm = p1.imm)) && true)))))))), (48, .bool ((decide (x35.2 ≠ 0)) || ((decide (x27.1 = x35.1)) == ((decide (p0.op = p1.op)) && ((decide (p0.d = p1.d)) && ((decide (p0.a = p1.a)) && ((decide (p0.b = p1.b)) && ((decide (p0.imm = p1.imm)) && true)))))))), (47, u90), (46, u91), (45, u92), (44, u93), (43, u94), (42, u95), (41, u96), (40, .bool (decide (x35.2 ≠ 0))), (39, .bool (decide (x35.2 ≠ 0))), (38, .int .i64 x35.2)] _ ⟨.bool ((decide (x35.2 ≠ 0)) || ((decide (x27.1 = x35.1)) == ((decide (p0.op = p1.op)) && ((decide (p0.d = p1.d)) && ((decide (p0.a = p1.a)) && ((decide (p0.b = p1.b)) && ((decide (p0.imm = p1.imm)) && true))))))), u90, u91, u92, u93, u94, u95, u96, .bool (decide (x35.2 ≠ 0)), .bool (decide (x35.2 ≠ 0)), .int .i64 x35.2, rfl, (by rw [g89, Bool.true_and])⟩
      ·intro kk
       refine bcase (b := decide (x35.2 ≠ 0)) (fun g100 => ?_) (fun g100 => ?_)
       ·skip
        refine U.x rfl rfl rfl rfl ((L 0 rfl rfl).trans (congrArg Value.bool g100)) (by decide) ?_
        refine U.x rfl rfl rfl rfl ((L 1 rfl rfl).trans (congrArg Value.bool g100)) (by decide) ?_
        refine U.x rfl rfl rfl rfl ((L 2 rfl rfl).trans (congrArg Value.bool g100)) (by decide) ?_
        refine U.x rfl rfl rfl rfl ((L 3 rfl rfl).trans (congrArg Value.bool g100)) (by decide) ?_
        refine U.x rfl rfl rfl rfl ((L 4 rfl rfl).trans (congrArg Value.bool g100)) (by decide) ?_
        refine U.x rfl rfl rfl rfl ((L 5 rfl rfl).trans (congrArg Value.bool g100)) (by decide) ?_
        refine U.x rfl rfl rfl rfl ((L 6 rfl rfl).trans (congrArg Value.bool g100)) (by decide) ?_
        refine U.p rfl rfl (.inr ⟨_, _, _, rfl, rfl, ((L 10 rfl rfl).trans (congrArg Value.bool g89))⟩) (S.pickT rfl ((L 7 rfl rfl).trans (congrArg Value.bool g100)) K) ?_
        exact kk [(48, .bool true), (47, .tuple #[]), (46, .tuple #[]), (45, .tuple #[]), (44, .tuple #[]), (43, .tuple #[]), (42, .tuple #[]), (41, .tuple #[])] _ ⟨.tuple #[], .tuple #[], .tuple #[], .tuple #[], .tuple #[], .tuple #[], .tuple #[], rfl, (by rw [g100, Bool.true_or])⟩
       ·skip
        refine U.p rfl rfl (.inr ⟨_, _, _, rfl, rfl, ((L 0 rfl rfl).trans (congrArg Value.bool g100))⟩) (S.move rfl (L 28 rfl rfl)) ?_
        refine U.p rfl rfl (.inr ⟨_, _, _, rfl, rfl, ((L 1 rfl rfl).trans (congrArg Value.bool g100))⟩) (S.move rfl (L 22 rfl rfl)) ?_
        refine U.p rfl rfl (.inr ⟨_, _, _, rfl, rfl, ((L 2 rfl rfl).trans (congrArg Value.bool g100))⟩) (S.eqlI rfl (L 1 rfl rfl) (L 0 rfl rfl)) ?_
        refine U.k rfl rfl (.inr ⟨_, _, _, rfl, rfl, ((L 3 rfl rfl).trans (congrArg Value.bool g100))⟩) (S.loadB rfl (L 41 rfl rfl) Tryd.underlying25 rfl ti25 (ow64.own (k := 2) rfl).get rfl) nd ?_
        refine U.k rfl rfl (.inr ⟨_, _, _, rfl, rfl, ((L 4 rfl rfl).trans (congrArg Value.bool g100))⟩) (S.loadB rfl (L 41 rfl rfl) Tryd.underlying25 rfl ti25 (ow64.own (k := 1) rfl).get rfl) nd ?_
        refine U.p rfl rfl (.inr ⟨_, _, _, rfl, rfl, ((L 5 rfl rfl).trans (congrArg Value.bool g100))⟩) (S.eqlT (flA (flC (.int _ _) (flC (.int _ _) (flC (.int _ _) (flC (.int _ _) (flC (.int _ _) flN)))))) (flA (flC (.int _ _) (flC (.int _ _) (flC (.int _ _) (flC (.int _ _) (flC (.int _ _) flN)))))) rfl (L 1 rfl rfl) (L 0 rfl rfl) Tryd.underlying25 (by kernel_rfl) (by kernel_rfl) (.cons _ _ _ _ _ _ (by decide) (part_cell Tryd.underlying3 rfl rfl) (part_cell Tryd.underlying3 rfl rfl) (eqIn_int Tryd.underlying3 9998) (.cons _ _ _ _ _ _ (by decide) (part_cell Tryd.underlying3 rfl rfl) (part_cell Tryd.underlying3 rfl rfl) (eqIn_int Tryd.underlying3 9998) (.cons _ _ _ _ _ _ (by decide) (part_cell Tryd.underlying3 rfl rfl) (part_cell Tryd.underlying3 rfl rfl) (eqIn_int Tryd.underlying3 9998) (.cons _ _ _ _ _ _ (by decide) (part_cell Tryd.underlying3 rfl rfl) (part_cell Tryd.underlying3 rfl rfl) (eqIn_int Tryd.underlying3 9998) (.cons _ _ _ _ _ _ (by decide) (part_cell Tryd.underlying3 rfl rfl) (part_cell Tryd.underlying3 rfl rfl) (eqIn_int Tryd.underlying3 9998) .nil)))))) ?_
        refine U.p rfl rfl (.inr ⟨_, _, _, rfl, rfl, ((L 6 rfl rfl).trans (congrArg Value.bool g100))⟩) (S.eqlB rfl (L 3 rfl rfl) (L 0 rfl rfl) Tryd.underlying4) ?_
        refine U.p rfl rfl (.inr ⟨_, _, _, rfl, rfl, ((L 10 rfl rfl).trans (congrArg Value.bool g89))⟩) (S.pickF rfl ((L 7 rfl rfl).trans (congrArg Value.bool g100)) (L 0 rfl rfl)) ?_
        exact kk [(48, .bool ((decide (x27.1 = x35.1)) == ((decide (p0.op = p1.op)) && ((decide (p0.d = p1.d)) && ((decide (p0.a = p1.a)) && ((decide (p0.b = p1.b)) && ((decide (p0.imm = p1.imm)) && true))))))), (47, .bool ((decide (x27.1 = x35.1)) == ((decide (p0.op = p1.op)) && ((decide (p0.d = p1.d)) && ((decide (p0.a = p1.a)) && ((decide (p0.b = p1.b)) && ((decide (p0.imm = p1.imm)) && true))))))), (46, .bool ((decide (p0.op = p1.op)) && ((decide (p0.d = p1.d)) && ((decide (p0.a = p1.a)) && ((decide (p0.b = p1.b)) && ((decide (p0.imm = p1.imm)) && true)))))), (45, .agg #[.int .i64 p1.op, .int .i64 p1.d, .int .i64 p1.a, .int .i64 p1.b, .int .i64 p1.imm]), (44, .agg #[.int .i64 p0.op, .int .i64 p0.d, .int .i64 p0.a, .int .i64 p0.b, .int .i64 p0.imm]), (43, .bool (decide (x27.1 = x35.1))), (42, .int .u32 x35.1), (41, .int .u32 x27.1)] _ ⟨.bool ((decide (x27.1 = x35.1)) == ((decide (p0.op = p1.op)) && ((decide (p0.d = p1.d)) && ((decide (p0.a = p1.a)) && ((decide (p0.b = p1.b)) && ((decide (p0.imm = p1.imm)) && true)))))), .bool ((decide (p0.op = p1.op)) && ((decide (p0.d = p1.d)) && ((decide (p0.a = p1.a)) && ((decide (p0.b = p1.b)) && ((decide (p0.imm = p1.imm)) && true))))), .agg #[.int .i64 p1.op, .int .i64 p1.d, .int .i64 p1.a, .int .i64 p1.b, .int .i64 p1.imm], .agg #[.int .i64 p0.op, .int .i64 p0.d, .int .i64 p0.a, .int .i64 p0.b, .int .i64 p0.imm], .bool (decide (x27.1 = x35.1)), .int .u32 x35.1, .int .u32 x27.1, rfl, (by rw [g100, Bool.false_or])⟩
     ·skip
      refine U.x rfl rfl rfl rfl ((L 0 rfl rfl).trans (congrArg Value.bool g89)) (by decide) ?_
      refine U.x rfl rfl rfl rfl ((L 1 rfl rfl).trans (congrArg Value.bool g89)) (by decide) ?_
      refine U.x rfl rfl rfl rfl ((L 2 rfl rfl).trans (congrArg Value.bool g89)) (by decide) ?_
      refine U.z rfl rfl rfl rfl (L 0 rfl rfl) ?_
      refine U.z rfl rfl rfl rfl (L 1 rfl rfl) ?_
      refine U.z rfl rfl rfl rfl (L 2 rfl rfl) ?_
      refine U.z rfl rfl rfl rfl (L 3 rfl rfl) ?_
      refine U.z rfl rfl rfl rfl (L 4 rfl rfl) ?_
      refine U.z rfl rfl rfl rfl (L 5 rfl rfl) ?_
      refine U.z rfl rfl rfl rfl (L 6 rfl rfl) ?_
      refine U.x rfl rfl rfl rfl ((L 10 rfl rfl).trans (congrArg Value.bool g89)) (by decide) ?_
      refine U.p rfl rfl (.inl rfl) (S.pickF rfl ((L 11 rfl rfl).trans (congrArg Value.bool g89)) K) ?_
      exact kk [(49, .bool false), (48, .tuple #[]), (47, .tuple #[]), (46, .tuple #[]), (45, .tuple #[]), (44, .tuple #[]), (43, .tuple #[]), (42, .tuple #[]), (41, .tuple #[]), (40, .tuple #[]), (39, .tuple #[]), (38, .tuple #[])] _ ⟨.tuple #[], .tuple #[], .tuple #[], .tuple #[], .tuple #[], .tuple #[], .tuple #[], .tuple #[], .tuple #[], .tuple #[], .tuple #[], rfl, (by rw [g89, Bool.false_and])⟩
   ·intro kk
    refine bcase (b := decide (x49.2 = 0)) (fun g101 => ?_) (fun g101 => ?_)
    ·skip
     refine U.k rfl rfl (.inr ⟨_, _, _, rfl, rfl, ((L 0 rfl rfl).trans (congrArg Value.bool g101))⟩) (S.loadB rfl (L 4 rfl rfl) Tryd.underlying25 rfl ti25 (ow64.own (k := 0) rfl).get rfl) nd ?_
     refine U.k rfl rfl (.inr ⟨_, _, _, rfl, rfl, ((L 1 rfl rfl).trans (congrArg Value.bool g101))⟩) (S.loadB rfl (L 31 rfl rfl) Tryd.underlying25 rfl ti25 (ow64.own (k := 2) rfl).get rfl) nd ?_
     refine U.p rfl rfl (.inr ⟨_, _, _, rfl, rfl, ((L 2 rfl rfl).trans (congrArg Value.bool g101))⟩) (S.eqlT (flA (flC (.int _ _) (flC (.int _ _) (flC (.int _ _) (flC (.int _ _) (flC (.int _ _) flN)))))) (flA (flC (.int _ _) (flC (.int _ _) (flC (.int _ _) (flC (.int _ _) (flC (.int _ _) flN)))))) rfl (L 1 rfl rfl) (L 0 rfl rfl) Tryd.underlying25 (by kernel_rfl) (by kernel_rfl) (.cons _ _ _ _ _ _ (by decide) (part_cell Tryd.underlying3 rfl rfl) (part_cell Tryd.underlying3 rfl rfl) (eqIn_int Tryd.underlying3 9998) (.cons _ _ _ _ _ _ (by decide) (part_cell Tryd.underlying3 rfl rfl) (part_cell Tryd.underlying3 rfl rfl) (eqIn_int Tryd.underlying3 9998) (.cons _ _ _ _ _ _ (by decide) (part_cell Tryd.underlying3 rfl rfl) (part_cell Tryd.underlying3 rfl rfl) (eqIn_int Tryd.underlying3 9998) (.cons _ _ _ _ _ _ (by decide) (part_cell Tryd.underlying3 rfl rfl) (part_cell Tryd.underlying3 rfl rfl) (eqIn_int Tryd.underlying3 9998) (.cons _ _ _ _ _ _ (by decide) (part_cell Tryd.underlying3 rfl rfl) (part_cell Tryd.underlying3 rfl rfl) (eqIn_int Tryd.underlying3 9998) .nil)))))) ?_
     refine U.p rfl rfl (.inl rfl) (S.pickT rfl ((L 3 rfl rfl).trans (congrArg Value.bool g101)) (L 0 rfl rfl)) ?_
     exact kk [(36, .bool ((decide (x49.1.op = p0.op)) && ((decide (x49.1.d = p0.d)) && ((decide (x49.1.a = p0.a)) && ((decide (x49.1.b = p0.b)) && ((decide (x49.1.imm = p0.imm)) && true)))))), (35, .bool ((decide (x49.1.op = p0.op)) && ((decide (x49.1.d = p0.d)) && ((decide (x49.1.a = p0.a)) && ((decide (x49.1.b = p0.b)) && ((decide (x49.1.imm = p0.imm)) && true)))))), (34, .agg #[.int .i64 p0.op, .int .i64 p0.d, .int .i64 p0.a, .int .i64 p0.b, .int .i64 p0.imm]), (33, .agg #[.int .i64 x49.1.op, .int .i64 x49.1.d, .int .i64 x49.1.a, .int .i64 x49.1.b, .int .i64 x49.1.imm])] _ ⟨.bool ((decide (x49.1.op = p0.op)) && ((decide (x49.1.d = p0.d)) && ((decide (x49.1.a = p0.a)) && ((decide (x49.1.b = p0.b)) && ((decide (x49.1.imm = p0.imm)) && true))))), .agg #[.int .i64 p0.op, .int .i64 p0.d, .int .i64 p0.a, .int .i64 p0.b, .int .i64 p0.imm], .agg #[.int .i64 x49.1.op, .int .i64 x49.1.d, .int .i64 x49.1.a, .int .i64 x49.1.b, .int .i64 x49.1.imm], rfl, (by rw [g101, Bool.true_and])⟩
    ·skip
     refine U.x rfl rfl rfl rfl ((L 0 rfl rfl).trans (congrArg Value.bool g101)) (by decide) ?_
     refine U.x rfl rfl rfl rfl ((L 1 rfl rfl).trans (congrArg Value.bool g101)) (by decide) ?_
     refine U.x rfl rfl rfl rfl ((L 2 rfl rfl).trans (congrArg Value.bool g101)) (by decide) ?_
     refine U.p rfl rfl (.inl rfl) (S.pickF rfl ((L 3 rfl rfl).trans (congrArg Value.bool g101)) K) ?_
     exact kk [(36, .bool false), (35, .tuple #[]), (34, .tuple #[]), (33, .tuple #[])] _ ⟨.tuple #[], .tuple #[], .tuple #[], rfl, (by rw [g101, Bool.false_and])⟩
set_option maxHeartbeats 4000000 in
set_option maxRecDepth 10000 in
theorem wk_law02_IsaLimits (V : Vw) (Rs : List At) (gl : Glb V) (p0 : Int) (p1 : Int) (p2 : Int) (ow : Ow V (Rs)) (r : Bool) (h : law02_IsaLimits p0 p1 p2 = some r) : ∃ v V', Cl Tryd.prog NG 5 #[.int .i64 p0, .int .i64 p1, .int .i64 p2] V.H v V'.H ∧ V.le V' ∧ (v = .bool r ∧ Ow V' (Rs)) := by
 refine Ct.of gl.lo Tryd.func5 rfl (nr rfl) ?_
 unfold law02_IsaLimits at h
 refine WP.usreg rfl ?_
 refine U.p rfl rfl (.inl rfl) (S.assign rfl K) ?_
 refine U.done (nr rfl) ?_
 refine WP.seq ?_
 refine WP.usreg rfl ?_
 obtain ⟨x1, hx2, h3⟩ := bindS h
 refine O.call (V := V) rfl rfl (.inl rfl) rfl en10 aN (wk_law02_alive V _ gl ow _ hx2) (fun _ _ _ _ => nd) (fun v4 V5 le6 hp7 => ?_)
 obtain ⟨rfl, ow8⟩ := hp7
 refine U.p rfl rfl (.inl rfl) (S.not rfl (L 0 rfl rfl)) ?_
 refine U.done (nr rfl) ?_
 refine WP.cond _ (L 0 rfl rfl) rfl (fun c9 => ?_) (fun c9 => ?_)
 ·have h10 := ifT c9 h3
  have k11 : x1 = false := nT c9
  refine WP.usreg rfl ?_
  refine U.p rfl rfl (.inl rfl) (S.assign rfl K) ?_
  refine U.done (nr rfl) ?_
  refine WP.ret ?_
  refine sqR ?_
  refine fin.slot (.inr rfl) rfl (L 0 rfl rfl) ⟨V5, rfl, le6, ?_⟩
  have e12 := Option.some.inj h10
  subst e12
  exact ⟨rfl, ow8⟩
 ·have h13 := ifF c9 h3
  have k14 : x1 = true := nF c9
  refine WP.skip ?_
  refine sqN ?_
  refine WP.seq ?_
  refine WP.usreg rfl ?_
  refine U.p rfl rfl (.inl rfl) (S.move rfl (L 5 rfl rfl)) ?_
  refine U.p rfl rfl (.inl rfl) (S.lss rfl (L 0 rfl rfl) K) ?_
  refine U.p rfl rfl (.inl rfl) (S.move rfl (L 0 rfl rfl)) ?_
  refine U.joinX 6 (fun e H => ∃ (u15 u16 : Value), H = V5.H ∧ e = [(22, .bool ((decide (p2 < 0)) || (decide (3 < p2)))), (21, u15), (20, u16)]) ?_ ?_
  ·rintro _ _ ⟨u15, u16, rfl, rfl⟩
   refine U.done (nr rfl) ?_
   refine WP.cond _ (L 0 rfl rfl) rfl (fun c20 => ?_) (fun c20 => ?_)
   ·have h21 := ifT c20 h13
    refine WP.usreg rfl ?_
    refine U.p rfl rfl (.inl rfl) (S.assign rfl K) ?_
    refine U.done (nr rfl) ?_
    refine WP.ret ?_
    refine sqR ?_
    refine fin.slot (.inr rfl) rfl (L 0 rfl rfl) ⟨V5, rfl, le6, ?_⟩
    have e22 := Option.some.inj h21
    subst e22
    exact ⟨rfl, ow8⟩
   ·have h23 := ifF c20 h13
    refine WP.skip ?_
    refine sqN ?_
    refine WP.usreg rfl ?_
    refine U.p rfl rfl (.inl rfl) (S.move rfl (L 9 rfl rfl)) ?_
    obtain ⟨x24, hx25, h26⟩ := bindS h23
    refine O.call (V := V5) rfl rfl (.inl rfl) rfl en15 (aC (L 0 rfl rfl) aN) (wk_ref02_Of V5 _ (gl.up le6) p0 ow8 _ hx25) (fun _ _ _ _ => nd) (fun v27 V28 le29 hp30 => ?_)
    obtain ⟨rfl, ow31⟩ := hp30
    refine U.p rfl rfl (.inl rfl) (S.move rfl (L 0 rfl rfl)) ?_
    refine U.p rfl rfl (.inl rfl) (S.extract rfl (L 0 rfl rfl) rfl (nr rfl)) ?_
    refine U.p rfl rfl (.inl rfl) (S.extract rfl (L 1 rfl rfl) rfl (nr rfl)) ?_
    refine O.alloc ow31 rfl rfl (.inl rfl) rfl ti37 rfl rfl nd (fun b32 V33 le34 ow35 => ?_)
    refine O.store (k := 0) (cs := [.string x24.1.name, .bool x24.1.d, .bool x24.1.a, .bool x24.1.b, .int .i64 x24.1.imm, .int .u32 x24.1.word]) (c' := [.string x24.1.name, .bool x24.1.d, .bool x24.1.a, .bool x24.1.b, .int .i64 x24.1.imm, .int .u32 x24.1.word]) ow35 rfl rfl rfl (.inl rfl) rfl (L 0 rfl rfl) (L 2 rfl rfl) ti37 (by simp [topV]) rfl rfl (nr rfl) rfl rfl nd (fun V37 le38 ow39 => ?_)
    refine U.p rfl rfl (.inl rfl) (S.assign rfl (L 1 rfl rfl)) ?_
    refine U.done (nr rfl) ?_
    refine WP.seq ?_
    refine WP.usreg rfl ?_
    refine U.p rfl rfl (.inl rfl) (S.move rfl (L 0 rfl rfl)) ?_
    refine U.p rfl rfl (.inl rfl) (S.not rfl (L 0 rfl rfl)) ?_
    refine U.p rfl rfl (.inl rfl) (S.move rfl (L 0 rfl rfl)) ?_
    refine U.joinX 7 (fun e H => ∃ (u40 u41 u42 : Value), H = V37.H ∧ e = [(34, .bool ((!x24.2) || (decide (x24.1.imm = 0)))), (33, u40), (32, u41), (31, u42)]) ?_ ?_
    ·rintro _ _ ⟨u40, u41, u42, rfl, rfl⟩
     refine U.p rfl rfl (.inl rfl) (S.move rfl (L 0 rfl rfl)) ?_
     refine U.joinX 11 (fun e H => ∃ (u46 u47 : Value), H = V37.H ∧ e = [(38, .bool (((!x24.2) || (decide (x24.1.imm = 0))) || (decide (p0 = 21)))), (37, u46), (36, u47)]) ?_ ?_
     ·rintro _ _ ⟨u46, u47, rfl, rfl⟩
      refine U.done (nr rfl) ?_
      refine WP.cond _ (L 0 rfl rfl) rfl (fun c51 => ?_) (fun c51 => ?_)
      ·have h52 := ifT c51 h26
       refine WP.usreg rfl ?_
       refine U.p rfl rfl (.inl rfl) (S.assign rfl K) ?_
       refine U.done (nr rfl) ?_
       refine WP.ret ?_
       refine sqR ?_
       refine fin.slot (.inr rfl) rfl (L 0 rfl rfl) ⟨V37, rfl, (((le6.trans le29).trans le34).trans le38), ?_⟩
       have ow53 := ow39.drop 0 rfl
       have e54 := Option.some.inj h52
       subst e54
       exact ⟨rfl, ow53⟩
      ·have h55 := ifF c51 h26
       refine WP.skip ?_
       refine sqN ?_
       refine WP.usreg rfl ?_
       refine U.p (v := .pointer (some ⟨b32, 4, none⟩)) rfl rfl (.inl rfl) (S.fieldAddr rfl (L 12 rfl rfl) Tryd.underlying37 rfl ti3 rfl rfl) ?_
       refine U.k rfl rfl (.inl rfl) (S.load rfl (L 0 rfl rfl) Tryd.underlying3 rfl ((ow39.own (k := 0) rfl).cell rfl)) nd ?_
       refine U.p rfl rfl (.inl rfl) (S.assign rfl (L 0 rfl rfl)) ?_
       refine U.done (nr rfl) ?_
       refine WP.usreg rfl ?_
       refine U.p rfl rfl (.inl rfl) (S.assign rfl K) ?_
       refine U.done (nr rfl) ?_
       refine WP.seqI (fun l V' => ∃ (x56 : Int) (x57 : Int), l = [(0, .int .i64 p0), (2, .int .i64 p2), (9, .int .i64 x56), (10, .int .i64 x57)] ∧ V37.le V' ∧ Ow V' (Rs) ∧ law02_IsaLimits_k1 p0 p2 x56 x57 = some r) ?_ ?_
       ·rintro _ V58 ⟨x56, x57, rfl, le59, ow60, h61⟩
        unfold law02_IsaLimits_k1 at h61
        refine WP.usreg rfl ?_
        refine U.p rfl rfl (.inl rfl) (S.move rfl (L 2 rfl rfl)) ?_
        refine U.p rfl rfl (.inl rfl) (S.sub rfl (L 0 rfl rfl) K) ?_
        refine U.p rfl rfl (.inl rfl) (S.conv rfl (L 0 rfl rfl) Tryd.underlying3 Tryd.underlying40) ?_
        obtain ⟨x62, hx63, h64⟩ := bindS h61
        refine U.p rfl rfl (.inl rfl) (S.shl hx63 rfl K (L 0 rfl rfl)) ?_
        refine U.p rfl rfl (.inl rfl) (S.move rfl (L 7 rfl rfl)) ?_
        refine U.p rfl rfl (.inl rfl) (S.sub rfl (L 1 rfl rfl) (L 0 rfl rfl)) ?_
        refine U.p rfl rfl (.inl rfl) (S.move rfl (L 8 rfl rfl)) ?_
        refine U.p rfl rfl (.inl rfl) (S.sub rfl (L 0 rfl rfl) K) ?_
        refine U.p rfl rfl (.inl rfl) (S.conv rfl (L 0 rfl rfl) Tryd.underlying3 Tryd.underlying40) ?_
        obtain ⟨x65, hx66, h67⟩ := bindS h64
        refine U.p rfl rfl (.inl rfl) (S.shl hx66 rfl K (L 0 rfl rfl)) ?_
        refine U.p rfl rfl (.inl rfl) (S.assign rfl (L 4 rfl rfl)) ?_
        refine U.p rfl rfl (.inl rfl) (S.assign rfl (L 1 rfl rfl)) ?_
        refine U.done (nr rfl) ?_
        refine WP.usreg rfl ?_
        refine U.p rfl rfl (.inl rfl) (S.move rfl (L 12 rfl rfl)) ?_
        refine U.p (v := .agg #[.int .i64 p0, .int .i64 0, .int .i64 0, .int .i64 0, .int .i64 0]) rfl rfl (.inl rfl) (S.build (vs := [.int .i64 p0]) rfl ti25 rfl pl25 (aC (L 0 rfl rfl) aN) (allC (by simp [topV]) allN) rfl) ?_
        refine O.alloc ow60 rfl rfl (.inl rfl) rfl ti25 rfl rfl nd (fun b68 V69 le70 ow71 => ?_)
        refine O.store (k := 0) (cs := [.int .i64 p0, .int .i64 0, .int .i64 0, .int .i64 0, .int .i64 0]) (c' := [.int .i64 p0, .int .i64 0, .int .i64 0, .int .i64 0, .int .i64 0]) ow71 rfl rfl rfl (.inl rfl) rfl (L 0 rfl rfl) (L 1 rfl rfl) ti25 (by simp [topV]) rfl rfl (nr rfl) rfl rfl nd (fun V73 le74 ow75 => ?_)
        refine U.done (nr rfl) ?_
        refine WP.seqI (fun l V' => ∃ (x76 : Int), l = [(2, .int .i64 p2), (10, .int .i64 x57), (11, .int .i64 (w64 (x62 - x57))), (12, .int .i64 x65), (13, .pointer (some ⟨b68, 0, none⟩))] ∧ V73.le V' ∧ Ow V' (.pt b68 (.cells 5 [.int .i64 p0, .int .i64 x76, .int .i64 0, .int .i64 0, .int .i64 0]) :: Rs) ∧ law02_IsaLimits_k2 p0 p2 x57 x62 x65 x76 = some r) ?_ ?_
        ·rintro _ V77 ⟨x76, rfl, le78, ow79, h80⟩
         unfold law02_IsaLimits_k2 at h80
         refine WP.usreg rfl ?_
         refine U.p rfl rfl (.inl rfl) (S.move rfl (L 2 rfl rfl)) ?_
         refine U.p rfl rfl (.inl rfl) (S.move rfl (L 2 rfl rfl)) ?_
         refine U.p rfl rfl (.inl rfl) (S.move rfl (L 2 rfl rfl)) ?_
         refine U.p rfl rfl (.inl rfl) (S.mul rfl (L 1 rfl rfl) (L 0 rfl rfl)) ?_
         refine U.p rfl rfl (.inl rfl) (S.add rfl (L 3 rfl rfl) (L 0 rfl rfl)) ?_
         refine U.p (v := .pointer (some ⟨b68, 4, none⟩)) rfl rfl (.inl rfl) (S.fieldAddr rfl (L 9 rfl rfl) Tryd.underlying25 rfl ti3 rfl rfl) ?_
         refine O.store (k := 0) (cs := [.int .i64 (w64 ((w64 (x62 - x57)) + (w64 (x57 * p2))))]) (c' := [.int .i64 p0, .int .i64 x76, .int .i64 0, .int .i64 0, .int .i64 (w64 ((w64 (x62 - x57)) + (w64 (x57 * p2))))]) ow79 rfl rfl rfl (.inl rfl) rfl (L 0 rfl rfl) (L 1 rfl rfl) ti3 (by simp [topV]) rfl rfl (nr rfl) rfl rfl nd (fun V81 le82 ow83 => ?_)
         refine U.done (nr rfl) ?_
         refine WP.usreg rfl ?_
         refine U.k rfl rfl (.inl rfl) (S.loadB rfl (L 10 rfl rfl) Tryd.underlying25 rfl ti25 (ow83.own (k := 0) rfl).get rfl) nd ?_
         obtain ⟨x84, hx85, h86⟩ := bindS h80
         refine O.call (V := V81) rfl rfl (.inl rfl) rfl en14 (aC (L 0 rfl rfl) aN) (wk_isa_Good V81 _ (gl.up ((((((((le6.trans le29).trans le34).trans le38).trans le59).trans le70).trans le74).trans le78).trans le82)) (⟨p0, x76, 0, 0, w64 ((w64 (x62 - x57)) + (w64 (x57 * p2)))⟩ : TInst) ow83 _ hx85) (fun _ _ _ _ => nd) (fun v87 V88 le89 hp90 => ?_)
         obtain ⟨rfl, ow91⟩ := hp90
         refine U.p rfl rfl (.inl rfl) (S.assign rfl (L 0 rfl rfl)) ?_
         refine U.done (nr rfl) ?_
         refine WP.usreg rfl ?_
         refine U.p rfl rfl (.inl rfl) (S.move rfl (L 12 rfl rfl)) ?_
         refine U.p rfl rfl (.inl rfl) (S.move rfl (L 11 rfl rfl)) ?_
         refine U.p rfl rfl (.inl rfl) (S.move rfl (L 11 rfl rfl)) ?_
         refine U.p rfl rfl (.inl rfl) (S.mul rfl (L 1 rfl rfl) (L 0 rfl rfl)) ?_
         refine U.p rfl rfl (.inl rfl) (S.sub rfl (L 3 rfl rfl) (L 0 rfl rfl)) ?_
         refine U.p (v := .pointer (some ⟨b68, 4, none⟩)) rfl rfl (.inl rfl) (S.fieldAddr rfl (L 18 rfl rfl) Tryd.underlying25 rfl ti3 rfl rfl) ?_
         refine O.store (k := 0) (cs := [.int .i64 (w64 (x65 - (w64 (x57 * p2))))]) (c' := [.int .i64 p0, .int .i64 x76, .int .i64 0, .int .i64 0, .int .i64 (w64 (x65 - (w64 (x57 * p2))))]) ow91 rfl rfl rfl (.inl rfl) rfl (L 0 rfl rfl) (L 1 rfl rfl) ti3 (by simp [topV]) rfl rfl (nr rfl) rfl rfl nd (fun V92 le93 ow94 => ?_)
         refine U.done (nr rfl) ?_
         refine WP.usreg rfl ?_
         refine U.p rfl rfl (.inl rfl) (S.move rfl (L 6 rfl rfl)) ?_
         refine U.p rfl rfl (.inl rfl) (S.move rfl (L 16 rfl rfl)) ?_
         refine U.p rfl rfl (.inl rfl) (S.eqlI rfl (L 0 rfl rfl) K) ?_
         refine U.p rfl rfl (.inl rfl) (S.eqlB rfl (L 2 rfl rfl) (L 0 rfl rfl) Tryd.underlying4) ?_
         refine U.p rfl rfl (.inl rfl) (S.move rfl (L 0 rfl rfl)) ?_
         obtain ⟨y95, hy96, h97⟩ := bindS h86
         refine U.joinX 11 (fun e H => ∃ (u98 u99 u100 u101 u102 : Value), ∃ V' : Vw, H = V'.H ∧ V92.le V' ∧ e = [(82, .bool y95), (81, u98), (80, u99), (79, u100), (78, u101), (77, u102)] ∧ Ow V' (.pt b68 (.cells 5 [.int .i64 p0, .int .i64 x76, .int .i64 0, .int .i64 0, .int .i64 (w64 (x65 - (w64 (x57 * p2))))]) :: Rs)) ?_ ?_
         ·rintro _ _ ⟨u98, u99, u100, u101, u102, V103, rfl, le104, rfl, ow105⟩
          refine U.p rfl rfl (.inl rfl) (S.assign rfl (L 0 rfl rfl)) ?_
          refine U.done (nr rfl) ?_
          refine WP.ret ?_
          refine fin.slot (.inr rfl) rfl (L 0 rfl rfl) ⟨V103, rfl, (((((((((((le6.trans le29).trans le34).trans le38).trans le59).trans le70).trans le74).trans le78).trans le82).trans le89).trans le93).trans le104), ?_⟩
          have ow106 := ow105.drop 0 rfl
          have e107 := Option.some.inj h97
          subst e107
          exact ⟨rfl, ow106⟩
         ·intro kk
          refine bcase (b := x84 == (decide (p2 = 0))) (fun g108 => ?_) (fun g108 => ?_)
          ·have h109 := ifT g108 hy96
           refine U.k rfl rfl (.inr ⟨_, _, _, rfl, rfl, ((L 0 rfl rfl).trans (congrArg Value.bool g108))⟩) (S.loadB rfl (L 24 rfl rfl) Tryd.underlying25 rfl ti25 (ow94.own (k := 0) rfl).get rfl) nd ?_
           obtain ⟨x110, hx111, h112⟩ := bindS h109
           refine O.call (V := V92) rfl rfl (.inr ⟨_, _, _, rfl, rfl, ((L 1 rfl rfl).trans (congrArg Value.bool g108))⟩) rfl en14 (aC (L 0 rfl rfl) aN) (wk_isa_Good V92 _ (gl.up ((((((((((le6.trans le29).trans le34).trans le38).trans le59).trans le70).trans le74).trans le78).trans le82).trans le89).trans le93)) (⟨p0, x76, 0, 0, w64 (x65 - (w64 (x57 * p2)))⟩ : TInst) ow94 _ hx111) (fun _ _ _ _ => nd) (fun v113 V114 le115 hp116 => ?_)
           obtain ⟨rfl, ow117⟩ := hp116
           refine U.p rfl rfl (.inr ⟨_, _, _, rfl, rfl, ((L 2 rfl rfl).trans (congrArg Value.bool g108))⟩) (S.move rfl (L 22 rfl rfl)) ?_
           refine U.p rfl rfl (.inr ⟨_, _, _, rfl, rfl, ((L 3 rfl rfl).trans (congrArg Value.bool g108))⟩) (S.eqlI rfl (L 0 rfl rfl) K) ?_
           refine U.p rfl rfl (.inr ⟨_, _, _, rfl, rfl, ((L 4 rfl rfl).trans (congrArg Value.bool g108))⟩) (S.eqlB rfl (L 2 rfl rfl) (L 0 rfl rfl) Tryd.underlying4) ?_
           refine U.p rfl rfl (.inl rfl) (S.pickT rfl ((L 5 rfl rfl).trans (congrArg Value.bool g108)) (L 0 rfl rfl)) ?_
           have e118 := Option.some.inj h112
           subst e118
           exact kk [(82, .bool (x110 == (decide (p2 = 0)))), (81, .bool (x110 == (decide (p2 = 0)))), (80, .bool (decide (p2 = 0))), (79, .int .i64 p2), (78, .bool x110), (77, .agg #[.int .i64 p0, .int .i64 x76, .int .i64 0, .int .i64 0, .int .i64 (w64 (x65 - (w64 (x57 * p2))))])] _ ⟨.bool (x110 == (decide (p2 = 0))), .bool (decide (p2 = 0)), .int .i64 p2, .bool x110, .agg #[.int .i64 p0, .int .i64 x76, .int .i64 0, .int .i64 0, .int .i64 (w64 (x65 - (w64 (x57 * p2))))], V114, rfl, le115, rfl, ow117⟩
          ·have h119 := ifF g108 hy96
           refine U.x rfl rfl rfl rfl ((L 0 rfl rfl).trans (congrArg Value.bool g108)) (by decide) ?_
           refine U.x rfl rfl rfl rfl ((L 1 rfl rfl).trans (congrArg Value.bool g108)) (by decide) ?_
           refine U.x rfl rfl rfl rfl ((L 2 rfl rfl).trans (congrArg Value.bool g108)) (by decide) ?_
           refine U.x rfl rfl rfl rfl ((L 3 rfl rfl).trans (congrArg Value.bool g108)) (by decide) ?_
           refine U.x rfl rfl rfl rfl ((L 4 rfl rfl).trans (congrArg Value.bool g108)) (by decide) ?_
           refine U.p rfl rfl (.inl rfl) (S.pickF rfl ((L 5 rfl rfl).trans (congrArg Value.bool g108)) K) ?_
           have e120 := Option.some.inj h119
           subst e120
           exact kk [(82, .bool false), (81, .tuple #[]), (80, .tuple #[]), (79, .tuple #[]), (78, .tuple #[]), (77, .tuple #[])] _ ⟨.tuple #[], .tuple #[], .tuple #[], .tuple #[], .tuple #[], V92, rfl, (.refl _), rfl, ow94⟩
        ·skip
         refine WP.usreg rfl ?_
         refine U.p rfl rfl (.inl rfl) (S.move rfl (L 15 rfl rfl)) ?_
         refine U.p rfl rfl (.inl rfl) (S.eqlI rfl (L 0 rfl rfl) K) ?_
         refine U.done (nr rfl) ?_
         refine WP.cond _ (L 0 rfl rfl) rfl (fun c121 => ?_) (fun c121 => ?_)
         ·have h122 := ifT c121 h67
          refine WP.ureg rfl ?_
          refine U.p (v := .pointer (some ⟨b68, 1, none⟩)) rfl rfl (.inl rfl) (S.fieldAddr rfl (L 2 rfl rfl) Tryd.underlying25 rfl ti3 rfl rfl) ?_
          refine O.store (k := 0) (cs := [.int .i64 12]) (c' := [.int .i64 p0, .int .i64 12, .int .i64 0, .int .i64 0, .int .i64 0]) ow75 rfl rfl rfl (.inl rfl) rfl (L 0 rfl rfl) K ti3 (by simp [topV]) rfl rfl (nr rfl) rfl rfl nd (fun V123 le124 ow125 => ?_)
          refine U.done (nr rfl) ?_
          refine sqN ?_
          exact ⟨_, V123, rfl, ⟨12, rfl, le124, ow125, h122⟩, (allCons (L 19 rfl rfl) (allCons (L 21 rfl rfl) (allCons (L 7 rfl rfl) (allCons (L 6 rfl rfl) (allCons (L 3 rfl rfl) allNil)))))⟩
         ·have h126 := ifF c121 h67
          refine WP.skip ?_
          refine sqN ?_
          exact ⟨_, V73, rfl, ⟨0, rfl, (.refl _), ow75, h126⟩, (allCons (L 18 rfl rfl) (allCons (L 20 rfl rfl) (allCons (L 6 rfl rfl) (allCons (L 5 rfl rfl) (allCons (L 2 rfl rfl) allNil)))))⟩
       ·skip
        refine WP.usreg rfl ?_
        refine U.p rfl rfl (.inl rfl) (S.move rfl (L 1 rfl rfl)) ?_
        refine U.p rfl rfl (.inl rfl) (S.eqlI rfl (L 0 rfl rfl) K) ?_
        refine U.done (nr rfl) ?_
        refine WP.cond _ (L 0 rfl rfl) rfl (fun c127 => ?_) (fun c127 => ?_)
        ·have h128 := ifT c127 h55
         refine WP.usreg rfl ?_
         refine U.p rfl rfl (.inl rfl) (S.assign rfl K) ?_
         refine U.done (nr rfl) ?_
         refine WP.ureg rfl ?_
         refine U.p rfl rfl (.inl rfl) (S.assign rfl K) ?_
         refine U.done (nr rfl) ?_
         refine sqN ?_
         have ow129 := ow39.drop 0 rfl
         exact ⟨_, V37, rfl, ⟨16, 4, rfl, (.refl _), ow129, h128⟩, (allCons (L 35 rfl rfl) (allCons (L 37 rfl rfl) (allCons (L 1 rfl rfl) (allCons (L 0 rfl rfl) allNil))))⟩
        ·have h130 := ifF c127 h55
         refine WP.skip ?_
         refine sqN ?_
         have ow131 := ow39.drop 0 rfl
         exact ⟨_, V37, rfl, ⟨x24.1.imm, 1, rfl, (.refl _), ow131, h130⟩, (allCons (L 33 rfl rfl) (allCons (L 35 rfl rfl) (allCons (L 3 rfl rfl) (allCons (L 2 rfl rfl) allNil))))⟩
     ·intro kk
      refine bcase (b := (!x24.2) || (decide (x24.1.imm = 0))) (fun g132 => ?_) (fun g132 => ?_)
      ·skip
       refine U.x rfl rfl rfl rfl ((L 0 rfl rfl).trans (congrArg Value.bool g132)) (by decide) ?_
       refine U.x rfl rfl rfl rfl ((L 1 rfl rfl).trans (congrArg Value.bool g132)) (by decide) ?_
       refine U.p rfl rfl (.inl rfl) (S.pickT rfl ((L 2 rfl rfl).trans (congrArg Value.bool g132)) K) ?_
       exact kk [(38, .bool true), (37, .tuple #[]), (36, .tuple #[])] _ ⟨.tuple #[], .tuple #[], rfl, (by rw [g132, Bool.true_or])⟩
      ·skip
       refine U.p rfl rfl (.inr ⟨_, _, _, rfl, rfl, ((L 0 rfl rfl).trans (congrArg Value.bool g132))⟩) (S.move rfl (L 24 rfl rfl)) ?_
       refine U.p rfl rfl (.inr ⟨_, _, _, rfl, rfl, ((L 1 rfl rfl).trans (congrArg Value.bool g132))⟩) (S.eqlI rfl (L 0 rfl rfl) K) ?_
       refine U.p rfl rfl (.inl rfl) (S.pickF rfl ((L 2 rfl rfl).trans (congrArg Value.bool g132)) (L 0 rfl rfl)) ?_
       exact kk [(38, .bool (decide (p0 = 21))), (37, .bool (decide (p0 = 21))), (36, .int .i64 p0)] _ ⟨.bool (decide (p0 = 21)), .int .i64 p0, rfl, (by rw [g132, Bool.false_or])⟩
    ·intro kk
     refine bcase (b := !x24.2) (fun g133 => ?_) (fun g133 => ?_)
     ·skip
      have k134 : x24.2 = false := nT g133
      refine U.x rfl rfl rfl rfl ((L 0 rfl rfl).trans (congrArg Value.bool g133)) (by decide) ?_
      refine U.x rfl rfl rfl rfl ((L 1 rfl rfl).trans (congrArg Value.bool g133)) (by decide) ?_
      refine U.x rfl rfl rfl rfl ((L 2 rfl rfl).trans (congrArg Value.bool g133)) (by decide) ?_
      refine U.p rfl rfl (.inl rfl) (S.pickT rfl ((L 3 rfl rfl).trans (congrArg Value.bool g133)) K) ?_
      exact kk [(34, .bool true), (33, .tuple #[]), (32, .tuple #[]), (31, .tuple #[])] _ ⟨.tuple #[], .tuple #[], .tuple #[], rfl, (by rw [g133, Bool.true_or])⟩
     ·skip
      have k135 : x24.2 = true := nF g133
      refine U.p (v := .pointer (some ⟨b32, 4, none⟩)) rfl rfl (.inr ⟨_, _, _, rfl, rfl, ((L 0 rfl rfl).trans (congrArg Value.bool g133))⟩) (S.fieldAddr rfl (L 4 rfl rfl) Tryd.underlying37 rfl ti3 rfl rfl) ?_
      refine U.k rfl rfl (.inr ⟨_, _, _, rfl, rfl, ((L 1 rfl rfl).trans (congrArg Value.bool g133))⟩) (S.load rfl (L 0 rfl rfl) Tryd.underlying3 rfl ((ow39.own (k := 0) rfl).cell rfl)) nd ?_
      refine U.p rfl rfl (.inr ⟨_, _, _, rfl, rfl, ((L 2 rfl rfl).trans (congrArg Value.bool g133))⟩) (S.eqlI rfl (L 0 rfl rfl) K) ?_
      refine U.p rfl rfl (.inl rfl) (S.pickF rfl ((L 3 rfl rfl).trans (congrArg Value.bool g133)) (L 0 rfl rfl)) ?_
      exact kk [(34, .bool (decide (x24.1.imm = 0))), (33, .bool (decide (x24.1.imm = 0))), (32, .int .i64 x24.1.imm), (31, .pointer (some ⟨b32, 4, none⟩))] _ ⟨.bool (decide (x24.1.imm = 0)), .int .i64 x24.1.imm, .pointer (some ⟨b32, 4, none⟩), rfl, (by rw [g133, Bool.false_or])⟩
  ·intro kk
   refine bcase (b := decide (p2 < 0)) (fun g136 => ?_) (fun g136 => ?_)
   ·skip
    refine U.x rfl rfl rfl rfl ((L 0 rfl rfl).trans (congrArg Value.bool g136)) (by decide) ?_
    refine U.x rfl rfl rfl rfl ((L 1 rfl rfl).trans (congrArg Value.bool g136)) (by decide) ?_
    refine U.p rfl rfl (.inl rfl) (S.pickT rfl ((L 2 rfl rfl).trans (congrArg Value.bool g136)) K) ?_
    exact kk [(22, .bool true), (21, .tuple #[]), (20, .tuple #[])] _ ⟨.tuple #[], .tuple #[], rfl, (by rw [g136, Bool.true_or])⟩
   ·skip
    refine U.p rfl rfl (.inr ⟨_, _, _, rfl, rfl, ((L 0 rfl rfl).trans (congrArg Value.bool g136))⟩) (S.move rfl (L 8 rfl rfl)) ?_
    refine U.p rfl rfl (.inr ⟨_, _, _, rfl, rfl, ((L 1 rfl rfl).trans (congrArg Value.bool g136))⟩) (S.gtr rfl (L 0 rfl rfl) K) ?_
    refine U.p rfl rfl (.inl rfl) (S.pickF rfl ((L 2 rfl rfl).trans (congrArg Value.bool g136)) (L 0 rfl rfl)) ?_
    exact kk [(22, .bool (decide (3 < p2))), (21, .bool (decide (3 < p2))), (20, .int .i64 p2)] _ ⟨.bool (decide (3 < p2)), .int .i64 p2, rfl, (by rw [g136, Bool.false_or])⟩
set_option maxHeartbeats 4000000 in
set_option maxRecDepth 10000 in
theorem wk_isa_Reads (V : Vw) (Rs : List At) (gl : Glb V) (p0 : TInst) (ow : Ow V (Rs)) (r : List Int) (h : isa_Reads p0 = some r) : ∃ v V', Cl Tryd.prog NG 17 #[.agg #[.int .i64 p0.op, .int .i64 p0.d, .int .i64 p0.a, .int .i64 p0.b, .int .i64 p0.imm]] V.H v V'.H ∧ V.le V' ∧ (∃ (v1 : Value), v = v1 ∧ Ow V' (.os (RT.int .i64) v1 r :: Rs)) := by
 refine Ct.of gl.lo Tryd.func17 rfl (nr rfl) ?_
 unfold isa_Reads at h
 refine WP.usreg rfl ?_
 refine O.box ow rfl rfl (.inl rfl) rfl (L 0 rfl rfl) (by simp [topV]) rfl nd (fun b3 V4 le5 ow6 => ?_)
 refine U.p rfl rfl (.inl rfl) (S.assign rfl K) ?_
 refine U.done (nr rfl) ?_
 refine WP.seq ?_
 refine WP.usreg rfl ?_
 refine U.p (v := .pointer (some ⟨b3, 0, none⟩)) rfl rfl (.inl rfl) (S.fieldAddr rfl (L 1 rfl rfl) Tryd.underlying25 rfl ti3 rfl rfl) ?_
 refine U.k rfl rfl (.inl rfl) (S.load rfl (L 0 rfl rfl) Tryd.underlying3 rfl ((ow6.own (k := 0) rfl).cell rfl)) nd ?_
 refine U.done (nr rfl) ?_
 refine WP.blk ?_
 refine WP.seqI (fun l V' => ∃ (x8 : Bool), l = [(1, .pointer (some ⟨b3, 0, none⟩)), (4, .int .i64 p0.op), (5, .bool x8)] ∧ V4.le V' ∧ Ow V' (.pt b3 (.cells 0 [.int .i64 p0.op, .int .i64 p0.d, .int .i64 p0.a, .int .i64 p0.b, .int .i64 p0.imm]) :: Rs) ∧ isa_Reads_k1 p0 x8 = some r) ?_ ?_
 ·rintro _ V9 ⟨x8, rfl, le10, ow11, h12⟩
  unfold isa_Reads_k1 at h12
  refine WP.cond _ (L 2 rfl rfl) rfl (fun c13 => ?_) (fun c13 => ?_)
  ·have h14 := ifT c13 h12
   refine WP.seq ?_
   refine WP.usreg rfl ?_
   refine U.p (v := .pointer (some ⟨b3, 2, none⟩)) rfl rfl (.inl rfl) (S.fieldAddr rfl (L 0 rfl rfl) Tryd.underlying25 rfl ti3 rfl rfl) ?_
   refine U.k rfl rfl (.inl rfl) (S.load rfl (L 0 rfl rfl) Tryd.underlying3 rfl ((ow11.own (k := 0) rfl).cell rfl)) nd ?_
   refine U.p rfl rfl (.inl rfl) (S.eqlI rfl (L 0 rfl rfl) K) ?_
   refine U.done (nr rfl) ?_
   refine WP.cond _ (L 0 rfl rfl) rfl (fun c15 => ?_) (fun c15 => ?_)
   ·have h16 := ifT c15 h14
    refine WP.usreg rfl ?_
    refine U.p rfl rfl (.inl rfl) (S.assign rfl K) ?_
    refine U.done (nr rfl) ?_
    refine WP.ret ?_
    refine sqR (blkR (sqR ?_))
    have ow17 := ow11.nil (RT.int .i64)
    refine fin.slot (.inr rfl) rfl (L 0 rfl rfl) ⟨V9, rfl, (le5.trans le10), ?_⟩
    have ow19 := ow17.drop 1 rfl
    have e20 := Option.some.inj h16
    subst e20
    exact ⟨(.slice none 0 0), rfl, ow19⟩
   ·have h21 := ifF c15 h14
    refine WP.skip ?_
    refine sqN ?_
    refine WP.usreg rfl ?_
    refine U.p (v := .pointer (some ⟨b3, 2, none⟩)) rfl rfl (.inl rfl) (S.fieldAddr rfl (L 3 rfl rfl) Tryd.underlying25 rfl ti3 rfl rfl) ?_
    refine U.k rfl rfl (.inl rfl) (S.load rfl (L 0 rfl rfl) Tryd.underlying3 rfl ((ow11.own (k := 0) rfl).cell rfl)) nd ?_
    refine O.lit (R := (RT.int .i64)) ow11 rfl rfl (.inl rfl) rfl Tryd.underlying42 ti3 rfl rfl rfl (nr rfl) rfl (aC (L 0 rfl rfl) aN) (.cons _ _ p0.a _ (by simp [topV]) rfl .nil) (fun _ => nd) (fun v22 V23 le24 ow25 => ?_)
    refine U.p rfl rfl (.inl rfl) (S.assign rfl (L 0 rfl rfl)) ?_
    refine U.done (nr rfl) ?_
    refine WP.ret ?_
    refine blkR (sqR ?_)
    refine fin.slot (.inr rfl) rfl (L 0 rfl rfl) ⟨V23, rfl, ((le5.trans le10).trans le24), ?_⟩
    have ow27 := ow25.drop 1 rfl
    have e28 := Option.some.inj h21
    subst e28
    exact ⟨v22, rfl, ow27⟩
  ·have h29 := ifF c13 h12
   refine WP.usreg rfl ?_
   refine U.p rfl rfl (.inl rfl) (S.eqlI rfl (L 1 rfl rfl) K) ?_
   refine U.p rfl rfl (.inl rfl) (S.assign rfl (L 0 rfl rfl)) ?_
   refine U.done (nr rfl) ?_
   refine WP.cond _ (L 0 rfl rfl) rfl (fun c30 => ?_) (fun c30 => ?_)
   ·have h31 := ifT c30 h29
    refine WP.seq ?_
    refine WP.usreg rfl ?_
    refine U.p (v := .pointer (some ⟨b3, 2, none⟩)) rfl rfl (.inl rfl) (S.fieldAddr rfl (L 2 rfl rfl) Tryd.underlying25 rfl ti3 rfl rfl) ?_
    refine U.k rfl rfl (.inl rfl) (S.load rfl (L 0 rfl rfl) Tryd.underlying3 rfl ((ow11.own (k := 0) rfl).cell rfl)) nd ?_
    refine U.p rfl rfl (.inl rfl) (S.eqlI rfl (L 0 rfl rfl) K) ?_
    refine U.done (nr rfl) ?_
    refine WP.cond _ (L 0 rfl rfl) rfl (fun c32 => ?_) (fun c32 => ?_)
    ·have h33 := ifT c32 h31
     refine WP.usreg rfl ?_
     refine U.p (v := .pointer (some ⟨b3, 1, none⟩)) rfl rfl (.inl rfl) (S.fieldAddr rfl (L 5 rfl rfl) Tryd.underlying25 rfl ti3 rfl rfl) ?_
     refine U.k rfl rfl (.inl rfl) (S.load rfl (L 0 rfl rfl) Tryd.underlying3 rfl ((ow11.own (k := 0) rfl).cell rfl)) nd ?_
     refine O.lit (R := (RT.int .i64)) ow11 rfl rfl (.inl rfl) rfl Tryd.underlying42 ti3 rfl rfl rfl (nr rfl) rfl (aC (L 0 rfl rfl) aN) (.cons _ _ p0.d _ (by simp [topV]) rfl .nil) (fun _ => nd) (fun v34 V35 le36 ow37 => ?_)
     refine U.p rfl rfl (.inl rfl) (S.assign rfl (L 0 rfl rfl)) ?_
     refine U.done (nr rfl) ?_
     refine WP.ret ?_
     refine sqR (blkR (sqR ?_))
     refine fin.slot (.inr rfl) rfl (L 0 rfl rfl) ⟨V35, rfl, ((le5.trans le10).trans le36), ?_⟩
     have ow39 := ow37.drop 1 rfl
     have e40 := Option.some.inj h33
     subst e40
     exact ⟨v34, rfl, ow39⟩
    ·have h41 := ifF c32 h31
     refine WP.skip ?_
     refine sqN ?_
     refine WP.usreg rfl ?_
     refine U.p (v := .pointer (some ⟨b3, 1, none⟩)) rfl rfl (.inl rfl) (S.fieldAddr rfl (L 5 rfl rfl) Tryd.underlying25 rfl ti3 rfl rfl) ?_
     refine U.k rfl rfl (.inl rfl) (S.load rfl (L 0 rfl rfl) Tryd.underlying3 rfl ((ow11.own (k := 0) rfl).cell rfl)) nd ?_
     refine U.p (v := .pointer (some ⟨b3, 2, none⟩)) rfl rfl (.inl rfl) (S.fieldAddr rfl (L 7 rfl rfl) Tryd.underlying25 rfl ti3 rfl rfl) ?_
     refine U.k rfl rfl (.inl rfl) (S.load rfl (L 0 rfl rfl) Tryd.underlying3 rfl ((ow11.own (k := 0) rfl).cell rfl)) nd ?_
     refine O.lit (R := (RT.int .i64)) ow11 rfl rfl (.inl rfl) rfl Tryd.underlying42 ti3 rfl rfl rfl (nr rfl) rfl (aC (L 2 rfl rfl) (aC (L 0 rfl rfl) aN)) (.cons _ _ p0.d _ (by simp [topV]) rfl (.cons _ _ p0.a _ (by simp [topV]) rfl .nil)) (fun _ => nd) (fun v42 V43 le44 ow45 => ?_)
     refine U.p rfl rfl (.inl rfl) (S.assign rfl (L 0 rfl rfl)) ?_
     refine U.done (nr rfl) ?_
     refine WP.ret ?_
     refine blkR (sqR ?_)
     refine fin.slot (.inr rfl) rfl (L 0 rfl rfl) ⟨V43, rfl, ((le5.trans le10).trans le44), ?_⟩
     have ow47 := ow45.drop 1 rfl
     have e48 := Option.some.inj h41
     subst e48
     exact ⟨v42, rfl, ow47⟩
   ·have h49 := ifF c30 h29
    refine WP.seqI (fun l V' => ∃ (x50 : Bool), l = [(1, .pointer (some ⟨b3, 0, none⟩)), (4, .int .i64 p0.op), (27, .bool x50)] ∧ V9.le V' ∧ Ow V' (.pt b3 (.cells 0 [.int .i64 p0.op, .int .i64 p0.d, .int .i64 p0.a, .int .i64 p0.b, .int .i64 p0.imm]) :: Rs) ∧ isa_Reads_k2 p0 x50 = some r) ?_ ?_
    ·rintro _ V51 ⟨x50, rfl, le52, ow53, h54⟩
     unfold isa_Reads_k2 at h54
     refine WP.cond _ (L 2 rfl rfl) rfl (fun c55 => ?_) (fun c55 => ?_)
     ·have h56 := ifT c55 h54
      refine WP.usreg rfl ?_
      refine U.p (v := .pointer (some ⟨b3, 2, none⟩)) rfl rfl (.inl rfl) (S.fieldAddr rfl (L 0 rfl rfl) Tryd.underlying25 rfl ti3 rfl rfl) ?_
      refine U.k rfl rfl (.inl rfl) (S.load rfl (L 0 rfl rfl) Tryd.underlying3 rfl ((ow53.own (k := 0) rfl).cell rfl)) nd ?_
      refine U.p (v := .pointer (some ⟨b3, 3, none⟩)) rfl rfl (.inl rfl) (S.fieldAddr rfl (L 2 rfl rfl) Tryd.underlying25 rfl ti3 rfl rfl) ?_
      refine U.k rfl rfl (.inl rfl) (S.load rfl (L 0 rfl rfl) Tryd.underlying3 rfl ((ow53.own (k := 0) rfl).cell rfl)) nd ?_
      refine O.lit (R := (RT.int .i64)) ow53 rfl rfl (.inl rfl) rfl Tryd.underlying42 ti3 rfl rfl rfl (nr rfl) rfl (aC (L 2 rfl rfl) (aC (L 0 rfl rfl) aN)) (.cons _ _ p0.a _ (by simp [topV]) rfl (.cons _ _ p0.b _ (by simp [topV]) rfl .nil)) (fun _ => nd) (fun v57 V58 le59 ow60 => ?_)
      refine U.p rfl rfl (.inl rfl) (S.assign rfl (L 0 rfl rfl)) ?_
      refine U.done (nr rfl) ?_
      refine WP.ret ?_
      refine blkR (sqR ?_)
      refine fin.slot (.inr rfl) rfl (L 0 rfl rfl) ⟨V58, rfl, (((le5.trans le10).trans le52).trans le59), ?_⟩
      have ow62 := ow60.drop 1 rfl
      have e63 := Option.some.inj h56
      subst e63
      exact ⟨v57, rfl, ow62⟩
     ·have h64 := ifF c55 h54
      refine WP.usreg rfl ?_
      refine U.p rfl rfl (.inl rfl) (S.eqlI rfl (L 1 rfl rfl) K) ?_
      refine U.p rfl rfl (.inl rfl) (S.assign rfl (L 0 rfl rfl)) ?_
      refine U.done (nr rfl) ?_
      refine WP.cond _ (L 0 rfl rfl) rfl (fun c65 => ?_) (fun c65 => ?_)
      ·have h66 := ifT c65 h64
       refine WP.usreg rfl ?_
       refine U.p (v := .pointer (some ⟨b3, 2, none⟩)) rfl rfl (.inl rfl) (S.fieldAddr rfl (L 2 rfl rfl) Tryd.underlying25 rfl ti3 rfl rfl) ?_
       refine U.k rfl rfl (.inl rfl) (S.load rfl (L 0 rfl rfl) Tryd.underlying3 rfl ((ow53.own (k := 0) rfl).cell rfl)) nd ?_
       refine U.p (v := .pointer (some ⟨b3, 3, none⟩)) rfl rfl (.inl rfl) (S.fieldAddr rfl (L 4 rfl rfl) Tryd.underlying25 rfl ti3 rfl rfl) ?_
       refine U.k rfl rfl (.inl rfl) (S.load rfl (L 0 rfl rfl) Tryd.underlying3 rfl ((ow53.own (k := 0) rfl).cell rfl)) nd ?_
       refine O.lit (R := (RT.int .i64)) ow53 rfl rfl (.inl rfl) rfl Tryd.underlying42 ti3 rfl rfl rfl (nr rfl) rfl (aC (L 2 rfl rfl) (aC (L 0 rfl rfl) aN)) (.cons _ _ p0.a _ (by simp [topV]) rfl (.cons _ _ p0.b _ (by simp [topV]) rfl .nil)) (fun _ => nd) (fun v67 V68 le69 ow70 => ?_)
       refine U.p rfl rfl (.inl rfl) (S.assign rfl (L 0 rfl rfl)) ?_
       refine U.done (nr rfl) ?_
       refine WP.ret ?_
       refine blkR (sqR ?_)
       refine fin.slot (.inr rfl) rfl (L 0 rfl rfl) ⟨V68, rfl, (((le5.trans le10).trans le52).trans le69), ?_⟩
       have ow72 := ow70.drop 1 rfl
       have e73 := Option.some.inj h66
       subst e73
       exact ⟨v67, rfl, ow72⟩
      ·have h74 := ifF c65 h64
       refine WP.usreg rfl ?_
       refine U.p rfl rfl (.inl rfl) (S.eqlI rfl (L 3 rfl rfl) K) ?_
       refine U.p rfl rfl (.inl rfl) (S.assign rfl (L 0 rfl rfl)) ?_
       refine U.done (nr rfl) ?_
       refine WP.cond _ (L 0 rfl rfl) rfl (fun c75 => ?_) (fun c75 => ?_)
       ·have h76 := ifT c75 h74
        refine WP.usreg rfl ?_
        refine U.p (v := .pointer (some ⟨b3, 1, none⟩)) rfl rfl (.inl rfl) (S.fieldAddr rfl (L 4 rfl rfl) Tryd.underlying25 rfl ti3 rfl rfl) ?_
        refine U.k rfl rfl (.inl rfl) (S.load rfl (L 0 rfl rfl) Tryd.underlying3 rfl ((ow53.own (k := 0) rfl).cell rfl)) nd ?_
        refine U.p (v := .pointer (some ⟨b3, 2, none⟩)) rfl rfl (.inl rfl) (S.fieldAddr rfl (L 6 rfl rfl) Tryd.underlying25 rfl ti3 rfl rfl) ?_
        refine U.k rfl rfl (.inl rfl) (S.load rfl (L 0 rfl rfl) Tryd.underlying3 rfl ((ow53.own (k := 0) rfl).cell rfl)) nd ?_
        refine U.p (v := .pointer (some ⟨b3, 3, none⟩)) rfl rfl (.inl rfl) (S.fieldAddr rfl (L 8 rfl rfl) Tryd.underlying25 rfl ti3 rfl rfl) ?_
        refine U.k rfl rfl (.inl rfl) (S.load rfl (L 0 rfl rfl) Tryd.underlying3 rfl ((ow53.own (k := 0) rfl).cell rfl)) nd ?_
        refine O.lit (R := (RT.int .i64)) ow53 rfl rfl (.inl rfl) rfl Tryd.underlying42 ti3 rfl rfl rfl (nr rfl) rfl (aC (L 4 rfl rfl) (aC (L 2 rfl rfl) (aC (L 0 rfl rfl) aN))) (.cons _ _ p0.d _ (by simp [topV]) rfl (.cons _ _ p0.a _ (by simp [topV]) rfl (.cons _ _ p0.b _ (by simp [topV]) rfl .nil))) (fun _ => nd) (fun v77 V78 le79 ow80 => ?_)
        refine U.p rfl rfl (.inl rfl) (S.assign rfl (L 0 rfl rfl)) ?_
        refine U.done (nr rfl) ?_
        refine WP.ret ?_
        refine blkR (sqR ?_)
        refine fin.slot (.inr rfl) rfl (L 0 rfl rfl) ⟨V78, rfl, (((le5.trans le10).trans le52).trans le79), ?_⟩
        have ow82 := ow80.drop 1 rfl
        have e83 := Option.some.inj h76
        subst e83
        exact ⟨v77, rfl, ow82⟩
       ·have h84 := ifF c75 h74
        refine WP.usreg rfl ?_
        refine U.p rfl rfl (.inl rfl) (S.eqlI rfl (L 5 rfl rfl) K) ?_
        refine U.p rfl rfl (.inl rfl) (S.assign rfl (L 0 rfl rfl)) ?_
        refine U.done (nr rfl) ?_
        refine WP.cond _ (L 0 rfl rfl) rfl (fun c85 => ?_) (fun c85 => ?_)
        ·have h86 := ifT c85 h84
         refine WP.usreg rfl ?_
         refine U.p (v := .pointer (some ⟨b3, 2, none⟩)) rfl rfl (.inl rfl) (S.fieldAddr rfl (L 6 rfl rfl) Tryd.underlying25 rfl ti3 rfl rfl) ?_
         refine U.k rfl rfl (.inl rfl) (S.load rfl (L 0 rfl rfl) Tryd.underlying3 rfl ((ow53.own (k := 0) rfl).cell rfl)) nd ?_
         refine O.lit (R := (RT.int .i64)) ow53 rfl rfl (.inl rfl) rfl Tryd.underlying42 ti3 rfl rfl rfl (nr rfl) rfl (aC (L 0 rfl rfl) aN) (.cons _ _ p0.a _ (by simp [topV]) rfl .nil) (fun _ => nd) (fun v87 V88 le89 ow90 => ?_)
         refine U.p rfl rfl (.inl rfl) (S.assign rfl (L 0 rfl rfl)) ?_
         refine U.done (nr rfl) ?_
         refine WP.ret ?_
         refine blkR (sqR ?_)
         refine fin.slot (.inr rfl) rfl (L 0 rfl rfl) ⟨V88, rfl, (((le5.trans le10).trans le52).trans le89), ?_⟩
         have ow92 := ow90.drop 1 rfl
         have e93 := Option.some.inj h86
         subst e93
         exact ⟨v87, rfl, ow92⟩
        ·have h94 := ifF c85 h84
         refine WP.usreg rfl ?_
         refine U.p rfl rfl (.inl rfl) (S.eqlI rfl (L 7 rfl rfl) K) ?_
         refine U.p rfl rfl (.inl rfl) (S.assign rfl (L 0 rfl rfl)) ?_
         refine U.done (nr rfl) ?_
         refine WP.cond _ (L 0 rfl rfl) rfl (fun c95 => ?_) (fun c95 => ?_)
         ·have h96 := ifT c95 h94
          refine WP.usreg rfl ?_
          refine O.lit (R := (RT.int .i64)) ow53 rfl rfl (.inl rfl) rfl Tryd.underlying42 ti3 rfl rfl rfl (nr rfl) rfl (aC K aN) (.cons _ _ 32 _ (by simp [topV]) rfl .nil) (fun _ => nd) (fun v97 V98 le99 ow100 => ?_)
          refine U.p rfl rfl (.inl rfl) (S.assign rfl (L 0 rfl rfl)) ?_
          refine U.done (nr rfl) ?_
          refine WP.ret ?_
          refine blkR (sqR ?_)
          refine fin.slot (.inr rfl) rfl (L 0 rfl rfl) ⟨V98, rfl, (((le5.trans le10).trans le52).trans le99), ?_⟩
          have ow102 := ow100.drop 1 rfl
          have e103 := Option.some.inj h96
          subst e103
          exact ⟨v97, rfl, ow102⟩
         ·have h104 := ifF c95 h94
          refine WP.seqI (fun l V' => ∃ (x105 : Bool), l = [(1, .pointer (some ⟨b3, 0, none⟩)), (4, .int .i64 p0.op), (62, .bool x105)] ∧ V51.le V' ∧ Ow V' (.pt b3 (.cells 0 [.int .i64 p0.op, .int .i64 p0.d, .int .i64 p0.a, .int .i64 p0.b, .int .i64 p0.imm]) :: Rs) ∧ isa_Reads_k3 p0 x105 = some r) ?_ ?_
          ·rintro _ V106 ⟨x105, rfl, le107, ow108, h109⟩
           unfold isa_Reads_k3 at h109
           refine WP.cond _ (L 2 rfl rfl) rfl (fun c110 => ?_) (fun c110 => ?_)
           ·have h111 := ifT c110 h109
            refine WP.usreg rfl ?_
            refine O.lit (R := (RT.int .i64)) ow108 rfl rfl (.inl rfl) rfl Tryd.underlying42 ti3 rfl rfl rfl (nr rfl) rfl (aC K aN) (.cons _ _ 33 _ (by simp [topV]) rfl .nil) (fun _ => nd) (fun v112 V113 le114 ow115 => ?_)
            refine U.p rfl rfl (.inl rfl) (S.assign rfl (L 0 rfl rfl)) ?_
            refine U.done (nr rfl) ?_
            refine WP.ret ?_
            refine blkR (sqR ?_)
            refine fin.slot (.inr rfl) rfl (L 0 rfl rfl) ⟨V113, rfl, ((((le5.trans le10).trans le52).trans le107).trans le114), ?_⟩
            have ow117 := ow115.drop 1 rfl
            have e118 := Option.some.inj h111
            subst e118
            exact ⟨v112, rfl, ow117⟩
           ·have h119 := ifF c110 h109
            refine WP.seqI (fun l V' => ∃ (x120 : Bool), l = [(1, .pointer (some ⟨b3, 0, none⟩)), (66, .bool x120)] ∧ V106.le V' ∧ Ow V' (.pt b3 (.cells 0 [.int .i64 p0.op, .int .i64 p0.d, .int .i64 p0.a, .int .i64 p0.b, .int .i64 p0.imm]) :: Rs) ∧ isa_Reads_k4 p0 x120 = some r) ?_ ?_
            ·rintro _ V121 ⟨x120, rfl, le122, ow123, h124⟩
             unfold isa_Reads_k4 at h124
             refine WP.cond _ (L 1 rfl rfl) rfl (fun c125 => ?_) (fun c125 => ?_)
             ·have h126 := ifT c125 h124
              refine WP.usreg rfl ?_
              refine U.p (v := .pointer (some ⟨b3, 1, none⟩)) rfl rfl (.inl rfl) (S.fieldAddr rfl (L 0 rfl rfl) Tryd.underlying25 rfl ti3 rfl rfl) ?_
              refine U.k rfl rfl (.inl rfl) (S.load rfl (L 0 rfl rfl) Tryd.underlying3 rfl ((ow123.own (k := 0) rfl).cell rfl)) nd ?_
              refine O.lit (R := (RT.int .i64)) ow123 rfl rfl (.inl rfl) rfl Tryd.underlying42 ti3 rfl rfl rfl (nr rfl) rfl (aC (L 0 rfl rfl) aN) (.cons _ _ p0.d _ (by simp [topV]) rfl .nil) (fun _ => nd) (fun v127 V128 le129 ow130 => ?_)
              refine U.p rfl rfl (.inl rfl) (S.assign rfl (L 0 rfl rfl)) ?_
              refine U.done (nr rfl) ?_
              refine WP.ret ?_
              refine blkR (sqR ?_)
              refine fin.slot (.inr rfl) rfl (L 0 rfl rfl) ⟨V128, rfl, (((((le5.trans le10).trans le52).trans le107).trans le122).trans le129), ?_⟩
              have ow132 := ow130.drop 1 rfl
              have e133 := Option.some.inj h126
              subst e133
              exact ⟨v127, rfl, ow132⟩
             ·have h134 := ifF c125 h124
              refine WP.skip ?_
              refine blkN (sqN ?_)
              refine WP.usreg rfl ?_
              refine U.p rfl rfl (.inl rfl) (S.assign rfl K) ?_
              refine U.done (nr rfl) ?_
              refine WP.ret ?_
              have ow135 := ow123.nil (RT.int .i64)
              refine fin.slot (.inr rfl) rfl (L 0 rfl rfl) ⟨V121, rfl, ((((le5.trans le10).trans le52).trans le107).trans le122), ?_⟩
              have ow137 := ow135.drop 1 rfl
              have e138 := Option.some.inj h134
              subst e138
              exact ⟨(.slice none 0 0), rfl, ow137⟩
            ·skip
             refine WP.usreg rfl ?_
             refine U.p rfl rfl (.inl rfl) (S.eqlI rfl (L 1 rfl rfl) K) ?_
             refine U.p rfl rfl (.inl rfl) (S.assign rfl (L 0 rfl rfl)) ?_
             refine U.done (nr rfl) ?_
             refine WP.cond _ (L 0 rfl rfl) rfl (fun c139 => ?_) (fun c139 => ?_)
             ·have h140 := ifT c139 h119
              refine WP.skip ?_
              refine sqN ?_
              exact ⟨_, V106, rfl, ⟨true, rfl, (.refl _), ow108, h140⟩, (allCons (L 2 rfl rfl) (allCons ((L 0 rfl rfl).trans (congrArg Value.bool c139)) allNil))⟩
             ·have h141 := ifF c139 h119
              refine WP.ureg rfl ?_
              refine U.p rfl rfl (.inl rfl) (S.eqlI rfl (L 3 rfl rfl) K) ?_
              refine U.p rfl rfl (.inl rfl) (S.assign rfl (L 0 rfl rfl)) ?_
              refine U.done (nr rfl) ?_
              refine sqN ?_
              exact ⟨_, V106, rfl, ⟨decide (p0.op = 22), rfl, (.refl _), ow108, h141⟩, (allCons (L 4 rfl rfl) (allCons (L 0 rfl rfl) allNil))⟩
          ·skip
           refine WP.usreg rfl ?_
           refine U.p rfl rfl (.inl rfl) (S.eqlI rfl (L 9 rfl rfl) K) ?_
           refine U.p rfl rfl (.inl rfl) (S.assign rfl (L 0 rfl rfl)) ?_
           refine U.done (nr rfl) ?_
           refine WP.cond _ (L 0 rfl rfl) rfl (fun c142 => ?_) (fun c142 => ?_)
           ·have h143 := ifT c142 h104
            refine WP.skip ?_
            refine sqN ?_
            exact ⟨_, V51, rfl, ⟨true, rfl, (.refl _), ow53, h143⟩, (allCons (L 10 rfl rfl) (allCons (L 11 rfl rfl) (allCons ((L 0 rfl rfl).trans (congrArg Value.bool c142)) allNil)))⟩
           ·have h144 := ifF c142 h104
            refine WP.ureg rfl ?_
            refine U.p rfl rfl (.inl rfl) (S.eqlI rfl (L 11 rfl rfl) K) ?_
            refine U.p rfl rfl (.inl rfl) (S.assign rfl (L 0 rfl rfl)) ?_
            refine U.done (nr rfl) ?_
            refine sqN ?_
            exact ⟨_, V51, rfl, ⟨decide (p0.op = 14), rfl, (.refl _), ow53, h144⟩, (allCons (L 12 rfl rfl) (allCons (L 13 rfl rfl) (allCons (L 0 rfl rfl) allNil)))⟩
    ·skip
     refine WP.usreg rfl ?_
     refine U.p rfl rfl (.inl rfl) (S.eqlI rfl (L 3 rfl rfl) K) ?_
     refine U.p rfl rfl (.inl rfl) (S.assign rfl (L 0 rfl rfl)) ?_
     refine U.done (nr rfl) ?_
     refine WP.cond _ (L 0 rfl rfl) rfl (fun c145 => ?_) (fun c145 => ?_)
     ·have h146 := ifT c145 h49
      refine WP.skip ?_
      refine sqN ?_
      exact ⟨_, V9, rfl, ⟨true, rfl, (.refl _), ow11, h146⟩, (allCons (L 4 rfl rfl) (allCons (L 5 rfl rfl) (allCons ((L 0 rfl rfl).trans (congrArg Value.bool c145)) allNil)))⟩
     ·have h147 := ifF c145 h49
      refine WP.usreg rfl ?_
      refine U.p rfl rfl (.inl rfl) (S.eqlI rfl (L 5 rfl rfl) K) ?_
      refine U.p rfl rfl (.inl rfl) (S.assign rfl (L 0 rfl rfl)) ?_
      refine U.done (nr rfl) ?_
      refine WP.cond _ (L 0 rfl rfl) rfl (fun c148 => ?_) (fun c148 => ?_)
      ·have h149 := ifT c148 h147
       refine WP.skip ?_
       refine sqN ?_
       exact ⟨_, V9, rfl, ⟨true, rfl, (.refl _), ow11, h149⟩, (allCons (L 6 rfl rfl) (allCons (L 7 rfl rfl) (allCons ((L 0 rfl rfl).trans (congrArg Value.bool c148)) allNil)))⟩
      ·have h150 := ifF c148 h147
       refine WP.usreg rfl ?_
       refine U.p rfl rfl (.inl rfl) (S.eqlI rfl (L 7 rfl rfl) K) ?_
       refine U.p rfl rfl (.inl rfl) (S.assign rfl (L 0 rfl rfl)) ?_
       refine U.done (nr rfl) ?_
       refine WP.cond _ (L 0 rfl rfl) rfl (fun c151 => ?_) (fun c151 => ?_)
       ·have h152 := ifT c151 h150
        refine WP.skip ?_
        refine sqN ?_
        exact ⟨_, V9, rfl, ⟨true, rfl, (.refl _), ow11, h152⟩, (allCons (L 8 rfl rfl) (allCons (L 9 rfl rfl) (allCons ((L 0 rfl rfl).trans (congrArg Value.bool c151)) allNil)))⟩
       ·have h153 := ifF c151 h150
        refine WP.usreg rfl ?_
        refine U.p rfl rfl (.inl rfl) (S.eqlI rfl (L 9 rfl rfl) K) ?_
        refine U.p rfl rfl (.inl rfl) (S.assign rfl (L 0 rfl rfl)) ?_
        refine U.done (nr rfl) ?_
        refine WP.cond _ (L 0 rfl rfl) rfl (fun c154 => ?_) (fun c154 => ?_)
        ·have h155 := ifT c154 h153
         refine WP.skip ?_
         refine sqN ?_
         exact ⟨_, V9, rfl, ⟨true, rfl, (.refl _), ow11, h155⟩, (allCons (L 10 rfl rfl) (allCons (L 11 rfl rfl) (allCons ((L 0 rfl rfl).trans (congrArg Value.bool c154)) allNil)))⟩
        ·have h156 := ifF c154 h153
         refine WP.ureg rfl ?_
         refine U.p rfl rfl (.inl rfl) (S.eqlI rfl (L 11 rfl rfl) K) ?_
         refine U.p rfl rfl (.inl rfl) (S.assign rfl (L 0 rfl rfl)) ?_
         refine U.done (nr rfl) ?_
         refine sqN ?_
         exact ⟨_, V9, rfl, ⟨decide (p0.op = 8), rfl, (.refl _), ow11, h156⟩, (allCons (L 12 rfl rfl) (allCons (L 13 rfl rfl) (allCons (L 0 rfl rfl) allNil)))⟩
 ·skip
  refine WP.usreg rfl ?_
  refine U.p rfl rfl (.inl rfl) (S.eqlI rfl (L 0 rfl rfl) K) ?_
  refine U.p rfl rfl (.inl rfl) (S.assign rfl (L 0 rfl rfl)) ?_
  refine U.done (nr rfl) ?_
  refine WP.cond _ (L 0 rfl rfl) rfl (fun c157 => ?_) (fun c157 => ?_)
  ·have h158 := ifT c157 h
   refine WP.skip ?_
   refine sqN ?_
   exact ⟨_, V4, rfl, ⟨true, rfl, (.refl _), ow6, h158⟩, (allCons (L 5 rfl rfl) (allCons (L 2 rfl rfl) (allCons ((L 0 rfl rfl).trans (congrArg Value.bool c157)) allNil)))⟩
  ·have h159 := ifF c157 h
   refine WP.ureg rfl ?_
   refine U.p rfl rfl (.inl rfl) (S.eqlI rfl (L 2 rfl rfl) K) ?_
   refine U.p rfl rfl (.inl rfl) (S.assign rfl (L 0 rfl rfl)) ?_
   refine U.done (nr rfl) ?_
   refine sqN ?_
   exact ⟨_, V4, rfl, ⟨decide (p0.op = 3), rfl, (.refl _), ow6, h159⟩, (allCons (L 7 rfl rfl) (allCons (L 4 rfl rfl) (allCons (L 0 rfl rfl) allNil)))⟩
set_option maxHeartbeats 4000000 in
set_option maxRecDepth 10000 in
theorem wk_ref02_Reads (V : Vw) (Rs : List At) (gl : Glb V) (p0 : TInst) (ow : Ow V (Rs)) (r : List Int) (h : ref02_Reads p0 = some r) : ∃ v V', Cl Tryd.prog NG 18 #[.agg #[.int .i64 p0.op, .int .i64 p0.d, .int .i64 p0.a, .int .i64 p0.b, .int .i64 p0.imm]] V.H v V'.H ∧ V.le V' ∧ (∃ (v1 : Value), v = v1 ∧ Ow V' (.os (RT.int .i64) v1 r :: Rs)) := by
 refine Ct.of gl.lo Tryd.func18 rfl (nr rfl) ?_
 unfold ref02_Reads at h
 refine WP.usreg rfl ?_
 refine O.box ow rfl rfl (.inl rfl) rfl (L 0 rfl rfl) (by simp [topV]) rfl nd (fun b3 V4 le5 ow6 => ?_)
 refine U.p rfl rfl (.inl rfl) (S.assign rfl K) ?_
 refine U.done (nr rfl) ?_
 refine WP.seqI (fun l V' => l = [] ∧ V4.le V' ∧ Ow V' (Rs) ∧ ref02_Reads_k1  = some r) ?_ ?_
 ·rintro _ V8 ⟨rfl, le9, ow10, h11⟩
  unfold ref02_Reads_k1 at h11
  refine WP.usreg rfl ?_
  refine U.p rfl rfl (.inl rfl) (S.assign rfl K) ?_
  refine U.done (nr rfl) ?_
  refine WP.ret ?_
  have ow12 := ow10.nil (RT.int .i64)
  refine fin.slot (.inr rfl) rfl (L 0 rfl rfl) ⟨V8, rfl, (le5.trans le9), ?_⟩
  have e14 := Option.some.inj h11
  subst e14
  exact ⟨(.slice none 0 0), rfl, ow12⟩
 ·skip
  refine WP.usreg rfl ?_
  refine U.p (v := .pointer (some ⟨b3, 0, none⟩)) rfl rfl (.inl rfl) (S.fieldAddr rfl (L 1 rfl rfl) Tryd.underlying25 rfl ti3 rfl rfl) ?_
  refine U.k rfl rfl (.inl rfl) (S.load rfl (L 0 rfl rfl) Tryd.underlying3 rfl ((ow6.own (k := 0) rfl).cell rfl)) nd ?_
  refine U.done (nr rfl) ?_
  refine WP.blk ?_
  refine WP.seqI (fun l V' => ∃ (x15 : Bool), l = [(1, .pointer (some ⟨b3, 0, none⟩)), (4, .int .i64 p0.op), (5, .bool x15)] ∧ V4.le V' ∧ Ow V' (.pt b3 (.cells 0 [.int .i64 p0.op, .int .i64 p0.d, .int .i64 p0.a, .int .i64 p0.b, .int .i64 p0.imm]) :: Rs) ∧ ref02_Reads_k2 p0 x15 = some r) ?_ ?_
  ·rintro _ V16 ⟨x15, rfl, le17, ow18, h19⟩
   unfold ref02_Reads_k2 at h19
   refine WP.cond _ (L 2 rfl rfl) rfl (fun c20 => ?_) (fun c20 => ?_)
   ·have h21 := ifT c20 h19
    refine WP.usreg rfl ?_
    refine U.p (v := .pointer (some ⟨b3, 2, none⟩)) rfl rfl (.inl rfl) (S.fieldAddr rfl (L 0 rfl rfl) Tryd.underlying25 rfl ti3 rfl rfl) ?_
    refine U.k rfl rfl (.inl rfl) (S.load rfl (L 0 rfl rfl) Tryd.underlying3 rfl ((ow18.own (k := 0) rfl).cell rfl)) nd ?_
    refine U.p rfl rfl (.inl rfl) (S.neqI rfl (L 0 rfl rfl) K) ?_
    refine U.done (nr rfl) ?_
    refine WP.cond _ (L 0 rfl rfl) rfl (fun c22 => ?_) (fun c22 => ?_)
    ·have h23 := ifT c22 h21
     refine WP.usreg rfl ?_
     refine U.p (v := .pointer (some ⟨b3, 2, none⟩)) rfl rfl (.inl rfl) (S.fieldAddr rfl (L 3 rfl rfl) Tryd.underlying25 rfl ti3 rfl rfl) ?_
     refine U.k rfl rfl (.inl rfl) (S.load rfl (L 0 rfl rfl) Tryd.underlying3 rfl ((ow18.own (k := 0) rfl).cell rfl)) nd ?_
     refine O.lit (R := (RT.int .i64)) ow18 rfl rfl (.inl rfl) rfl Tryd.underlying42 ti3 rfl rfl rfl (nr rfl) rfl (aC (L 0 rfl rfl) aN) (.cons _ _ p0.a _ (by simp [topV]) rfl .nil) (fun _ => nd) (fun v24 V25 le26 ow27 => ?_)
     refine U.p rfl rfl (.inl rfl) (S.assign rfl (L 0 rfl rfl)) ?_
     refine U.done (nr rfl) ?_
     refine WP.ret ?_
     refine blkR (sqR ?_)
     refine fin.slot (.inr rfl) rfl (L 0 rfl rfl) ⟨V25, rfl, ((le5.trans le17).trans le26), ?_⟩
     have ow29 := ow27.drop 1 rfl
     have e30 := Option.some.inj h23
     subst e30
     exact ⟨v24, rfl, ow29⟩
    ·have h31 := ifF c22 h21
     refine WP.skip ?_
     refine blkN (sqN ?_)
     have ow32 := ow18.drop 0 rfl
     exact ⟨_, V16, rfl, ⟨rfl, le17, ow32, h31⟩, allNil⟩
   ·have h33 := ifF c20 h19
    refine WP.usreg rfl ?_
    refine U.p rfl rfl (.inl rfl) (S.eqlI rfl (L 1 rfl rfl) K) ?_
    refine U.p rfl rfl (.inl rfl) (S.assign rfl (L 0 rfl rfl)) ?_
    refine U.done (nr rfl) ?_
    refine WP.cond _ (L 0 rfl rfl) rfl (fun c34 => ?_) (fun c34 => ?_)
    ·have h35 := ifT c34 h33
     refine WP.seq ?_
     refine WP.usreg rfl ?_
     refine U.p (v := .pointer (some ⟨b3, 2, none⟩)) rfl rfl (.inl rfl) (S.fieldAddr rfl (L 2 rfl rfl) Tryd.underlying25 rfl ti3 rfl rfl) ?_
     refine U.k rfl rfl (.inl rfl) (S.load rfl (L 0 rfl rfl) Tryd.underlying3 rfl ((ow18.own (k := 0) rfl).cell rfl)) nd ?_
     refine U.p rfl rfl (.inl rfl) (S.neqI rfl (L 0 rfl rfl) K) ?_
     refine U.done (nr rfl) ?_
     refine WP.cond _ (L 0 rfl rfl) rfl (fun c36 => ?_) (fun c36 => ?_)
     ·have h37 := ifT c36 h35
      refine WP.usreg rfl ?_
      refine U.p (v := .pointer (some ⟨b3, 1, none⟩)) rfl rfl (.inl rfl) (S.fieldAddr rfl (L 5 rfl rfl) Tryd.underlying25 rfl ti3 rfl rfl) ?_
      refine U.k rfl rfl (.inl rfl) (S.load rfl (L 0 rfl rfl) Tryd.underlying3 rfl ((ow18.own (k := 0) rfl).cell rfl)) nd ?_
      refine U.p (v := .pointer (some ⟨b3, 2, none⟩)) rfl rfl (.inl rfl) (S.fieldAddr rfl (L 7 rfl rfl) Tryd.underlying25 rfl ti3 rfl rfl) ?_
      refine U.k rfl rfl (.inl rfl) (S.load rfl (L 0 rfl rfl) Tryd.underlying3 rfl ((ow18.own (k := 0) rfl).cell rfl)) nd ?_
      refine O.lit (R := (RT.int .i64)) ow18 rfl rfl (.inl rfl) rfl Tryd.underlying42 ti3 rfl rfl rfl (nr rfl) rfl (aC (L 2 rfl rfl) (aC (L 0 rfl rfl) aN)) (.cons _ _ p0.d _ (by simp [topV]) rfl (.cons _ _ p0.a _ (by simp [topV]) rfl .nil)) (fun _ => nd) (fun v38 V39 le40 ow41 => ?_)
      refine U.p rfl rfl (.inl rfl) (S.assign rfl (L 0 rfl rfl)) ?_
      refine U.done (nr rfl) ?_
      refine WP.ret ?_
      refine sqR (blkR (sqR ?_))
      refine fin.slot (.inr rfl) rfl (L 0 rfl rfl) ⟨V39, rfl, ((le5.trans le17).trans le40), ?_⟩
      have ow43 := ow41.drop 1 rfl
      have e44 := Option.some.inj h37
      subst e44
      exact ⟨v38, rfl, ow43⟩
     ·have h45 := ifF c36 h35
      refine WP.skip ?_
      refine sqN ?_
      refine WP.usreg rfl ?_
      refine U.p (v := .pointer (some ⟨b3, 1, none⟩)) rfl rfl (.inl rfl) (S.fieldAddr rfl (L 5 rfl rfl) Tryd.underlying25 rfl ti3 rfl rfl) ?_
      refine U.k rfl rfl (.inl rfl) (S.load rfl (L 0 rfl rfl) Tryd.underlying3 rfl ((ow18.own (k := 0) rfl).cell rfl)) nd ?_
      refine O.lit (R := (RT.int .i64)) ow18 rfl rfl (.inl rfl) rfl Tryd.underlying42 ti3 rfl rfl rfl (nr rfl) rfl (aC (L 0 rfl rfl) aN) (.cons _ _ p0.d _ (by simp [topV]) rfl .nil) (fun _ => nd) (fun v46 V47 le48 ow49 => ?_)
      refine U.p rfl rfl (.inl rfl) (S.assign rfl (L 0 rfl rfl)) ?_
      refine U.done (nr rfl) ?_
      refine WP.ret ?_
      refine blkR (sqR ?_)
      refine fin.slot (.inr rfl) rfl (L 0 rfl rfl) ⟨V47, rfl, ((le5.trans le17).trans le48), ?_⟩
      have ow51 := ow49.drop 1 rfl
      have e52 := Option.some.inj h45
      subst e52
      exact ⟨v46, rfl, ow51⟩
    ·have h53 := ifF c34 h33
     refine WP.seqI (fun l V' => ∃ (x54 : Bool), l = [(1, .pointer (some ⟨b3, 0, none⟩)), (4, .int .i64 p0.op), (27, .bool x54)] ∧ V16.le V' ∧ Ow V' (.pt b3 (.cells 0 [.int .i64 p0.op, .int .i64 p0.d, .int .i64 p0.a, .int .i64 p0.b, .int .i64 p0.imm]) :: Rs) ∧ ref02_Reads_k3 p0 x54 = some r) ?_ ?_
     ·rintro _ V55 ⟨x54, rfl, le56, ow57, h58⟩
      unfold ref02_Reads_k3 at h58
      refine WP.cond _ (L 2 rfl rfl) rfl (fun c59 => ?_) (fun c59 => ?_)
      ·have h60 := ifT c59 h58
       refine WP.usreg rfl ?_
       refine U.p (v := .pointer (some ⟨b3, 2, none⟩)) rfl rfl (.inl rfl) (S.fieldAddr rfl (L 0 rfl rfl) Tryd.underlying25 rfl ti3 rfl rfl) ?_
       refine U.k rfl rfl (.inl rfl) (S.load rfl (L 0 rfl rfl) Tryd.underlying3 rfl ((ow57.own (k := 0) rfl).cell rfl)) nd ?_
       refine U.p (v := .pointer (some ⟨b3, 3, none⟩)) rfl rfl (.inl rfl) (S.fieldAddr rfl (L 2 rfl rfl) Tryd.underlying25 rfl ti3 rfl rfl) ?_
       refine U.k rfl rfl (.inl rfl) (S.load rfl (L 0 rfl rfl) Tryd.underlying3 rfl ((ow57.own (k := 0) rfl).cell rfl)) nd ?_
       refine O.lit (R := (RT.int .i64)) ow57 rfl rfl (.inl rfl) rfl Tryd.underlying42 ti3 rfl rfl rfl (nr rfl) rfl (aC (L 2 rfl rfl) (aC (L 0 rfl rfl) aN)) (.cons _ _ p0.a _ (by simp [topV]) rfl (.cons _ _ p0.b _ (by simp [topV]) rfl .nil)) (fun _ => nd) (fun v61 V62 le63 ow64 => ?_)
       refine U.p rfl rfl (.inl rfl) (S.assign rfl (L 0 rfl rfl)) ?_
       refine U.done (nr rfl) ?_
       refine WP.ret ?_
       refine blkR (sqR ?_)
       refine fin.slot (.inr rfl) rfl (L 0 rfl rfl) ⟨V62, rfl, (((le5.trans le17).trans le56).trans le63), ?_⟩
       have ow66 := ow64.drop 1 rfl
       have e67 := Option.some.inj h60
       subst e67
       exact ⟨v61, rfl, ow66⟩
      ·have h68 := ifF c59 h58
       refine WP.usreg rfl ?_
       refine U.p rfl rfl (.inl rfl) (S.eqlI rfl (L 1 rfl rfl) K) ?_
       refine U.p rfl rfl (.inl rfl) (S.assign rfl (L 0 rfl rfl)) ?_
       refine U.done (nr rfl) ?_
       refine WP.cond _ (L 0 rfl rfl) rfl (fun c69 => ?_) (fun c69 => ?_)
       ·have h70 := ifT c69 h68
        refine WP.usreg rfl ?_
        refine U.p (v := .pointer (some ⟨b3, 1, none⟩)) rfl rfl (.inl rfl) (S.fieldAddr rfl (L 2 rfl rfl) Tryd.underlying25 rfl ti3 rfl rfl) ?_
        refine U.k rfl rfl (.inl rfl) (S.load rfl (L 0 rfl rfl) Tryd.underlying3 rfl ((ow57.own (k := 0) rfl).cell rfl)) nd ?_
        refine U.p (v := .pointer (some ⟨b3, 2, none⟩)) rfl rfl (.inl rfl) (S.fieldAddr rfl (L 4 rfl rfl) Tryd.underlying25 rfl ti3 rfl rfl) ?_
        refine U.k rfl rfl (.inl rfl) (S.load rfl (L 0 rfl rfl) Tryd.underlying3 rfl ((ow57.own (k := 0) rfl).cell rfl)) nd ?_
        refine U.p (v := .pointer (some ⟨b3, 3, none⟩)) rfl rfl (.inl rfl) (S.fieldAddr rfl (L 6 rfl rfl) Tryd.underlying25 rfl ti3 rfl rfl) ?_
        refine U.k rfl rfl (.inl rfl) (S.load rfl (L 0 rfl rfl) Tryd.underlying3 rfl ((ow57.own (k := 0) rfl).cell rfl)) nd ?_
        refine O.lit (R := (RT.int .i64)) ow57 rfl rfl (.inl rfl) rfl Tryd.underlying42 ti3 rfl rfl rfl (nr rfl) rfl (aC (L 4 rfl rfl) (aC (L 2 rfl rfl) (aC (L 0 rfl rfl) aN))) (.cons _ _ p0.d _ (by simp [topV]) rfl (.cons _ _ p0.a _ (by simp [topV]) rfl (.cons _ _ p0.b _ (by simp [topV]) rfl .nil))) (fun _ => nd) (fun v71 V72 le73 ow74 => ?_)
        refine U.p rfl rfl (.inl rfl) (S.assign rfl (L 0 rfl rfl)) ?_
        refine U.done (nr rfl) ?_
        refine WP.ret ?_
        refine blkR (sqR ?_)
        refine fin.slot (.inr rfl) rfl (L 0 rfl rfl) ⟨V72, rfl, (((le5.trans le17).trans le56).trans le73), ?_⟩
        have ow76 := ow74.drop 1 rfl
        have e77 := Option.some.inj h70
        subst e77
        exact ⟨v71, rfl, ow76⟩
       ·have h78 := ifF c69 h68
        refine WP.usreg rfl ?_
        refine U.p rfl rfl (.inl rfl) (S.eqlI rfl (L 3 rfl rfl) K) ?_
        refine U.p rfl rfl (.inl rfl) (S.assign rfl (L 0 rfl rfl)) ?_
        refine U.done (nr rfl) ?_
        refine WP.cond _ (L 0 rfl rfl) rfl (fun c79 => ?_) (fun c79 => ?_)
        ·have h80 := ifT c79 h78
         refine WP.usreg rfl ?_
         refine U.p (v := .pointer (some ⟨b3, 2, none⟩)) rfl rfl (.inl rfl) (S.fieldAddr rfl (L 4 rfl rfl) Tryd.underlying25 rfl ti3 rfl rfl) ?_
         refine U.k rfl rfl (.inl rfl) (S.load rfl (L 0 rfl rfl) Tryd.underlying3 rfl ((ow57.own (k := 0) rfl).cell rfl)) nd ?_
         refine O.lit (R := (RT.int .i64)) ow57 rfl rfl (.inl rfl) rfl Tryd.underlying42 ti3 rfl rfl rfl (nr rfl) rfl (aC (L 0 rfl rfl) aN) (.cons _ _ p0.a _ (by simp [topV]) rfl .nil) (fun _ => nd) (fun v81 V82 le83 ow84 => ?_)
         refine U.p rfl rfl (.inl rfl) (S.assign rfl (L 0 rfl rfl)) ?_
         refine U.done (nr rfl) ?_
         refine WP.ret ?_
         refine blkR (sqR ?_)
         refine fin.slot (.inr rfl) rfl (L 0 rfl rfl) ⟨V82, rfl, (((le5.trans le17).trans le56).trans le83), ?_⟩
         have ow86 := ow84.drop 1 rfl
         have e87 := Option.some.inj h80
         subst e87
         exact ⟨v81, rfl, ow86⟩
        ·have h88 := ifF c79 h78
         refine WP.usreg rfl ?_
         refine U.p rfl rfl (.inl rfl) (S.eqlI rfl (L 5 rfl rfl) K) ?_
         refine U.p rfl rfl (.inl rfl) (S.assign rfl (L 0 rfl rfl)) ?_
         refine U.done (nr rfl) ?_
         refine WP.cond _ (L 0 rfl rfl) rfl (fun c89 => ?_) (fun c89 => ?_)
         ·have h90 := ifT c89 h88
          refine WP.usreg rfl ?_
          refine O.lit (R := (RT.int .i64)) ow57 rfl rfl (.inl rfl) rfl Tryd.underlying42 ti3 rfl rfl rfl (nr rfl) rfl (aC K aN) (.cons _ _ 32 _ (by simp [topV]) rfl .nil) (fun _ => nd) (fun v91 V92 le93 ow94 => ?_)
          refine U.p rfl rfl (.inl rfl) (S.assign rfl (L 0 rfl rfl)) ?_
          refine U.done (nr rfl) ?_
          refine WP.ret ?_
          refine blkR (sqR ?_)
          refine fin.slot (.inr rfl) rfl (L 0 rfl rfl) ⟨V92, rfl, (((le5.trans le17).trans le56).trans le93), ?_⟩
          have ow96 := ow94.drop 1 rfl
          have e97 := Option.some.inj h90
          subst e97
          exact ⟨v91, rfl, ow96⟩
         ·have h98 := ifF c89 h88
          refine WP.seqI (fun l V' => ∃ (x99 : Bool), l = [(1, .pointer (some ⟨b3, 0, none⟩)), (4, .int .i64 p0.op), (56, .bool x99)] ∧ V55.le V' ∧ Ow V' (.pt b3 (.cells 0 [.int .i64 p0.op, .int .i64 p0.d, .int .i64 p0.a, .int .i64 p0.b, .int .i64 p0.imm]) :: Rs) ∧ ref02_Reads_k4 p0 x99 = some r) ?_ ?_
          ·rintro _ V100 ⟨x99, rfl, le101, ow102, h103⟩
           unfold ref02_Reads_k4 at h103
           refine WP.cond _ (L 2 rfl rfl) rfl (fun c104 => ?_) (fun c104 => ?_)
           ·have h105 := ifT c104 h103
            refine WP.usreg rfl ?_
            refine O.lit (R := (RT.int .i64)) ow102 rfl rfl (.inl rfl) rfl Tryd.underlying42 ti3 rfl rfl rfl (nr rfl) rfl (aC K aN) (.cons _ _ 33 _ (by simp [topV]) rfl .nil) (fun _ => nd) (fun v106 V107 le108 ow109 => ?_)
            refine U.p rfl rfl (.inl rfl) (S.assign rfl (L 0 rfl rfl)) ?_
            refine U.done (nr rfl) ?_
            refine WP.ret ?_
            refine blkR (sqR ?_)
            refine fin.slot (.inr rfl) rfl (L 0 rfl rfl) ⟨V107, rfl, ((((le5.trans le17).trans le56).trans le101).trans le108), ?_⟩
            have ow111 := ow109.drop 1 rfl
            have e112 := Option.some.inj h105
            subst e112
            exact ⟨v106, rfl, ow111⟩
           ·have h113 := ifF c104 h103
            refine WP.seqI (fun l V' => ∃ (x114 : Bool), l = [(1, .pointer (some ⟨b3, 0, none⟩)), (60, .bool x114)] ∧ V100.le V' ∧ Ow V' (.pt b3 (.cells 0 [.int .i64 p0.op, .int .i64 p0.d, .int .i64 p0.a, .int .i64 p0.b, .int .i64 p0.imm]) :: Rs) ∧ ref02_Reads_k5 p0 x114 = some r) ?_ ?_
            ·rintro _ V115 ⟨x114, rfl, le116, ow117, h118⟩
             unfold ref02_Reads_k5 at h118
             refine WP.cond _ (L 1 rfl rfl) rfl (fun c119 => ?_) (fun c119 => ?_)
             ·have h120 := ifT c119 h118
              refine WP.usreg rfl ?_
              refine U.p (v := .pointer (some ⟨b3, 1, none⟩)) rfl rfl (.inl rfl) (S.fieldAddr rfl (L 0 rfl rfl) Tryd.underlying25 rfl ti3 rfl rfl) ?_
              refine U.k rfl rfl (.inl rfl) (S.load rfl (L 0 rfl rfl) Tryd.underlying3 rfl ((ow117.own (k := 0) rfl).cell rfl)) nd ?_
              refine O.lit (R := (RT.int .i64)) ow117 rfl rfl (.inl rfl) rfl Tryd.underlying42 ti3 rfl rfl rfl (nr rfl) rfl (aC (L 0 rfl rfl) aN) (.cons _ _ p0.d _ (by simp [topV]) rfl .nil) (fun _ => nd) (fun v121 V122 le123 ow124 => ?_)
              refine U.p rfl rfl (.inl rfl) (S.assign rfl (L 0 rfl rfl)) ?_
              refine U.done (nr rfl) ?_
              refine WP.ret ?_
              refine blkR (sqR ?_)
              refine fin.slot (.inr rfl) rfl (L 0 rfl rfl) ⟨V122, rfl, (((((le5.trans le17).trans le56).trans le101).trans le116).trans le123), ?_⟩
              have ow126 := ow124.drop 1 rfl
              have e127 := Option.some.inj h120
              subst e127
              exact ⟨v121, rfl, ow126⟩
             ·have h128 := ifF c119 h118
              refine WP.skip ?_
              refine blkN (sqN ?_)
              have ow129 := ow117.drop 0 rfl
              exact ⟨_, V115, rfl, ⟨rfl, (((le17.trans le56).trans le101).trans le116), ow129, h128⟩, allNil⟩
            ·skip
             refine WP.usreg rfl ?_
             refine U.p rfl rfl (.inl rfl) (S.eqlI rfl (L 1 rfl rfl) K) ?_
             refine U.p rfl rfl (.inl rfl) (S.assign rfl (L 0 rfl rfl)) ?_
             refine U.done (nr rfl) ?_
             refine WP.cond _ (L 0 rfl rfl) rfl (fun c130 => ?_) (fun c130 => ?_)
             ·have h131 := ifT c130 h113
              refine WP.skip ?_
              refine sqN ?_
              exact ⟨_, V100, rfl, ⟨true, rfl, (.refl _), ow102, h131⟩, (allCons (L 2 rfl rfl) (allCons ((L 0 rfl rfl).trans (congrArg Value.bool c130)) allNil))⟩
             ·have h132 := ifF c130 h113
              refine WP.ureg rfl ?_
              refine U.p rfl rfl (.inl rfl) (S.eqlI rfl (L 3 rfl rfl) K) ?_
              refine U.p rfl rfl (.inl rfl) (S.assign rfl (L 0 rfl rfl)) ?_
              refine U.done (nr rfl) ?_
              refine sqN ?_
              exact ⟨_, V100, rfl, ⟨decide (p0.op = 22), rfl, (.refl _), ow102, h132⟩, (allCons (L 4 rfl rfl) (allCons (L 0 rfl rfl) allNil))⟩
          ·skip
           refine WP.usreg rfl ?_
           refine U.p rfl rfl (.inl rfl) (S.eqlI rfl (L 7 rfl rfl) K) ?_
           refine U.p rfl rfl (.inl rfl) (S.assign rfl (L 0 rfl rfl)) ?_
           refine U.done (nr rfl) ?_
           refine WP.cond _ (L 0 rfl rfl) rfl (fun c133 => ?_) (fun c133 => ?_)
           ·have h134 := ifT c133 h98
            refine WP.skip ?_
            refine sqN ?_
            exact ⟨_, V55, rfl, ⟨true, rfl, (.refl _), ow57, h134⟩, (allCons (L 8 rfl rfl) (allCons (L 9 rfl rfl) (allCons ((L 0 rfl rfl).trans (congrArg Value.bool c133)) allNil)))⟩
           ·have h135 := ifF c133 h98
            refine WP.ureg rfl ?_
            refine U.p rfl rfl (.inl rfl) (S.eqlI rfl (L 9 rfl rfl) K) ?_
            refine U.p rfl rfl (.inl rfl) (S.assign rfl (L 0 rfl rfl)) ?_
            refine U.done (nr rfl) ?_
            refine sqN ?_
            exact ⟨_, V55, rfl, ⟨decide (p0.op = 14), rfl, (.refl _), ow57, h135⟩, (allCons (L 10 rfl rfl) (allCons (L 11 rfl rfl) (allCons (L 0 rfl rfl) allNil)))⟩
     ·skip
      refine WP.usreg rfl ?_
      refine U.p rfl rfl (.inl rfl) (S.eqlI rfl (L 3 rfl rfl) K) ?_
      refine U.p rfl rfl (.inl rfl) (S.assign rfl (L 0 rfl rfl)) ?_
      refine U.done (nr rfl) ?_
      refine WP.cond _ (L 0 rfl rfl) rfl (fun c136 => ?_) (fun c136 => ?_)
      ·have h137 := ifT c136 h53
       refine WP.skip ?_
       refine sqN ?_
       exact ⟨_, V16, rfl, ⟨true, rfl, (.refl _), ow18, h137⟩, (allCons (L 4 rfl rfl) (allCons (L 5 rfl rfl) (allCons ((L 0 rfl rfl).trans (congrArg Value.bool c136)) allNil)))⟩
      ·have h138 := ifF c136 h53
       refine WP.usreg rfl ?_
       refine U.p rfl rfl (.inl rfl) (S.eqlI rfl (L 5 rfl rfl) K) ?_
       refine U.p rfl rfl (.inl rfl) (S.assign rfl (L 0 rfl rfl)) ?_
       refine U.done (nr rfl) ?_
       refine WP.cond _ (L 0 rfl rfl) rfl (fun c139 => ?_) (fun c139 => ?_)
       ·have h140 := ifT c139 h138
        refine WP.skip ?_
        refine sqN ?_
        exact ⟨_, V16, rfl, ⟨true, rfl, (.refl _), ow18, h140⟩, (allCons (L 6 rfl rfl) (allCons (L 7 rfl rfl) (allCons ((L 0 rfl rfl).trans (congrArg Value.bool c139)) allNil)))⟩
       ·have h141 := ifF c139 h138
        refine WP.usreg rfl ?_
        refine U.p rfl rfl (.inl rfl) (S.eqlI rfl (L 7 rfl rfl) K) ?_
        refine U.p rfl rfl (.inl rfl) (S.assign rfl (L 0 rfl rfl)) ?_
        refine U.done (nr rfl) ?_
        refine WP.cond _ (L 0 rfl rfl) rfl (fun c142 => ?_) (fun c142 => ?_)
        ·have h143 := ifT c142 h141
         refine WP.skip ?_
         refine sqN ?_
         exact ⟨_, V16, rfl, ⟨true, rfl, (.refl _), ow18, h143⟩, (allCons (L 8 rfl rfl) (allCons (L 9 rfl rfl) (allCons ((L 0 rfl rfl).trans (congrArg Value.bool c142)) allNil)))⟩
        ·have h144 := ifF c142 h141
         refine WP.usreg rfl ?_
         refine U.p rfl rfl (.inl rfl) (S.eqlI rfl (L 9 rfl rfl) K) ?_
         refine U.p rfl rfl (.inl rfl) (S.assign rfl (L 0 rfl rfl)) ?_
         refine U.done (nr rfl) ?_
         refine WP.cond _ (L 0 rfl rfl) rfl (fun c145 => ?_) (fun c145 => ?_)
         ·have h146 := ifT c145 h144
          refine WP.skip ?_
          refine sqN ?_
          exact ⟨_, V16, rfl, ⟨true, rfl, (.refl _), ow18, h146⟩, (allCons (L 10 rfl rfl) (allCons (L 11 rfl rfl) (allCons ((L 0 rfl rfl).trans (congrArg Value.bool c145)) allNil)))⟩
         ·have h147 := ifF c145 h144
          refine WP.usreg rfl ?_
          refine U.p rfl rfl (.inl rfl) (S.eqlI rfl (L 11 rfl rfl) K) ?_
          refine U.p rfl rfl (.inl rfl) (S.assign rfl (L 0 rfl rfl)) ?_
          refine U.done (nr rfl) ?_
          refine WP.cond _ (L 0 rfl rfl) rfl (fun c148 => ?_) (fun c148 => ?_)
          ·have h149 := ifT c148 h147
           refine WP.skip ?_
           refine sqN ?_
           exact ⟨_, V16, rfl, ⟨true, rfl, (.refl _), ow18, h149⟩, (allCons (L 12 rfl rfl) (allCons (L 13 rfl rfl) (allCons ((L 0 rfl rfl).trans (congrArg Value.bool c148)) allNil)))⟩
          ·have h150 := ifF c148 h147
           refine WP.ureg rfl ?_
           refine U.p rfl rfl (.inl rfl) (S.eqlI rfl (L 13 rfl rfl) K) ?_
           refine U.p rfl rfl (.inl rfl) (S.assign rfl (L 0 rfl rfl)) ?_
           refine U.done (nr rfl) ?_
           refine sqN ?_
           exact ⟨_, V16, rfl, ⟨decide (p0.op = 16), rfl, (.refl _), ow18, h150⟩, (allCons (L 14 rfl rfl) (allCons (L 15 rfl rfl) (allCons (L 0 rfl rfl) allNil)))⟩
  ·skip
   refine WP.usreg rfl ?_
   refine U.p rfl rfl (.inl rfl) (S.eqlI rfl (L 0 rfl rfl) K) ?_
   refine U.p rfl rfl (.inl rfl) (S.assign rfl (L 0 rfl rfl)) ?_
   refine U.done (nr rfl) ?_
   refine WP.cond _ (L 0 rfl rfl) rfl (fun c151 => ?_) (fun c151 => ?_)
   ·have h152 := ifT c151 h
    refine WP.skip ?_
    refine sqN ?_
    exact ⟨_, V4, rfl, ⟨true, rfl, (.refl _), ow6, h152⟩, (allCons (L 5 rfl rfl) (allCons (L 2 rfl rfl) (allCons ((L 0 rfl rfl).trans (congrArg Value.bool c151)) allNil)))⟩
   ·have h153 := ifF c151 h
    refine WP.ureg rfl ?_
    refine U.p rfl rfl (.inl rfl) (S.eqlI rfl (L 2 rfl rfl) K) ?_
    refine U.p rfl rfl (.inl rfl) (S.assign rfl (L 0 rfl rfl)) ?_
    refine U.done (nr rfl) ?_
    refine sqN ?_
    exact ⟨_, V4, rfl, ⟨decide (p0.op = 3), rfl, (.refl _), ow6, h153⟩, (allCons (L 7 rfl rfl) (allCons (L 4 rfl rfl) (allCons (L 0 rfl rfl) allNil)))⟩
set_option maxHeartbeats 4000000 in
set_option maxRecDepth 10000 in
theorem wk_isa_Writes (V : Vw) (Rs : List At) (gl : Glb V) (p0 : TInst) (ow : Ow V (Rs)) (r : Int) (h : isa_Writes p0 = some r) : ∃ v V', Cl Tryd.prog NG 19 #[.agg #[.int .i64 p0.op, .int .i64 p0.d, .int .i64 p0.a, .int .i64 p0.b, .int .i64 p0.imm]] V.H v V'.H ∧ V.le V' ∧ (v = .int .i64 r ∧ Ow V' (Rs)) := by
 refine Ct.of gl.lo Tryd.func19 rfl (nr rfl) ?_
 unfold isa_Writes at h
 refine WP.usreg rfl ?_
 refine O.box ow rfl rfl (.inl rfl) rfl (L 0 rfl rfl) (by simp [topV]) rfl nd (fun b1 V2 le3 ow4 => ?_)
 refine U.p rfl rfl (.inl rfl) (S.assign rfl K) ?_
 refine U.done (nr rfl) ?_
 refine WP.seq ?_
 refine WP.usreg rfl ?_
 refine U.p (v := .pointer (some ⟨b1, 0, none⟩)) rfl rfl (.inl rfl) (S.fieldAddr rfl (L 1 rfl rfl) Tryd.underlying25 rfl ti3 rfl rfl) ?_
 refine U.k rfl rfl (.inl rfl) (S.load rfl (L 0 rfl rfl) Tryd.underlying3 rfl ((ow4.own (k := 0) rfl).cell rfl)) nd ?_
 refine U.done (nr rfl) ?_
 refine WP.blk ?_
 refine WP.seqI (fun l V' => ∃ (x6 : Bool), l = [(1, .pointer (some ⟨b1, 0, none⟩)), (4, .int .i64 p0.op), (5, .bool x6)] ∧ V2.le V' ∧ Ow V' (.pt b1 (.cells 0 [.int .i64 p0.op, .int .i64 p0.d, .int .i64 p0.a, .int .i64 p0.b, .int .i64 p0.imm]) :: Rs) ∧ isa_Writes_k1 p0 x6 = some r) ?_ ?_
 ·rintro _ V7 ⟨x6, rfl, le8, ow9, h10⟩
  unfold isa_Writes_k1 at h10
  refine WP.cond _ (L 2 rfl rfl) rfl (fun c11 => ?_) (fun c11 => ?_)
  ·have h12 := ifT c11 h10
   refine WP.usreg rfl ?_
   refine U.p (v := .pointer (some ⟨b1, 1, none⟩)) rfl rfl (.inl rfl) (S.fieldAddr rfl (L 0 rfl rfl) Tryd.underlying25 rfl ti3 rfl rfl) ?_
   refine U.k rfl rfl (.inl rfl) (S.load rfl (L 0 rfl rfl) Tryd.underlying3 rfl ((ow9.own (k := 0) rfl).cell rfl)) nd ?_
   refine U.p rfl rfl (.inl rfl) (S.assign rfl (L 0 rfl rfl)) ?_
   refine U.done (nr rfl) ?_
   refine WP.ret ?_
   refine blkR (sqR ?_)
   refine fin.slot (.inr rfl) rfl (L 0 rfl rfl) ⟨V7, rfl, (le3.trans le8), ?_⟩
   have ow13 := ow9.drop 0 rfl
   have e14 := Option.some.inj h12
   subst e14
   exact ⟨rfl, ow13⟩
  ·have h15 := ifF c11 h10
   refine WP.seqI (fun l V' => ∃ (x16 : Bool), l = [(4, .int .i64 p0.op), (16, .bool x16)] ∧ V7.le V' ∧ Ow V' (Rs) ∧ isa_Writes_k2 p0 x16 = some r) ?_ ?_
   ·rintro _ V17 ⟨x16, rfl, le18, ow19, h20⟩
    unfold isa_Writes_k2 at h20
    refine WP.cond _ (L 1 rfl rfl) rfl (fun c21 => ?_) (fun c21 => ?_)
    ·have h22 := ifT c21 h20
     refine WP.usreg rfl ?_
     refine U.p rfl rfl (.inl rfl) (S.assign rfl K) ?_
     refine U.done (nr rfl) ?_
     refine WP.ret ?_
     refine blkR (sqR ?_)
     refine fin.slot (.inr rfl) rfl (L 0 rfl rfl) ⟨V17, rfl, ((le3.trans le8).trans le18), ?_⟩
     have e23 := Option.some.inj h22
     subst e23
     exact ⟨rfl, ow19⟩
    ·have h24 := ifF c21 h20
     refine WP.seqI (fun l V' => ∃ (x25 : Bool), l = [(20, .bool x25)] ∧ V17.le V' ∧ Ow V' (Rs) ∧ isa_Writes_k3 x25 = some r) ?_ ?_
     ·rintro _ V26 ⟨x25, rfl, le27, ow28, h29⟩
      unfold isa_Writes_k3 at h29
      refine WP.cond _ (L 0 rfl rfl) rfl (fun c30 => ?_) (fun c30 => ?_)
      ·have h31 := ifT c30 h29
       refine WP.usreg rfl ?_
       refine U.p rfl rfl (.inl rfl) (S.assign rfl K) ?_
       refine U.done (nr rfl) ?_
       refine WP.ret ?_
       refine blkR (sqR ?_)
       refine fin.slot (.inr rfl) rfl (L 0 rfl rfl) ⟨V26, rfl, (((le3.trans le8).trans le18).trans le27), ?_⟩
       have e32 := Option.some.inj h31
       subst e32
       exact ⟨rfl, ow28⟩
      ·have h33 := ifF c30 h29
       refine WP.skip ?_
       refine blkN (sqN ?_)
       refine WP.usreg rfl ?_
       refine U.p rfl rfl (.inl rfl) (S.assign rfl K) ?_
       refine U.done (nr rfl) ?_
       refine WP.ret ?_
       refine fin.slot (.inr rfl) rfl (L 0 rfl rfl) ⟨V26, rfl, (((le3.trans le8).trans le18).trans le27), ?_⟩
       have e34 := Option.some.inj h33
       subst e34
       exact ⟨rfl, ow28⟩
     ·skip
      refine WP.usreg rfl ?_
      refine U.p rfl rfl (.inl rfl) (S.eqlI rfl (L 0 rfl rfl) K) ?_
      refine U.p rfl rfl (.inl rfl) (S.assign rfl (L 0 rfl rfl)) ?_
      refine U.done (nr rfl) ?_
      refine WP.cond _ (L 0 rfl rfl) rfl (fun c35 => ?_) (fun c35 => ?_)
      ·have h36 := ifT c35 h24
       refine WP.skip ?_
       refine sqN ?_
       exact ⟨_, V17, rfl, ⟨true, rfl, (.refl _), ow19, h36⟩, (allCons ((L 0 rfl rfl).trans (congrArg Value.bool c35)) allNil)⟩
      ·have h37 := ifF c35 h24
       refine WP.ureg rfl ?_
       refine U.p rfl rfl (.inl rfl) (S.eqlI rfl (L 2 rfl rfl) K) ?_
       refine U.p rfl rfl (.inl rfl) (S.assign rfl (L 0 rfl rfl)) ?_
       refine U.done (nr rfl) ?_
       refine sqN ?_
       exact ⟨_, V17, rfl, ⟨decide (p0.op = 15), rfl, (.refl _), ow19, h37⟩, (allCons (L 0 rfl rfl) allNil)⟩
   ·skip
    refine WP.usreg rfl ?_
    refine U.p rfl rfl (.inl rfl) (S.eqlI rfl (L 1 rfl rfl) K) ?_
    refine U.p rfl rfl (.inl rfl) (S.assign rfl (L 0 rfl rfl)) ?_
    refine U.done (nr rfl) ?_
    refine WP.cond _ (L 0 rfl rfl) rfl (fun c38 => ?_) (fun c38 => ?_)
    ·have h39 := ifT c38 h15
     refine WP.skip ?_
     refine sqN ?_
     have ow40 := ow9.drop 0 rfl
     exact ⟨_, V7, rfl, ⟨true, rfl, (.refl _), ow40, h39⟩, (allCons (L 3 rfl rfl) (allCons ((L 0 rfl rfl).trans (congrArg Value.bool c38)) allNil))⟩
    ·have h41 := ifF c38 h15
     refine WP.usreg rfl ?_
     refine U.p rfl rfl (.inl rfl) (S.eqlI rfl (L 3 rfl rfl) K) ?_
     refine U.p rfl rfl (.inl rfl) (S.assign rfl (L 0 rfl rfl)) ?_
     refine U.done (nr rfl) ?_
     refine WP.cond _ (L 0 rfl rfl) rfl (fun c42 => ?_) (fun c42 => ?_)
     ·have h43 := ifT c42 h41
      refine WP.skip ?_
      refine sqN ?_
      have ow44 := ow9.drop 0 rfl
      exact ⟨_, V7, rfl, ⟨true, rfl, (.refl _), ow44, h43⟩, (allCons (L 5 rfl rfl) (allCons ((L 0 rfl rfl).trans (congrArg Value.bool c42)) allNil))⟩
     ·have h45 := ifF c42 h41
      refine WP.ureg rfl ?_
      refine U.p rfl rfl (.inl rfl) (S.eqlI rfl (L 5 rfl rfl) K) ?_
      refine U.p rfl rfl (.inl rfl) (S.assign rfl (L 0 rfl rfl)) ?_
      refine U.done (nr rfl) ?_
      refine sqN ?_
      have ow46 := ow9.drop 0 rfl
      exact ⟨_, V7, rfl, ⟨decide (p0.op = 17), rfl, (.refl _), ow46, h45⟩, (allCons (L 7 rfl rfl) (allCons (L 0 rfl rfl) allNil))⟩
 ·skip
  refine WP.usreg rfl ?_
  refine U.p rfl rfl (.inl rfl) (S.eqlI rfl (L 0 rfl rfl) K) ?_
  refine U.p rfl rfl (.inl rfl) (S.assign rfl (L 0 rfl rfl)) ?_
  refine U.done (nr rfl) ?_
  refine WP.cond _ (L 0 rfl rfl) rfl (fun c47 => ?_) (fun c47 => ?_)
  ·have h48 := ifT c47 h
   refine WP.skip ?_
   refine sqN ?_
   exact ⟨_, V2, rfl, ⟨true, rfl, (.refl _), ow4, h48⟩, (allCons (L 5 rfl rfl) (allCons (L 2 rfl rfl) (allCons ((L 0 rfl rfl).trans (congrArg Value.bool c47)) allNil)))⟩
  ·have h49 := ifF c47 h
   refine WP.usreg rfl ?_
   refine U.p rfl rfl (.inl rfl) (S.eqlI rfl (L 2 rfl rfl) K) ?_
   refine U.p rfl rfl (.inl rfl) (S.assign rfl (L 0 rfl rfl)) ?_
   refine U.done (nr rfl) ?_
   refine WP.cond _ (L 0 rfl rfl) rfl (fun c50 => ?_) (fun c50 => ?_)
   ·have h51 := ifT c50 h49
    refine WP.skip ?_
    refine sqN ?_
    exact ⟨_, V2, rfl, ⟨true, rfl, (.refl _), ow4, h51⟩, (allCons (L 7 rfl rfl) (allCons (L 4 rfl rfl) (allCons ((L 0 rfl rfl).trans (congrArg Value.bool c50)) allNil)))⟩
   ·have h52 := ifF c50 h49
    refine WP.usreg rfl ?_
    refine U.p rfl rfl (.inl rfl) (S.eqlI rfl (L 4 rfl rfl) K) ?_
    refine U.p rfl rfl (.inl rfl) (S.assign rfl (L 0 rfl rfl)) ?_
    refine U.done (nr rfl) ?_
    refine WP.cond _ (L 0 rfl rfl) rfl (fun c53 => ?_) (fun c53 => ?_)
    ·have h54 := ifT c53 h52
     refine WP.skip ?_
     refine sqN ?_
     exact ⟨_, V2, rfl, ⟨true, rfl, (.refl _), ow4, h54⟩, (allCons (L 9 rfl rfl) (allCons (L 6 rfl rfl) (allCons ((L 0 rfl rfl).trans (congrArg Value.bool c53)) allNil)))⟩
    ·have h55 := ifF c53 h52
     refine WP.usreg rfl ?_
     refine U.p rfl rfl (.inl rfl) (S.eqlI rfl (L 6 rfl rfl) K) ?_
     refine U.p rfl rfl (.inl rfl) (S.assign rfl (L 0 rfl rfl)) ?_
     refine U.done (nr rfl) ?_
     refine WP.cond _ (L 0 rfl rfl) rfl (fun c56 => ?_) (fun c56 => ?_)
     ·have h57 := ifT c56 h55
      refine WP.skip ?_
      refine sqN ?_
      exact ⟨_, V2, rfl, ⟨true, rfl, (.refl _), ow4, h57⟩, (allCons (L 11 rfl rfl) (allCons (L 8 rfl rfl) (allCons ((L 0 rfl rfl).trans (congrArg Value.bool c56)) allNil)))⟩
     ·have h58 := ifF c56 h55
      refine WP.usreg rfl ?_
      refine U.p rfl rfl (.inl rfl) (S.eqlI rfl (L 8 rfl rfl) K) ?_
      refine U.p rfl rfl (.inl rfl) (S.assign rfl (L 0 rfl rfl)) ?_
      refine U.done (nr rfl) ?_
      refine WP.cond _ (L 0 rfl rfl) rfl (fun c59 => ?_) (fun c59 => ?_)
      ·have h60 := ifT c59 h58
       refine WP.skip ?_
       refine sqN ?_
       exact ⟨_, V2, rfl, ⟨true, rfl, (.refl _), ow4, h60⟩, (allCons (L 13 rfl rfl) (allCons (L 10 rfl rfl) (allCons ((L 0 rfl rfl).trans (congrArg Value.bool c59)) allNil)))⟩
      ·have h61 := ifF c59 h58
       refine WP.usreg rfl ?_
       refine U.p rfl rfl (.inl rfl) (S.eqlI rfl (L 10 rfl rfl) K) ?_
       refine U.p rfl rfl (.inl rfl) (S.assign rfl (L 0 rfl rfl)) ?_
       refine U.done (nr rfl) ?_
       refine WP.cond _ (L 0 rfl rfl) rfl (fun c62 => ?_) (fun c62 => ?_)
       ·have h63 := ifT c62 h61
        refine WP.skip ?_
        refine sqN ?_
        exact ⟨_, V2, rfl, ⟨true, rfl, (.refl _), ow4, h63⟩, (allCons (L 15 rfl rfl) (allCons (L 12 rfl rfl) (allCons ((L 0 rfl rfl).trans (congrArg Value.bool c62)) allNil)))⟩
       ·have h64 := ifF c62 h61
        refine WP.usreg rfl ?_
        refine U.p rfl rfl (.inl rfl) (S.eqlI rfl (L 12 rfl rfl) K) ?_
        refine U.p rfl rfl (.inl rfl) (S.assign rfl (L 0 rfl rfl)) ?_
        refine U.done (nr rfl) ?_
        refine WP.cond _ (L 0 rfl rfl) rfl (fun c65 => ?_) (fun c65 => ?_)
        ·have h66 := ifT c65 h64
         refine WP.skip ?_
         refine sqN ?_
         exact ⟨_, V2, rfl, ⟨true, rfl, (.refl _), ow4, h66⟩, (allCons (L 17 rfl rfl) (allCons (L 14 rfl rfl) (allCons ((L 0 rfl rfl).trans (congrArg Value.bool c65)) allNil)))⟩
        ·have h67 := ifF c65 h64
         refine WP.ureg rfl ?_
         refine U.p rfl rfl (.inl rfl) (S.eqlI rfl (L 14 rfl rfl) K) ?_
         refine U.p rfl rfl (.inl rfl) (S.assign rfl (L 0 rfl rfl)) ?_
         refine U.done (nr rfl) ?_
         refine sqN ?_
         exact ⟨_, V2, rfl, ⟨decide (p0.op = 14), rfl, (.refl _), ow4, h67⟩, (allCons (L 19 rfl rfl) (allCons (L 16 rfl rfl) (allCons (L 0 rfl rfl) allNil)))⟩
set_option maxHeartbeats 4000000 in
set_option maxRecDepth 10000 in
theorem wk_ref02_Writes (V : Vw) (Rs : List At) (gl : Glb V) (p0 : TInst) (ow : Ow V (Rs)) (r : Int) (h : ref02_Writes p0 = some r) : ∃ v V', Cl Tryd.prog NG 20 #[.agg #[.int .i64 p0.op, .int .i64 p0.d, .int .i64 p0.a, .int .i64 p0.b, .int .i64 p0.imm]] V.H v V'.H ∧ V.le V' ∧ (v = .int .i64 r ∧ Ow V' (Rs)) := by
 refine Ct.of gl.lo Tryd.func20 rfl (nr rfl) ?_
 unfold ref02_Writes at h
 refine WP.usreg rfl ?_
 refine O.box ow rfl rfl (.inl rfl) rfl (L 0 rfl rfl) (by simp [topV]) rfl nd (fun b1 V2 le3 ow4 => ?_)
 refine U.p rfl rfl (.inl rfl) (S.assign rfl K) ?_
 refine U.done (nr rfl) ?_
 refine WP.seq ?_
 refine WP.usreg rfl ?_
 refine U.p (v := .pointer (some ⟨b1, 0, none⟩)) rfl rfl (.inl rfl) (S.fieldAddr rfl (L 1 rfl rfl) Tryd.underlying25 rfl ti3 rfl rfl) ?_
 refine U.k rfl rfl (.inl rfl) (S.load rfl (L 0 rfl rfl) Tryd.underlying3 rfl ((ow4.own (k := 0) rfl).cell rfl)) nd ?_
 refine U.done (nr rfl) ?_
 refine WP.blk ?_
 refine WP.seqI (fun l V' => ∃ (x6 : Bool), l = [(1, .pointer (some ⟨b1, 0, none⟩)), (4, .int .i64 p0.op), (5, .bool x6)] ∧ V2.le V' ∧ Ow V' (.pt b1 (.cells 0 [.int .i64 p0.op, .int .i64 p0.d, .int .i64 p0.a, .int .i64 p0.b, .int .i64 p0.imm]) :: Rs) ∧ ref02_Writes_k1 p0 x6 = some r) ?_ ?_
 ·rintro _ V7 ⟨x6, rfl, le8, ow9, h10⟩
  unfold ref02_Writes_k1 at h10
  refine WP.cond _ (L 2 rfl rfl) rfl (fun c11 => ?_) (fun c11 => ?_)
  ·have h12 := ifT c11 h10
   refine WP.usreg rfl ?_
   refine U.p (v := .pointer (some ⟨b1, 1, none⟩)) rfl rfl (.inl rfl) (S.fieldAddr rfl (L 0 rfl rfl) Tryd.underlying25 rfl ti3 rfl rfl) ?_
   refine U.k rfl rfl (.inl rfl) (S.load rfl (L 0 rfl rfl) Tryd.underlying3 rfl ((ow9.own (k := 0) rfl).cell rfl)) nd ?_
   refine U.p rfl rfl (.inl rfl) (S.assign rfl (L 0 rfl rfl)) ?_
   refine U.done (nr rfl) ?_
   refine WP.ret ?_
   refine blkR (sqR ?_)
   refine fin.slot (.inr rfl) rfl (L 0 rfl rfl) ⟨V7, rfl, (le3.trans le8), ?_⟩
   have ow13 := ow9.drop 0 rfl
   have e14 := Option.some.inj h12
   subst e14
   exact ⟨rfl, ow13⟩
  ·have h15 := ifF c11 h10
   refine WP.seqI (fun l V' => ∃ (x16 : Bool), l = [(4, .int .i64 p0.op), (16, .bool x16)] ∧ V7.le V' ∧ Ow V' (Rs) ∧ ref02_Writes_k2 p0 x16 = some r) ?_ ?_
   ·rintro _ V17 ⟨x16, rfl, le18, ow19, h20⟩
    unfold ref02_Writes_k2 at h20
    refine WP.cond _ (L 1 rfl rfl) rfl (fun c21 => ?_) (fun c21 => ?_)
    ·have h22 := ifT c21 h20
     refine WP.usreg rfl ?_
     refine U.p rfl rfl (.inl rfl) (S.assign rfl K) ?_
     refine U.done (nr rfl) ?_
     refine WP.ret ?_
     refine blkR (sqR ?_)
     refine fin.slot (.inr rfl) rfl (L 0 rfl rfl) ⟨V17, rfl, ((le3.trans le8).trans le18), ?_⟩
     have e23 := Option.some.inj h22
     subst e23
     exact ⟨rfl, ow19⟩
    ·have h24 := ifF c21 h20
     refine WP.seqI (fun l V' => ∃ (x25 : Bool), l = [(20, .bool x25)] ∧ V17.le V' ∧ Ow V' (Rs) ∧ ref02_Writes_k3 x25 = some r) ?_ ?_
     ·rintro _ V26 ⟨x25, rfl, le27, ow28, h29⟩
      unfold ref02_Writes_k3 at h29
      refine WP.cond _ (L 0 rfl rfl) rfl (fun c30 => ?_) (fun c30 => ?_)
      ·have h31 := ifT c30 h29
       refine WP.usreg rfl ?_
       refine U.p rfl rfl (.inl rfl) (S.assign rfl K) ?_
       refine U.done (nr rfl) ?_
       refine WP.ret ?_
       refine blkR (sqR ?_)
       refine fin.slot (.inr rfl) rfl (L 0 rfl rfl) ⟨V26, rfl, (((le3.trans le8).trans le18).trans le27), ?_⟩
       have e32 := Option.some.inj h31
       subst e32
       exact ⟨rfl, ow28⟩
      ·have h33 := ifF c30 h29
       refine WP.skip ?_
       refine blkN (sqN ?_)
       refine WP.usreg rfl ?_
       refine U.p rfl rfl (.inl rfl) (S.assign rfl K) ?_
       refine U.done (nr rfl) ?_
       refine WP.ret ?_
       refine fin.slot (.inr rfl) rfl (L 0 rfl rfl) ⟨V26, rfl, (((le3.trans le8).trans le18).trans le27), ?_⟩
       have e34 := Option.some.inj h33
       subst e34
       exact ⟨rfl, ow28⟩
     ·skip
      refine WP.usreg rfl ?_
      refine U.p rfl rfl (.inl rfl) (S.eqlI rfl (L 0 rfl rfl) K) ?_
      refine U.p rfl rfl (.inl rfl) (S.assign rfl (L 0 rfl rfl)) ?_
      refine U.done (nr rfl) ?_
      refine WP.cond _ (L 0 rfl rfl) rfl (fun c35 => ?_) (fun c35 => ?_)
      ·have h36 := ifT c35 h24
       refine WP.skip ?_
       refine sqN ?_
       exact ⟨_, V17, rfl, ⟨true, rfl, (.refl _), ow19, h36⟩, (allCons ((L 0 rfl rfl).trans (congrArg Value.bool c35)) allNil)⟩
      ·have h37 := ifF c35 h24
       refine WP.ureg rfl ?_
       refine U.p rfl rfl (.inl rfl) (S.eqlI rfl (L 2 rfl rfl) K) ?_
       refine U.p rfl rfl (.inl rfl) (S.assign rfl (L 0 rfl rfl)) ?_
       refine U.done (nr rfl) ?_
       refine sqN ?_
       exact ⟨_, V17, rfl, ⟨decide (p0.op = 15), rfl, (.refl _), ow19, h37⟩, (allCons (L 0 rfl rfl) allNil)⟩
   ·skip
    refine WP.usreg rfl ?_
    refine U.p rfl rfl (.inl rfl) (S.eqlI rfl (L 1 rfl rfl) K) ?_
    refine U.p rfl rfl (.inl rfl) (S.assign rfl (L 0 rfl rfl)) ?_
    refine U.done (nr rfl) ?_
    refine WP.cond _ (L 0 rfl rfl) rfl (fun c38 => ?_) (fun c38 => ?_)
    ·have h39 := ifT c38 h15
     refine WP.skip ?_
     refine sqN ?_
     have ow40 := ow9.drop 0 rfl
     exact ⟨_, V7, rfl, ⟨true, rfl, (.refl _), ow40, h39⟩, (allCons (L 3 rfl rfl) (allCons ((L 0 rfl rfl).trans (congrArg Value.bool c38)) allNil))⟩
    ·have h41 := ifF c38 h15
     refine WP.usreg rfl ?_
     refine U.p rfl rfl (.inl rfl) (S.eqlI rfl (L 3 rfl rfl) K) ?_
     refine U.p rfl rfl (.inl rfl) (S.assign rfl (L 0 rfl rfl)) ?_
     refine U.done (nr rfl) ?_
     refine WP.cond _ (L 0 rfl rfl) rfl (fun c42 => ?_) (fun c42 => ?_)
     ·have h43 := ifT c42 h41
      refine WP.skip ?_
      refine sqN ?_
      have ow44 := ow9.drop 0 rfl
      exact ⟨_, V7, rfl, ⟨true, rfl, (.refl _), ow44, h43⟩, (allCons (L 5 rfl rfl) (allCons ((L 0 rfl rfl).trans (congrArg Value.bool c42)) allNil))⟩
     ·have h45 := ifF c42 h41
      refine WP.ureg rfl ?_
      refine U.p rfl rfl (.inl rfl) (S.eqlI rfl (L 5 rfl rfl) K) ?_
      refine U.p rfl rfl (.inl rfl) (S.assign rfl (L 0 rfl rfl)) ?_
      refine U.done (nr rfl) ?_
      refine sqN ?_
      have ow46 := ow9.drop 0 rfl
      exact ⟨_, V7, rfl, ⟨decide (p0.op = 17), rfl, (.refl _), ow46, h45⟩, (allCons (L 7 rfl rfl) (allCons (L 0 rfl rfl) allNil))⟩
 ·skip
  refine WP.usreg rfl ?_
  refine U.p rfl rfl (.inl rfl) (S.eqlI rfl (L 0 rfl rfl) K) ?_
  refine U.p rfl rfl (.inl rfl) (S.assign rfl (L 0 rfl rfl)) ?_
  refine U.done (nr rfl) ?_
  refine WP.cond _ (L 0 rfl rfl) rfl (fun c47 => ?_) (fun c47 => ?_)
  ·have h48 := ifT c47 h
   refine WP.skip ?_
   refine sqN ?_
   exact ⟨_, V2, rfl, ⟨true, rfl, (.refl _), ow4, h48⟩, (allCons (L 5 rfl rfl) (allCons (L 2 rfl rfl) (allCons ((L 0 rfl rfl).trans (congrArg Value.bool c47)) allNil)))⟩
  ·have h49 := ifF c47 h
   refine WP.usreg rfl ?_
   refine U.p rfl rfl (.inl rfl) (S.eqlI rfl (L 2 rfl rfl) K) ?_
   refine U.p rfl rfl (.inl rfl) (S.assign rfl (L 0 rfl rfl)) ?_
   refine U.done (nr rfl) ?_
   refine WP.cond _ (L 0 rfl rfl) rfl (fun c50 => ?_) (fun c50 => ?_)
   ·have h51 := ifT c50 h49
    refine WP.skip ?_
    refine sqN ?_
    exact ⟨_, V2, rfl, ⟨true, rfl, (.refl _), ow4, h51⟩, (allCons (L 7 rfl rfl) (allCons (L 4 rfl rfl) (allCons ((L 0 rfl rfl).trans (congrArg Value.bool c50)) allNil)))⟩
   ·have h52 := ifF c50 h49
    refine WP.usreg rfl ?_
    refine U.p rfl rfl (.inl rfl) (S.eqlI rfl (L 4 rfl rfl) K) ?_
    refine U.p rfl rfl (.inl rfl) (S.assign rfl (L 0 rfl rfl)) ?_
    refine U.done (nr rfl) ?_
    refine WP.cond _ (L 0 rfl rfl) rfl (fun c53 => ?_) (fun c53 => ?_)
    ·have h54 := ifT c53 h52
     refine WP.skip ?_
     refine sqN ?_
     exact ⟨_, V2, rfl, ⟨true, rfl, (.refl _), ow4, h54⟩, (allCons (L 9 rfl rfl) (allCons (L 6 rfl rfl) (allCons ((L 0 rfl rfl).trans (congrArg Value.bool c53)) allNil)))⟩
    ·have h55 := ifF c53 h52
     refine WP.usreg rfl ?_
     refine U.p rfl rfl (.inl rfl) (S.eqlI rfl (L 6 rfl rfl) K) ?_
     refine U.p rfl rfl (.inl rfl) (S.assign rfl (L 0 rfl rfl)) ?_
     refine U.done (nr rfl) ?_
     refine WP.cond _ (L 0 rfl rfl) rfl (fun c56 => ?_) (fun c56 => ?_)
     ·have h57 := ifT c56 h55
      refine WP.skip ?_
      refine sqN ?_
      exact ⟨_, V2, rfl, ⟨true, rfl, (.refl _), ow4, h57⟩, (allCons (L 11 rfl rfl) (allCons (L 8 rfl rfl) (allCons ((L 0 rfl rfl).trans (congrArg Value.bool c56)) allNil)))⟩
     ·have h58 := ifF c56 h55
      refine WP.usreg rfl ?_
      refine U.p rfl rfl (.inl rfl) (S.eqlI rfl (L 8 rfl rfl) K) ?_
      refine U.p rfl rfl (.inl rfl) (S.assign rfl (L 0 rfl rfl)) ?_
      refine U.done (nr rfl) ?_
      refine WP.cond _ (L 0 rfl rfl) rfl (fun c59 => ?_) (fun c59 => ?_)
      ·have h60 := ifT c59 h58
       refine WP.skip ?_
       refine sqN ?_
       exact ⟨_, V2, rfl, ⟨true, rfl, (.refl _), ow4, h60⟩, (allCons (L 13 rfl rfl) (allCons (L 10 rfl rfl) (allCons ((L 0 rfl rfl).trans (congrArg Value.bool c59)) allNil)))⟩
      ·have h61 := ifF c59 h58
       refine WP.usreg rfl ?_
       refine U.p rfl rfl (.inl rfl) (S.eqlI rfl (L 10 rfl rfl) K) ?_
       refine U.p rfl rfl (.inl rfl) (S.assign rfl (L 0 rfl rfl)) ?_
       refine U.done (nr rfl) ?_
       refine WP.cond _ (L 0 rfl rfl) rfl (fun c62 => ?_) (fun c62 => ?_)
       ·have h63 := ifT c62 h61
        refine WP.skip ?_
        refine sqN ?_
        exact ⟨_, V2, rfl, ⟨true, rfl, (.refl _), ow4, h63⟩, (allCons (L 15 rfl rfl) (allCons (L 12 rfl rfl) (allCons ((L 0 rfl rfl).trans (congrArg Value.bool c62)) allNil)))⟩
       ·have h64 := ifF c62 h61
        refine WP.usreg rfl ?_
        refine U.p rfl rfl (.inl rfl) (S.eqlI rfl (L 12 rfl rfl) K) ?_
        refine U.p rfl rfl (.inl rfl) (S.assign rfl (L 0 rfl rfl)) ?_
        refine U.done (nr rfl) ?_
        refine WP.cond _ (L 0 rfl rfl) rfl (fun c65 => ?_) (fun c65 => ?_)
        ·have h66 := ifT c65 h64
         refine WP.skip ?_
         refine sqN ?_
         exact ⟨_, V2, rfl, ⟨true, rfl, (.refl _), ow4, h66⟩, (allCons (L 17 rfl rfl) (allCons (L 14 rfl rfl) (allCons ((L 0 rfl rfl).trans (congrArg Value.bool c65)) allNil)))⟩
        ·have h67 := ifF c65 h64
         refine WP.ureg rfl ?_
         refine U.p rfl rfl (.inl rfl) (S.eqlI rfl (L 14 rfl rfl) K) ?_
         refine U.p rfl rfl (.inl rfl) (S.assign rfl (L 0 rfl rfl)) ?_
         refine U.done (nr rfl) ?_
         refine sqN ?_
         exact ⟨_, V2, rfl, ⟨decide (p0.op = 16), rfl, (.refl _), ow4, h67⟩, (allCons (L 19 rfl rfl) (allCons (L 16 rfl rfl) (allCons (L 0 rfl rfl) allNil)))⟩
set_option maxHeartbeats 4000000 in
set_option maxRecDepth 10000 in
theorem wk_law02_IsaUses (V : Vw) (Rs : List At) (gl : Glb V) (p0 : TInst) (ow : Ow V (Rs)) (r : Bool) (h : law02_IsaUses p0 = some r) : ∃ v V', Cl Tryd.prog NG 6 #[.agg #[.int .i64 p0.op, .int .i64 p0.d, .int .i64 p0.a, .int .i64 p0.b, .int .i64 p0.imm]] V.H v V'.H ∧ V.le V' ∧ (v = .bool r ∧ Ow V' (Rs)) := by
 refine Ct.of gl.lo Tryd.func6 rfl (nr rfl) ?_
 unfold law02_IsaUses at h
 refine WP.usreg rfl ?_
 refine O.box ow rfl rfl (.inl rfl) rfl (L 0 rfl rfl) (by simp [topV]) rfl nd (fun b1 V2 le3 ow4 => ?_)
 refine U.p rfl rfl (.inl rfl) (S.assign rfl K) ?_
 refine U.done (nr rfl) ?_
 refine WP.seq ?_
 refine WP.usreg rfl ?_
 obtain ⟨x6, hx7, h8⟩ := bindS h
 refine O.call (V := V2) rfl rfl (.inl rfl) rfl en10 aN (wk_law02_alive V2 _ (gl.up le3) ow4 _ hx7) (fun _ _ _ _ => nd) (fun v9 V10 le11 hp12 => ?_)
 obtain ⟨rfl, ow13⟩ := hp12
 refine U.p rfl rfl (.inl rfl) (S.not rfl (L 0 rfl rfl)) ?_
 refine U.done (nr rfl) ?_
 refine WP.cond _ (L 0 rfl rfl) rfl (fun c14 => ?_) (fun c14 => ?_)
 ·have h15 := ifT c14 h8
  have k16 : x6 = false := nT c14
  refine WP.usreg rfl ?_
  refine U.p rfl rfl (.inl rfl) (S.assign rfl K) ?_
  refine U.done (nr rfl) ?_
  refine WP.ret ?_
  refine sqR ?_
  refine fin.slot (.inr rfl) rfl (L 0 rfl rfl) ⟨V10, rfl, (le3.trans le11), ?_⟩
  have ow17 := ow13.drop 0 rfl
  have e18 := Option.some.inj h15
  subst e18
  exact ⟨rfl, ow17⟩
 ·have h19 := ifF c14 h8
  have k20 : x6 = true := nF c14
  refine WP.skip ?_
  refine sqN ?_
  refine WP.seq ?_
  refine WP.usreg rfl ?_
  refine U.k rfl rfl (.inl rfl) (S.loadB rfl (L 3 rfl rfl) Tryd.underlying25 rfl ti25 (ow13.own (k := 0) rfl).get rfl) nd ?_
  obtain ⟨x21, hx22, h23⟩ := bindS h19
  refine O.call (V := V10) rfl rfl (.inl rfl) rfl en16 (aC (L 0 rfl rfl) aN) (wk_ref02_Good V10 _ (gl.up (le3.trans le11)) p0 ow13 _ hx22) (fun _ _ _ _ => nd) (fun v24 V25 le26 hp27 => ?_)
  obtain ⟨rfl, ow28⟩ := hp27
  refine U.p rfl rfl (.inl rfl) (S.not rfl (L 0 rfl rfl)) ?_
  refine U.done (nr rfl) ?_
  refine WP.cond _ (L 0 rfl rfl) rfl (fun c29 => ?_) (fun c29 => ?_)
  ·have h30 := ifT c29 h23
   have k31 : x21 = false := nT c29
   refine WP.usreg rfl ?_
   refine U.p rfl rfl (.inl rfl) (S.assign rfl K) ?_
   refine U.done (nr rfl) ?_
   refine WP.ret ?_
   refine sqR ?_
   refine fin.slot (.inr rfl) rfl (L 0 rfl rfl) ⟨V25, rfl, ((le3.trans le11).trans le26), ?_⟩
   have ow32 := ow28.drop 0 rfl
   have e33 := Option.some.inj h30
   subst e33
   exact ⟨rfl, ow32⟩
  ·have h34 := ifF c29 h23
   have k35 : x21 = true := nF c29
   refine WP.skip ?_
   refine sqN ?_
   refine WP.usdreg rfl rfl rfl ?_
   refine U.k rfl rfl (.inl rfl) (S.loadB rfl (L 6 rfl rfl) Tryd.underlying25 rfl ti25 (ow28.own (k := 0) rfl).get rfl) (fun _ => (okH.nil (fun r h => by cases h; exact (ow28.own (k := 0) rfl).lt))) ?_
   obtain ⟨x36, hx37, h38⟩ := bindS h34
   refine O.call (V := V25) rfl rfl (.inl rfl) rfl en17 (aC (L 0 rfl rfl) aN) (wk_isa_Reads V25 _ (gl.up ((le3.trans le11).trans le26)) p0 ow28 _ hx37) (fun v39 V40 le41 hp42 => by obtain ⟨_, rfl, ow43⟩ := hp42; exact (fun _ => (okH.cons (Or.inl rfl) (okH.nil (fun r h => nomatch h))))) (fun v39 V40 le41 hp42 => ?_)
   obtain ⟨_, rfl, ow43⟩ := hp42
   refine U.k rfl rfl (.inl rfl) (S.loadB rfl (L 8 rfl rfl) Tryd.underlying25 rfl ti25 (ow43.own (k := 1) rfl).get rfl) (fun _ => (okH.cons (Or.inr ((ow43.own (k := 1) rfl).get.trans (ow28.own (k := 0) rfl).get.symm)) (okH.cons trivial (okH.nil (fun r h => by cases h; exact (ow43.own (k := 1) rfl).lt))))) ?_
   obtain ⟨x46, hx47, h48⟩ := bindS h38
   refine O.call (V := V40) rfl rfl (.inl rfl) rfl en18 (aC (L 0 rfl rfl) aN) (wk_ref02_Reads V40 _ (gl.up (((le3.trans le11).trans le26).trans le41)) p0 ow43 _ hx47) (fun v49 V50 le51 hp52 => by obtain ⟨_, rfl, ow53⟩ := hp52; exact (fun _ => (okH.cons (Or.inl rfl) (okH.cons rfl (okH.cons (Or.inl rfl) (okH.nil (fun r h => nomatch h))))))) (fun v49 V50 le51 hp52 => ?_)
   obtain ⟨_, rfl, ow53⟩ := hp52
   refine U.p rfl rfl (.inl rfl) (S.assign rfl (L 2 rfl rfl)) ?_
   refine U.p rfl rfl (.inl rfl) (S.assign rfl (L 1 rfl rfl)) ?_
   refine U.done (nr rfl) ?_
   refine WP.seq ?_
   refine WP.seqI (fun l V' => ∃ (x56 : Bool), l = [(3, v39), (4, v49), (26, .bool x56)] ∧ V50.le V' ∧ Ow V' (.os (RT.int .i64) v39 x36 :: .os (RT.int .i64) v49 x46 :: Rs) ∧ law02_IsaUses_k1 x36 x46 x56 = some r) ?_ ?_
   ·rintro _ V57 ⟨x56, rfl, le58, ow59, h60⟩
    unfold law02_IsaUses_k1 at h60
    refine WP.cond _ (L 2 rfl rfl) rfl (fun c61 => ?_) (fun c61 => ?_)
    ·have h62 := ifT c61 h60
     refine WP.usreg rfl ?_
     refine U.p rfl rfl (.inl rfl) (S.assign rfl K) ?_
     refine U.done (nr rfl) ?_
     refine WP.ret ?_
     refine sqR ?_
     refine fin.slot (.inr rfl) rfl (L 0 rfl rfl) ⟨V57, rfl, (((((le3.trans le11).trans le26).trans le41).trans le51).trans le58), ?_⟩
     have ow63 := ow59.drop 0 rfl
     have ow64 := ow63.drop 0 rfl
     have e65 := Option.some.inj h62
     subst e65
     exact ⟨rfl, ow64⟩
    ·have h66 := ifF c61 h60
     refine WP.skip ?_
     refine sqN ?_
     refine WP.seq ?_
     refine WP.usreg rfl ?_
     refine U.p rfl rfl (.inl rfl) (S.move rfl (L 0 rfl rfl)) ?_
     refine U.p rfl rfl (.inl rfl) (ow59.oslen (k := 0) rfl rfl (L 0 rfl rfl) Tryd.underlying42) ?_
     refine U.p rfl rfl (.inl rfl) (S.move rfl K) ?_
     refine U.done (nr rfl) ?_
     refine WP.blk ?_
     unfold law02_IsaUses_l1 at h66
     obtain ⟨n69, hn68⟩ := loopO_some.1 h66
     refine WP.loopI2 (fun n l V' => ∃ (x67 : Int), l = [(3, v39), (4, v49), (28, .int .i64 (x36.length : Int)), (29, .int .i64 x67)] ∧ V57.le V' ∧ Ow V' (.os (RT.int .i64) v39 x36 :: .os (RT.int .i64) v49 x46 :: Rs) ∧ itO (fun s => law02_IsaUses_l1b x36 x46 s) n x67 = some r) n69 _ ⟨0, rfl, .refl _, ow59, hn68⟩ (allCons (L 3 rfl rfl) (allCons (L 4 rfl rfl) (allCons (L 1 rfl rfl) (allCons (L 0 rfl rfl) allNil)))) ?_
     rintro _ _ V70 ⟨x67, rfl, le71, ow72, h76⟩
     obtain ⟨m73, q74, rfl, h77, e75⟩ := itS h76
     replace h77 : law02_IsaUses_l1b x36 x46 x67 = some q74 := h77
     unfold law02_IsaUses_l1b at h77
     refine WP.usreg rfl ?_
     refine U.p rfl rfl (.inl rfl) (S.lss rfl (L 3 rfl rfl) (L 2 rfl rfl)) ?_
     refine U.done (nr rfl) ?_
     refine WP.seq ?_
     refine WP.cond _ (L 0 rfl rfl) rfl (fun c78 => ?_) (fun c78 => ?_)
     ·have h79 := ifT c78 h77
      refine WP.skip ?_
      refine sqN ?_
      refine WP.seq ?_
      refine WP.blk ?_
      refine WP.usreg rfl ?_
      refine U.p rfl rfl (.inl rfl) (S.move rfl (L 4 rfl rfl)) ?_
      refine U.p rfl rfl (.inl rfl) (S.assign rfl (L 0 rfl rfl)) ?_
      refine U.done (nr rfl) ?_
      refine WP.seqI (fun l V' => ∃ (x80 : Bool), l = [(3, v39), (4, v49), (28, .int .i64 (x36.length : Int)), (29, .int .i64 x67), (54, .bool x80)] ∧ V70.le V' ∧ Ow V' (.os (RT.int .i64) v39 x36 :: .os (RT.int .i64) v49 x46 :: Rs) ∧ law02_IsaUses_k2 x67 x80 = some q74) ?_ ?_
      ·rintro _ V81 ⟨x80, rfl, le82, ow83, h84⟩
       unfold law02_IsaUses_k2 at h84
       refine WP.cond _ (L 4 rfl rfl) rfl (fun c85 => ?_) (fun c85 => ?_)
       ·have h86 := ifT c85 h84
        refine WP.usreg rfl ?_
        refine U.p rfl rfl (.inl rfl) (S.assign rfl K) ?_
        refine U.done (nr rfl) ?_
        refine WP.ret ?_
        refine blkR (sqR (sqR (blkR (sqR ?_))))
        have h87 := exitS h86 e75
        refine fin.slot (.inr rfl) rfl (L 0 rfl rfl) ⟨V81, rfl, (((((((le3.trans le11).trans le26).trans le41).trans le51).trans le58).trans le71).trans le82), ?_⟩
        have ow88 := ow83.drop 0 rfl
        have ow89 := ow88.drop 0 rfl
        have e90 := Option.some.inj h87
        subst e90
        exact ⟨rfl, ow89⟩
       ·have h91 := ifF c85 h84
        refine WP.skip ?_
        refine blkN (sqN ?_)
        refine WP.ureg rfl ?_
        refine U.p rfl rfl (.inl rfl) (S.add rfl (L 3 rfl rfl) K) ?_
        refine U.p rfl rfl (.inl rfl) (S.move rfl (L 0 rfl rfl)) ?_
        refine U.done (nr rfl) ?_
        refine sqN ?_
        exact ⟨_, V81, rfl, ⟨m73, Nat.lt_succ_self _, w64 (x67 + 1), rfl, (le71.trans le82), ow83, backS h91 e75⟩, (allCons (L 2 rfl rfl) (allCons (L 3 rfl rfl) (allCons (L 4 rfl rfl) (allCons (L 0 rfl rfl) allNil))))⟩
      ·skip
       refine WP.udreg rfl rfl rfl ?_
       refine U.p rfl rfl (.inl rfl) (S.move rfl (L 3 rfl rfl)) ?_
       refine U.p rfl rfl (.inl rfl) (S.move rfl (L 1 rfl rfl)) ?_
       obtain ⟨x92, hx93, h94⟩ := bindS h79
       obtain ⟨b95, o96, n97, c98, hv99⟩ := ow72.ospt (k := 0) rfl hx93
       obtain ⟨_, hv100, _⟩ := ow72.osel (k := 0) rfl hv99 hx93
       refine U.p rfl rfl (.inl rfl) (S.index rfl ((L 1 rfl rfl).trans hv100) (L 0 rfl rfl) Tryd.underlying42 ti3 (ix_ge hx93) (ix_lt hx93)) ?_
       obtain ⟨cs101, hv102, hlt103, hr104, hc105⟩ := ow72.osel (k := 0) rfl hv99 hx93
       obtain rfl : cs101 = [.int .i64 x92] := hr104
       refine U.k rfl rfl (.inl rfl) (S.load rfl (L 0 rfl rfl) Tryd.underlying3 rfl (hc105 0 _ rfl)) (fun _ => (okH.nil (fun r h => by cases h; exact hlt103))) ?_
       refine U.p rfl rfl (.inl rfl) (S.move rfl (L 8 rfl rfl)) ?_
       refine U.p rfl rfl (.inl rfl) (S.move rfl (L 5 rfl rfl)) ?_
       obtain ⟨x106, hx107, h108⟩ := bindS h94
       obtain ⟨b109, o110, n111, c112, hv113⟩ := ow72.ospt (k := 1) rfl hx107
       obtain ⟨_, hv114, _⟩ := ow72.osel (k := 1) rfl hv113 hx107
       refine U.p rfl rfl (.inl rfl) (S.index rfl ((L 1 rfl rfl).trans hv114) (L 0 rfl rfl) Tryd.underlying42 ti3 (ix_ge hx107) (ix_lt hx107)) ?_
       obtain ⟨cs115, hv116, hlt117, hr118, hc119⟩ := ow72.osel (k := 1) rfl hv113 hx107
       obtain rfl : cs115 = [.int .i64 x106] := hr118
       refine U.k rfl rfl (.inl rfl) (S.load rfl (L 0 rfl rfl) Tryd.underlying3 rfl (hc119 0 _ rfl)) (fun _ => (okH.cons trivial (okH.nil (fun r h => by cases h; exact hlt117)))) ?_
       refine U.p rfl rfl (.inl rfl) (S.neqI rfl (L 4 rfl rfl) (L 0 rfl rfl)) ?_
       refine U.p rfl rfl (.inl rfl) (S.move rfl (L 0 rfl rfl)) ?_
       refine bcase (b := decide (x92 ≠ x106)) (fun g120 => ?_) (fun g120 => ?_)
       ·have h121 := ifT g120 h108
        refine U.x rfl rfl rfl rfl ((L 0 rfl rfl).trans (congrArg Value.bool g120)) (by decide) ?_
        refine U.x rfl rfl rfl rfl ((L 1 rfl rfl).trans (congrArg Value.bool g120)) (by decide) ?_
        refine U.x rfl rfl rfl rfl ((L 2 rfl rfl).trans (congrArg Value.bool g120)) (by decide) ?_
        refine U.x rfl rfl rfl rfl ((L 3 rfl rfl).trans (congrArg Value.bool g120)) (by decide) ?_
        refine U.x rfl rfl rfl rfl ((L 4 rfl rfl).trans (congrArg Value.bool g120)) (by decide) ?_
        refine U.p rfl rfl (.inl rfl) (S.pickT rfl ((L 5 rfl rfl).trans (congrArg Value.bool g120)) K) ?_
        refine U.p rfl rfl (.inl rfl) (S.move rfl (L 0 rfl rfl)) ?_
        refine U.x rfl rfl rfl rfl (L 0 rfl rfl) (by decide) ?_
        refine U.x rfl rfl rfl rfl (L 1 rfl rfl) (by decide) ?_
        refine U.x rfl rfl rfl rfl (L 2 rfl rfl) (by decide) ?_
        refine U.x rfl rfl rfl rfl (L 3 rfl rfl) (by decide) ?_
        refine U.x rfl rfl rfl rfl (L 4 rfl rfl) (by decide) ?_
        refine U.p rfl rfl (.inl rfl) (S.pickT rfl (L 5 rfl rfl) K) ?_
        refine U.done (nr rfl) ?_
        refine sqN ?_
        exact ⟨_, V70, rfl, ⟨true, rfl, (.refl _), ow72, h121⟩, (allCons (L 26 rfl rfl) (allCons (L 27 rfl rfl) (allCons (L 28 rfl rfl) (allCons (L 29 rfl rfl) (allCons (L 0 rfl rfl) allNil)))))⟩
       ·have h122 := ifF g120 h108
        refine U.p rfl rfl (.inr ⟨_, _, _, rfl, rfl, ((L 0 rfl rfl).trans (congrArg Value.bool g120))⟩) (S.move rfl (L 13 rfl rfl)) ?_
        refine U.p rfl rfl (.inr ⟨_, _, _, rfl, rfl, ((L 1 rfl rfl).trans (congrArg Value.bool g120))⟩) (S.move rfl (L 11 rfl rfl)) ?_
        obtain ⟨x123, hx124, h125⟩ := bindS h122
        obtain ⟨_, hv126, _⟩ := ow72.osel (k := 0) rfl hv99 hx124
        refine U.p rfl rfl (.inr ⟨_, _, _, rfl, rfl, ((L 2 rfl rfl).trans (congrArg Value.bool g120))⟩) (S.index rfl ((L 1 rfl rfl).trans hv126) (L 0 rfl rfl) Tryd.underlying42 ti3 (ix_ge hx124) (ix_lt hx124)) ?_
        obtain ⟨cs127, hv128, hlt129, hr130, hc131⟩ := ow72.osel (k := 0) rfl hv99 hx124
        obtain rfl : cs127 = [.int .i64 x123] := hr130
        refine U.k rfl rfl (.inr ⟨_, _, _, rfl, rfl, ((L 3 rfl rfl).trans (congrArg Value.bool g120))⟩) (S.load rfl (L 0 rfl rfl) Tryd.underlying3 rfl (hc131 0 _ rfl)) (fun _ => (okH.cons trivial (okH.cons trivial (okH.nil (fun r h => by cases h; exact hlt129))))) ?_
        refine U.p rfl rfl (.inr ⟨_, _, _, rfl, rfl, ((L 4 rfl rfl).trans (congrArg Value.bool g120))⟩) (S.lss rfl (L 0 rfl rfl) K) ?_
        refine U.p rfl rfl (.inl rfl) (S.pickF rfl ((L 5 rfl rfl).trans (congrArg Value.bool g120)) (L 0 rfl rfl)) ?_
        refine U.p rfl rfl (.inl rfl) (S.move rfl (L 0 rfl rfl)) ?_
        refine bcase (b := decide (x123 < 0)) (fun g132 => ?_) (fun g132 => ?_)
        ·have h133 := ifT g132 h125
         refine U.x rfl rfl rfl rfl ((L 0 rfl rfl).trans (congrArg Value.bool g132)) (by decide) ?_
         refine U.x rfl rfl rfl rfl ((L 1 rfl rfl).trans (congrArg Value.bool g132)) (by decide) ?_
         refine U.x rfl rfl rfl rfl ((L 2 rfl rfl).trans (congrArg Value.bool g132)) (by decide) ?_
         refine U.x rfl rfl rfl rfl ((L 3 rfl rfl).trans (congrArg Value.bool g132)) (by decide) ?_
         refine U.x rfl rfl rfl rfl ((L 4 rfl rfl).trans (congrArg Value.bool g132)) (by decide) ?_
         refine U.p rfl rfl (.inl rfl) (S.pickT rfl ((L 5 rfl rfl).trans (congrArg Value.bool g132)) K) ?_
         refine U.done (nr rfl) ?_
         refine sqN ?_
         exact ⟨_, V70, rfl, ⟨true, rfl, (.refl _), ow72, h133⟩, (allCons (L 26 rfl rfl) (allCons (L 27 rfl rfl) (allCons (L 28 rfl rfl) (allCons (L 29 rfl rfl) (allCons (L 0 rfl rfl) allNil)))))⟩
        ·have h134 := ifF g132 h125
         refine U.p rfl rfl (.inr ⟨_, _, _, rfl, rfl, ((L 0 rfl rfl).trans (congrArg Value.bool g132))⟩) (S.move rfl (L 20 rfl rfl)) ?_
         refine U.p rfl rfl (.inr ⟨_, _, _, rfl, rfl, ((L 1 rfl rfl).trans (congrArg Value.bool g132))⟩) (S.move rfl (L 18 rfl rfl)) ?_
         obtain ⟨x135, hx136, h137⟩ := bindS h134
         obtain ⟨_, hv138, _⟩ := ow72.osel (k := 0) rfl hv99 hx136
         refine U.p rfl rfl (.inr ⟨_, _, _, rfl, rfl, ((L 2 rfl rfl).trans (congrArg Value.bool g132))⟩) (S.index rfl ((L 1 rfl rfl).trans hv138) (L 0 rfl rfl) Tryd.underlying42 ti3 (ix_ge hx136) (ix_lt hx136)) ?_
         obtain ⟨cs139, hv140, hlt141, hr142, hc143⟩ := ow72.osel (k := 0) rfl hv99 hx136
         obtain rfl : cs139 = [.int .i64 x135] := hr142
         refine U.k rfl rfl (.inr ⟨_, _, _, rfl, rfl, ((L 3 rfl rfl).trans (congrArg Value.bool g132))⟩) (S.load rfl (L 0 rfl rfl) Tryd.underlying3 rfl (hc143 0 _ rfl)) (fun _ => (okH.cons trivial (okH.cons trivial (okH.cons trivial (okH.nil (fun r h => by cases h; exact hlt141)))))) ?_
         refine U.p rfl rfl (.inr ⟨_, _, _, rfl, rfl, ((L 4 rfl rfl).trans (congrArg Value.bool g132))⟩) (S.gtr rfl (L 0 rfl rfl) K) ?_
         refine U.p rfl rfl (.inl rfl) (S.pickF rfl ((L 5 rfl rfl).trans (congrArg Value.bool g132)) (L 0 rfl rfl)) ?_
         refine U.done (nr rfl) ?_
         refine sqN ?_
         exact ⟨_, V70, rfl, ⟨decide (33 < x135), rfl, (.refl _), ow72, h137⟩, (allCons (L 26 rfl rfl) (allCons (L 27 rfl rfl) (allCons (L 28 rfl rfl) (allCons (L 29 rfl rfl) (allCons (L 0 rfl rfl) allNil)))))⟩
     ·have h144 := ifF c78 h77
      refine WP.exit ?_
      refine sqE (sqE (blkE (sqN ?_)))
      have h145 := exitS h144 e75
      refine WP.usreg rfl ?_
      refine U.p rfl rfl (.inl rfl) (S.assign rfl K) ?_
      refine U.done (nr rfl) ?_
      refine WP.ret ?_
      refine fin.slot (.inr rfl) rfl (L 0 rfl rfl) ⟨V70, rfl, ((((((le3.trans le11).trans le26).trans le41).trans le51).trans le58).trans le71), ?_⟩
      have ow146 := ow72.drop 0 rfl
      have ow147 := ow146.drop 0 rfl
      have e148 := Option.some.inj h145
      subst e148
      exact ⟨rfl, ow147⟩
   ·skip
    refine WP.udreg rfl rfl rfl ?_
    refine U.p rfl rfl (.inl rfl) (S.move rfl (L 1 rfl rfl)) ?_
    refine U.p rfl rfl (.inl rfl) (ow53.oslen (k := 1) rfl rfl (L 0 rfl rfl) Tryd.underlying42) ?_
    refine U.p rfl rfl (.inl rfl) (S.move rfl (L 2 rfl rfl)) ?_
    refine U.p rfl rfl (.inl rfl) (ow53.oslen (k := 0) rfl rfl (L 0 rfl rfl) Tryd.underlying42) ?_
    refine U.p rfl rfl (.inl rfl) (S.neqI rfl (L 2 rfl rfl) (L 0 rfl rfl)) ?_
    refine U.p rfl rfl (.inl rfl) (S.move rfl (L 0 rfl rfl)) ?_
    refine bcase (b := decide ((x36.length : Int) ≠ (x46.length : Int))) (fun g149 => ?_) (fun g149 => ?_)
    ·have h150 := ifT g149 h48
     refine U.x rfl rfl rfl rfl ((L 0 rfl rfl).trans (congrArg Value.bool g149)) (by decide) ?_
     refine U.x rfl rfl rfl rfl ((L 1 rfl rfl).trans (congrArg Value.bool g149)) (by decide) ?_
     refine U.x rfl rfl rfl rfl ((L 2 rfl rfl).trans (congrArg Value.bool g149)) (by decide) ?_
     refine U.x rfl rfl rfl rfl ((L 3 rfl rfl).trans (congrArg Value.bool g149)) (by decide) ?_
     refine U.x rfl rfl rfl rfl ((L 4 rfl rfl).trans (congrArg Value.bool g149)) (by decide) ?_
     refine U.p rfl rfl (.inl rfl) (S.pickT rfl ((L 5 rfl rfl).trans (congrArg Value.bool g149)) K) ?_
     refine U.done (nr rfl) ?_
     refine sqN ?_
     have ow151 := ow53.drop 2 rfl
     have ow152 := ow151.pick 0 rfl
     have ow153 := ow152.pick 1 rfl
     exact ⟨_, V50, rfl, ⟨true, rfl, (.refl _), ow153, h150⟩, (allCons (L 13 rfl rfl) (allCons (L 12 rfl rfl) (allCons (L 0 rfl rfl) allNil)))⟩
    ·have h154 := ifF g149 h48
     refine U.k rfl rfl (.inr ⟨_, _, _, rfl, rfl, ((L 0 rfl rfl).trans (congrArg Value.bool g149))⟩) (S.loadB rfl (L 18 rfl rfl) Tryd.underlying25 rfl ti25 (ow53.own (k := 2) rfl).get rfl) (fun _ => (okH.nil (fun r h => by cases h; exact (ow53.own (k := 2) rfl).lt))) ?_
     obtain ⟨x155, hx156, h157⟩ := bindS h154
     refine O.call (V := V50) rfl rfl (.inr ⟨_, _, _, rfl, rfl, ((L 1 rfl rfl).trans (congrArg Value.bool g149))⟩) rfl en19 (aC (L 0 rfl rfl) aN) (wk_isa_Writes V50 _ (gl.up ((((le3.trans le11).trans le26).trans le41).trans le51)) p0 ow53 _ hx156) (fun v158 V159 le160 hp161 => by obtain ⟨rfl, ow162⟩ := hp161; exact (fun _ => (okH.cons (Or.inl rfl) (okH.nil (fun r h => nomatch h))))) (fun v158 V159 le160 hp161 => ?_)
     obtain ⟨rfl, ow162⟩ := hp161
     refine U.k rfl rfl (.inr ⟨_, _, _, rfl, rfl, ((L 2 rfl rfl).trans (congrArg Value.bool g149))⟩) (S.loadB rfl (L 20 rfl rfl) Tryd.underlying25 rfl ti25 (ow162.own (k := 2) rfl).get rfl) (fun _ => (okH.cons (Or.inr ((ow162.own (k := 2) rfl).get.trans (ow53.own (k := 2) rfl).get.symm)) (okH.cons trivial (okH.nil (fun r h => by cases h; exact (ow162.own (k := 2) rfl).lt))))) ?_
     obtain ⟨x163, hx164, h165⟩ := bindS h157
     refine O.call (V := V159) rfl rfl (.inr ⟨_, _, _, rfl, rfl, ((L 3 rfl rfl).trans (congrArg Value.bool g149))⟩) rfl en20 (aC (L 0 rfl rfl) aN) (wk_ref02_Writes V159 _ (gl.up (((((le3.trans le11).trans le26).trans le41).trans le51).trans le160)) p0 ow162 _ hx164) (fun v166 V167 le168 hp169 => by obtain ⟨rfl, ow170⟩ := hp169; exact (fun _ => (okH.cons (Or.inl rfl) (okH.cons rfl (okH.cons (Or.inl rfl) (okH.nil (fun r h => nomatch h))))))) (fun v166 V167 le168 hp169 => ?_)
     obtain ⟨rfl, ow170⟩ := hp169
     refine U.p rfl rfl (.inr ⟨_, _, _, rfl, rfl, ((L 4 rfl rfl).trans (congrArg Value.bool g149))⟩) (S.neqI rfl (L 2 rfl rfl) (L 0 rfl rfl)) ?_
     refine U.p rfl rfl (.inl rfl) (S.pickF rfl ((L 5 rfl rfl).trans (congrArg Value.bool g149)) (L 0 rfl rfl)) ?_
     refine U.done (nr rfl) ?_
     refine sqN ?_
     have ow171 := ow170.drop 2 rfl
     have ow172 := ow171.pick 0 rfl
     have ow173 := ow172.pick 1 rfl
     exact ⟨_, V167, rfl, ⟨decide (x155 ≠ x163), rfl, (le160.trans le168), ow173, h165⟩, (allCons (L 13 rfl rfl) (allCons (L 12 rfl rfl) (allCons (L 0 rfl rfl) allNil)))⟩
end Go.Vm.G02
