/-
  What the functions compute is what the plain ones say, for all inputs at which those answer.
-/
import Derived.Test.YtipebnimgbigoaaDoorEWG02
set_option linter.unusedSimpArgs false
set_option linter.unusedVariables false
namespace Go.Vm.G02
open Go Go.Proofs
set_option maxHeartbeats 4000000 in
set_option maxRecDepth 10000 in
theorem wk_ref02_Good (V : Vw) (Rs : List At) (gl : Glb V) (p0 : TInst) (ow : Ow V (Rs)) (r : Bool) (h : ref02_Good p0 = some r) : ∃ v V', Cl Tryd.prog NG 16 #[.agg #[.int .i64 p0.op, .int .i64 p0.d, .int .i64 p0.a, .int .i64 p0.b, .int .i64 p0.imm]] V.H v V'.H ∧ V.le V' ∧ (v = .bool r ∧ Ow V' (Rs)) := by
 refine Ct.of gl.lo Tryd.func16 rfl (nr rfl) ?_
 unfold ref02_Good at h
 refine WP.usreg rfl ?_
 refine O.box ow rfl rfl (.inl rfl) rfl (L 0 rfl rfl) (by simp [topV]) rfl nd (fun b1 V2 le3 ow4 => ?_)
 refine U.p rfl rfl (.inl rfl) (S.assign rfl K) ?_
 refine U.done (nr rfl) ?_
 refine WP.usreg rfl ?_
 refine U.p (v := .pointer (some ⟨b1, 0, none⟩)) rfl rfl (.inl rfl) (S.fieldAddr rfl (L 1 rfl rfl) Tryd.underlying25 rfl ti3 rfl rfl) ?_
 refine U.k rfl rfl (.inl rfl) (S.load rfl (L 0 rfl rfl) Tryd.underlying3 rfl ((ow4.own (k := 0) rfl).cell rfl)) nd ?_
 obtain ⟨x6, hx7, h8⟩ := bindS h
 refine O.call (V := V2) rfl rfl (.inl rfl) rfl en15 (aC (L 0 rfl rfl) aN) (wk_ref02_Of V2 _ (gl.up le3) p0.op ow4 _ hx7) (fun _ _ _ _ => nd) (fun v9 V10 le11 hp12 => ?_)
 obtain ⟨rfl, ow13⟩ := hp12
 refine U.p rfl rfl (.inl rfl) (S.move rfl (L 0 rfl rfl)) ?_
 refine U.p rfl rfl (.inl rfl) (S.extract rfl (L 0 rfl rfl) rfl (nr rfl)) ?_
 refine U.p rfl rfl (.inl rfl) (S.extract rfl (L 1 rfl rfl) rfl (nr rfl)) ?_
 refine O.alloc ow13 rfl rfl (.inl rfl) rfl ti37 rfl rfl nd (fun b14 V15 le16 ow17 => ?_)
 refine O.store (k := 0) (cs := [.string x6.1.name, .bool x6.1.d, .bool x6.1.a, .bool x6.1.b, .int .i64 x6.1.imm, .int .u32 x6.1.word]) (c' := [.string x6.1.name, .bool x6.1.d, .bool x6.1.a, .bool x6.1.b, .int .i64 x6.1.imm, .int .u32 x6.1.word]) ow17 rfl rfl rfl (.inl rfl) rfl (L 0 rfl rfl) (L 2 rfl rfl) ti37 (by simp [topV]) rfl rfl (nr rfl) rfl rfl nd (fun V19 le20 ow21 => ?_)
 refine U.p rfl rfl (.inl rfl) (S.assign rfl (L 1 rfl rfl)) ?_
 refine U.done (nr rfl) ?_
 refine WP.seq ?_
 refine WP.usreg rfl ?_
 refine U.p rfl rfl (.inl rfl) (S.move rfl (L 0 rfl rfl)) ?_
 refine U.p rfl rfl (.inl rfl) (S.not rfl (L 0 rfl rfl)) ?_
 refine U.p rfl rfl (.inl rfl) (S.move rfl (L 0 rfl rfl)) ?_
 obtain ⟨y22, hy23, h24⟩ := bindS h8
 refine U.joinX 10 (fun e H => ∃ (u25 u26 u27 u28 u29 u30 : Value), ∃ V' : Vw, H = V'.H ∧ V19.le V' ∧ e = [(20, .bool y22), (19, u25), (18, u26), (17, u27), (16, u28), (15, u29), (14, u30)] ∧ Ow V' (.pt b14 (.cells 6 [.string x6.1.name, .bool x6.1.d, .bool x6.1.a, .bool x6.1.b, .int .i64 x6.1.imm, .int .u32 x6.1.word]) :: .pt b1 (.cells 0 [.int .i64 p0.op, .int .i64 p0.d, .int .i64 p0.a, .int .i64 p0.b, .int .i64 p0.imm]) :: Rs)) ?_ ?_
 ·rintro _ _ ⟨u25, u26, u27, u28, u29, u30, V31, rfl, le32, rfl, ow33⟩
  refine U.p rfl rfl (.inl rfl) (S.move rfl (L 0 rfl rfl)) ?_
  obtain ⟨y34, hy35, h36⟩ := bindS h24
  refine U.joinX 18 (fun e H => ∃ (u37 u38 u39 u40 u41 u42 : Value), ∃ V' : Vw, H = V'.H ∧ V31.le V' ∧ e = [(28, .bool y34), (27, u37), (26, u38), (25, u39), (24, u40), (23, u41), (22, u42)] ∧ Ow V' (.pt b14 (.cells 6 [.string x6.1.name, .bool x6.1.d, .bool x6.1.a, .bool x6.1.b, .int .i64 x6.1.imm, .int .u32 x6.1.word]) :: .pt b1 (.cells 0 [.int .i64 p0.op, .int .i64 p0.d, .int .i64 p0.a, .int .i64 p0.b, .int .i64 p0.imm]) :: Rs)) ?_ ?_
  ·rintro _ _ ⟨u37, u38, u39, u40, u41, u42, V43, rfl, le44, rfl, ow45⟩
   refine U.p rfl rfl (.inl rfl) (S.move rfl (L 0 rfl rfl)) ?_
   obtain ⟨y46, hy47, h48⟩ := bindS h36
   refine U.joinX 26 (fun e H => ∃ (u49 u50 u51 u52 u53 u54 : Value), ∃ V' : Vw, H = V'.H ∧ V43.le V' ∧ e = [(36, .bool y46), (35, u49), (34, u50), (33, u51), (32, u52), (31, u53), (30, u54)] ∧ Ow V' (.pt b14 (.cells 6 [.string x6.1.name, .bool x6.1.d, .bool x6.1.a, .bool x6.1.b, .int .i64 x6.1.imm, .int .u32 x6.1.word]) :: .pt b1 (.cells 0 [.int .i64 p0.op, .int .i64 p0.d, .int .i64 p0.a, .int .i64 p0.b, .int .i64 p0.imm]) :: Rs)) ?_ ?_
   ·rintro _ _ ⟨u49, u50, u51, u52, u53, u54, V55, rfl, le56, rfl, ow57⟩
    refine U.done (nr rfl) ?_
    refine WP.cond _ (L 0 rfl rfl) rfl (fun c58 => ?_) (fun c58 => ?_)
    ·have h59 := ifT c58 h48
     refine WP.usreg rfl ?_
     refine U.p rfl rfl (.inl rfl) (S.assign rfl K) ?_
     refine U.done (nr rfl) ?_
     refine WP.ret ?_
     refine sqR ?_
     refine fin.slot (.inr rfl) rfl (L 0 rfl rfl) ⟨V55, rfl, ((((((le3.trans le11).trans le16).trans le20).trans le32).trans le44).trans le56), ?_⟩
     have ow60 := ow57.drop 0 rfl
     have ow61 := ow60.drop 0 rfl
     have e62 := Option.some.inj h59
     subst e62
     exact ⟨rfl, ow61⟩
    ·have h63 := ifF c58 h48
     refine WP.skip ?_
     refine sqN ?_
     refine WP.seq ?_
     refine WP.usreg rfl ?_
     refine U.p (v := .pointer (some ⟨b1, 0, none⟩)) rfl rfl (.inl rfl) (S.fieldAddr rfl (L 35 rfl rfl) Tryd.underlying25 rfl ti3 rfl rfl) ?_
     refine U.k rfl rfl (.inl rfl) (S.load rfl (L 0 rfl rfl) Tryd.underlying3 rfl ((ow57.own (k := 1) rfl).cell rfl)) nd ?_
     refine U.p rfl rfl (.inl rfl) (S.eqlI rfl (L 0 rfl rfl) K) ?_
     refine U.p rfl rfl (.inl rfl) (S.move rfl (L 0 rfl rfl)) ?_
     refine U.joinX 18 (fun e H => ∃ (u64 u65 u66 u67 u68 u69 u70 u71 u72 u73 u74 u75 u76 : Value), H = V55.H ∧ e = [(54, .bool ((decide (p0.op = 10)) && (((decide (p0.d ≠ 4)) && (decide (p0.d ≠ 12))) || (decide (2 < p0.a))))), (53, u64), (52, u65), (51, u66), (50, u67), (49, u68), (48, u69), (47, u70), (46, u71), (45, u72), (44, u73), (43, u74), (42, u75), (41, u76)]) ?_ ?_
     ·rintro _ _ ⟨u64, u65, u66, u67, u68, u69, u70, u71, u72, u73, u74, u75, u76, rfl, rfl⟩
      refine U.p rfl rfl (.inl rfl) (S.move rfl (L 0 rfl rfl)) ?_
      refine U.joinX 28 (fun e H => ∃ (u80 u81 u82 u83 u84 u85 u86 u87 : Value), H = V55.H ∧ e = [(64, .bool (((decide (p0.op = 10)) && (((decide (p0.d ≠ 4)) && (decide (p0.d ≠ 12))) || (decide (2 < p0.a)))) || ((decide (p0.op = 21)) && (decide (p0.imm < 0))))), (63, u80), (62, u81), (61, u82), (60, u83), (59, u84), (58, u85), (57, u86), (56, u87)]) ?_ ?_
      ·rintro _ _ ⟨u80, u81, u82, u83, u84, u85, u86, u87, rfl, rfl⟩
       refine U.done (nr rfl) ?_
       refine WP.cond _ (L 0 rfl rfl) rfl (fun c91 => ?_) (fun c91 => ?_)
       ·have h92 := ifT c91 h63
        refine WP.usreg rfl ?_
        refine U.p rfl rfl (.inl rfl) (S.assign rfl K) ?_
        refine U.done (nr rfl) ?_
        refine WP.ret ?_
        refine sqR ?_
        refine fin.slot (.inr rfl) rfl (L 0 rfl rfl) ⟨V55, rfl, ((((((le3.trans le11).trans le16).trans le20).trans le32).trans le44).trans le56), ?_⟩
        have ow93 := ow57.drop 0 rfl
        have ow94 := ow93.drop 0 rfl
        have e95 := Option.some.inj h92
        subst e95
        exact ⟨rfl, ow94⟩
       ·have h96 := ifF c91 h63
        refine WP.skip ?_
        refine sqN ?_
        refine WP.seq ?_
        refine WP.usreg rfl ?_
        refine U.p (v := .pointer (some ⟨b14, 4, none⟩)) rfl rfl (.inl rfl) (S.fieldAddr rfl (L 55 rfl rfl) Tryd.underlying37 rfl ti3 rfl rfl) ?_
        refine U.k rfl rfl (.inl rfl) (S.load rfl (L 0 rfl rfl) Tryd.underlying3 rfl ((ow57.own (k := 0) rfl).cell rfl)) nd ?_
        refine U.done (nr rfl) ?_
        refine WP.blk ?_
        refine WP.usreg rfl ?_
        refine U.p rfl rfl (.inl rfl) (S.eqlI rfl (L 0 rfl rfl) K) ?_
        refine U.p rfl rfl (.inl rfl) (S.assign rfl (L 0 rfl rfl)) ?_
        refine U.done (nr rfl) ?_
        refine WP.cond _ (L 0 rfl rfl) rfl (fun c97 => ?_) (fun c97 => ?_)
        ·have h98 := ifT c97 h96
         refine WP.usreg rfl ?_
         refine U.p (v := .pointer (some ⟨b1, 4, none⟩)) rfl rfl (.inl rfl) (S.fieldAddr rfl (L 67 rfl rfl) Tryd.underlying25 rfl ti3 rfl rfl) ?_
         refine U.k rfl rfl (.inl rfl) (S.load rfl (L 0 rfl rfl) Tryd.underlying3 rfl ((ow57.own (k := 1) rfl).cell rfl)) nd ?_
         refine U.p rfl rfl (.inl rfl) (S.eqlI rfl (L 0 rfl rfl) K) ?_
         refine U.p rfl rfl (.inl rfl) (S.assign rfl (L 0 rfl rfl)) ?_
         refine U.done (nr rfl) ?_
         refine WP.ret ?_
         refine blkR (sqR ?_)
         refine fin.slot (.inr rfl) rfl (L 0 rfl rfl) ⟨V55, rfl, ((((((le3.trans le11).trans le16).trans le20).trans le32).trans le44).trans le56), ?_⟩
         have ow99 := ow57.drop 0 rfl
         have ow100 := ow99.drop 0 rfl
         have e101 := Option.some.inj h98
         subst e101
         exact ⟨rfl, ow100⟩
        ·have h102 := ifF c97 h96
         refine WP.usreg rfl ?_
         refine U.p rfl rfl (.inl rfl) (S.eqlI rfl (L 2 rfl rfl) K) ?_
         refine U.p rfl rfl (.inl rfl) (S.assign rfl (L 0 rfl rfl)) ?_
         refine U.done (nr rfl) ?_
         refine WP.cond _ (L 0 rfl rfl) rfl (fun c103 => ?_) (fun c103 => ?_)
         ·have h104 := ifT c103 h102
          refine WP.usreg rfl ?_
          refine U.p (v := .pointer (some ⟨b1, 4, none⟩)) rfl rfl (.inl rfl) (S.fieldAddr rfl (L 69 rfl rfl) Tryd.underlying25 rfl ti3 rfl rfl) ?_
          refine U.k rfl rfl (.inl rfl) (S.load rfl (L 0 rfl rfl) Tryd.underlying3 rfl ((ow57.own (k := 1) rfl).cell rfl)) nd ?_
          obtain ⟨x105, hx106, h107⟩ := bindS h104
          refine U.p rfl rfl (.inl rfl) (S.rem hx106 rfl (L 0 rfl rfl) K) ?_
          refine U.p rfl rfl (.inl rfl) (S.eqlI rfl (L 0 rfl rfl) K) ?_
          refine U.p rfl rfl (.inl rfl) (S.move rfl (L 0 rfl rfl)) ?_
          obtain ⟨y108, hy109, h110⟩ := bindS h107
          refine U.joinX 9 (fun e H => ∃ (u111 u112 u113 : Value), ∃ V' : Vw, H = V'.H ∧ V55.le V' ∧ e = [(82, .bool y108), (81, u111), (80, u112), (79, u113)] ∧ Ow V' (.pt b14 (.cells 6 [.string x6.1.name, .bool x6.1.d, .bool x6.1.a, .bool x6.1.b, .int .i64 x6.1.imm, .int .u32 x6.1.word]) :: .pt b1 (.cells 0 [.int .i64 p0.op, .int .i64 p0.d, .int .i64 p0.a, .int .i64 p0.b, .int .i64 p0.imm]) :: Rs)) ?_ ?_
          ·rintro _ _ ⟨u111, u112, u113, V114, rfl, le115, rfl, ow116⟩
           refine U.p rfl rfl (.inl rfl) (S.assign rfl (L 0 rfl rfl)) ?_
           refine U.done (nr rfl) ?_
           refine WP.ret ?_
           refine blkR (sqR ?_)
           refine fin.slot (.inr rfl) rfl (L 0 rfl rfl) ⟨V114, rfl, (((((((le3.trans le11).trans le16).trans le20).trans le32).trans le44).trans le56).trans le115), ?_⟩
           have ow117 := ow116.drop 0 rfl
           have ow118 := ow117.drop 0 rfl
           have e119 := Option.some.inj h110
           subst e119
           exact ⟨rfl, ow118⟩
          ·intro kk
           refine bcase (b := decide (x105 = 0)) (fun g120 => ?_) (fun g120 => ?_)
           ·have h121 := ifT g120 hy109
            refine U.p (v := .pointer (some ⟨b1, 4, none⟩)) rfl rfl (.inr ⟨_, _, _, rfl, rfl, ((L 0 rfl rfl).trans (congrArg Value.bool g120))⟩) (S.fieldAddr rfl (L 74 rfl rfl) Tryd.underlying25 rfl ti3 rfl rfl) ?_
            refine U.k rfl rfl (.inr ⟨_, _, _, rfl, rfl, ((L 1 rfl rfl).trans (congrArg Value.bool g120))⟩) (S.load rfl (L 0 rfl rfl) Tryd.underlying3 rfl ((ow57.own (k := 1) rfl).cell rfl)) nd ?_
            obtain ⟨x122, hx123, h124⟩ := bindS h121
            refine O.call (V := V55) rfl rfl (.inr ⟨_, _, _, rfl, rfl, ((L 2 rfl rfl).trans (congrArg Value.bool g120))⟩) rfl en33 (aC (L 0 rfl rfl) (aC K aN)) (wk_ref01_Fits V55 _ (gl.up ((((((le3.trans le11).trans le16).trans le20).trans le32).trans le44).trans le56)) p0.imm 16 ow57 _ hx123) (fun _ _ _ _ => nd) (fun v125 V126 le127 hp128 => ?_)
            obtain ⟨rfl, ow129⟩ := hp128
            refine U.p rfl rfl (.inl rfl) (S.pickT rfl ((L 3 rfl rfl).trans (congrArg Value.bool g120)) (L 0 rfl rfl)) ?_
            have e130 := Option.some.inj h124
            subst e130
            exact kk [(82, .bool x122), (81, .bool x122), (80, .int .i64 p0.imm), (79, .pointer (some ⟨b1, 4, none⟩))] _ ⟨.bool x122, .int .i64 p0.imm, .pointer (some ⟨b1, 4, none⟩), V126, rfl, le127, rfl, ow129⟩
           ·have h131 := ifF g120 hy109
            refine U.x rfl rfl rfl rfl ((L 0 rfl rfl).trans (congrArg Value.bool g120)) (by decide) ?_
            refine U.x rfl rfl rfl rfl ((L 1 rfl rfl).trans (congrArg Value.bool g120)) (by decide) ?_
            refine U.x rfl rfl rfl rfl ((L 2 rfl rfl).trans (congrArg Value.bool g120)) (by decide) ?_
            refine U.p rfl rfl (.inl rfl) (S.pickF rfl ((L 3 rfl rfl).trans (congrArg Value.bool g120)) K) ?_
            have e132 := Option.some.inj h131
            subst e132
            exact kk [(82, .bool false), (81, .tuple #[]), (80, .tuple #[]), (79, .tuple #[])] _ ⟨.tuple #[], .tuple #[], .tuple #[], V55, rfl, (.refl _), rfl, ow57⟩
         ·have h133 := ifF c103 h102
          refine WP.skip ?_
          refine blkN (sqN ?_)
          refine WP.usreg rfl ?_
          refine U.p (v := .pointer (some ⟨b1, 4, none⟩)) rfl rfl (.inl rfl) (S.fieldAddr rfl (L 69 rfl rfl) Tryd.underlying25 rfl ti3 rfl rfl) ?_
          refine U.k rfl rfl (.inl rfl) (S.load rfl (L 0 rfl rfl) Tryd.underlying3 rfl ((ow57.own (k := 1) rfl).cell rfl)) nd ?_
          refine U.p (v := .pointer (some ⟨b14, 4, none⟩)) rfl rfl (.inl rfl) (S.fieldAddr rfl (L 63 rfl rfl) Tryd.underlying37 rfl ti3 rfl rfl) ?_
          refine U.k rfl rfl (.inl rfl) (S.load rfl (L 0 rfl rfl) Tryd.underlying3 rfl ((ow57.own (k := 0) rfl).cell rfl)) nd ?_
          obtain ⟨x134, hx135, h136⟩ := bindS h133
          refine O.call (V := V55) rfl rfl (.inl rfl) rfl en33 (aC (L 2 rfl rfl) (aC (L 0 rfl rfl) aN)) (wk_ref01_Fits V55 _ (gl.up ((((((le3.trans le11).trans le16).trans le20).trans le32).trans le44).trans le56)) p0.imm x6.1.imm ow57 _ hx135) (fun _ _ _ _ => nd) (fun v137 V138 le139 hp140 => ?_)
          obtain ⟨rfl, ow141⟩ := hp140
          refine U.p rfl rfl (.inl rfl) (S.assign rfl (L 0 rfl rfl)) ?_
          refine U.done (nr rfl) ?_
          refine WP.ret ?_
          refine fin.slot (.inr rfl) rfl (L 0 rfl rfl) ⟨V138, rfl, (((((((le3.trans le11).trans le16).trans le20).trans le32).trans le44).trans le56).trans le139), ?_⟩
          have ow142 := ow141.drop 0 rfl
          have ow143 := ow142.drop 0 rfl
          have e144 := Option.some.inj h136
          subst e144
          exact ⟨rfl, ow143⟩
      ·intro kk
       refine bcase (b := (decide (p0.op = 10)) && (((decide (p0.d ≠ 4)) && (decide (p0.d ≠ 12))) || (decide (2 < p0.a)))) (fun g145 => ?_) (fun g145 => ?_)
       ·skip
        refine U.x rfl rfl rfl rfl ((L 0 rfl rfl).trans (congrArg Value.bool g145)) (by decide) ?_
        refine U.x rfl rfl rfl rfl ((L 1 rfl rfl).trans (congrArg Value.bool g145)) (by decide) ?_
        refine U.x rfl rfl rfl rfl ((L 2 rfl rfl).trans (congrArg Value.bool g145)) (by decide) ?_
        refine U.x rfl rfl rfl rfl ((L 3 rfl rfl).trans (congrArg Value.bool g145)) (by decide) ?_
        refine U.z rfl rfl rfl rfl (L 0 rfl rfl) ?_
        refine U.z rfl rfl rfl rfl (L 1 rfl rfl) ?_
        refine U.z rfl rfl rfl rfl (L 2 rfl rfl) ?_
        refine U.x rfl rfl rfl rfl ((L 7 rfl rfl).trans (congrArg Value.bool g145)) (by decide) ?_
        refine U.p rfl rfl (.inl rfl) (S.pickT rfl ((L 8 rfl rfl).trans (congrArg Value.bool g145)) K) ?_
        exact kk [(64, .bool true), (63, .tuple #[]), (62, .tuple #[]), (61, .tuple #[]), (60, .tuple #[]), (59, .tuple #[]), (58, .tuple #[]), (57, .tuple #[]), (56, .tuple #[])] _ ⟨.tuple #[], .tuple #[], .tuple #[], .tuple #[], .tuple #[], .tuple #[], .tuple #[], .tuple #[], rfl, (by rw [g145, Bool.true_or])⟩
       ·skip
        refine U.p (v := .pointer (some ⟨b1, 0, none⟩)) rfl rfl (.inr ⟨_, _, _, rfl, rfl, ((L 0 rfl rfl).trans (congrArg Value.bool g145))⟩) (S.fieldAddr rfl (L 54 rfl rfl) Tryd.underlying25 rfl ti3 rfl rfl) ?_
        refine U.k rfl rfl (.inr ⟨_, _, _, rfl, rfl, ((L 1 rfl rfl).trans (congrArg Value.bool g145))⟩) (S.load rfl (L 0 rfl rfl) Tryd.underlying3 rfl ((ow57.own (k := 1) rfl).cell rfl)) nd ?_
        refine U.p rfl rfl (.inr ⟨_, _, _, rfl, rfl, ((L 2 rfl rfl).trans (congrArg Value.bool g145))⟩) (S.eqlI rfl (L 0 rfl rfl) K) ?_
        refine U.p rfl rfl (.inr ⟨_, _, _, rfl, rfl, ((L 3 rfl rfl).trans (congrArg Value.bool g145))⟩) (S.move rfl (L 0 rfl rfl)) ?_
        refine U.joinX 27 (fun e H => ∃ (u146 u147 u148 : Value), H = V55.H ∧ e = [(63, .bool ((decide (p0.op = 21)) && (decide (p0.imm < 0)))), (62, u146), (61, u147), (60, u148)]) ?_ ?_
        ·rintro _ _ ⟨u146, u147, u148, rfl, rfl⟩
         refine U.p rfl rfl (.inl rfl) (S.pickF rfl ((L 8 rfl rfl).trans (congrArg Value.bool g145)) (L 0 rfl rfl)) ?_
         exact kk [(64, .bool ((decide (p0.op = 21)) && (decide (p0.imm < 0)))), (63, .bool ((decide (p0.op = 21)) && (decide (p0.imm < 0)))), (62, u146), (61, u147), (60, u148), (59, .bool (decide (p0.op = 21))), (58, .bool (decide (p0.op = 21))), (57, .int .i64 p0.op), (56, .pointer (some ⟨b1, 0, none⟩))] _ ⟨.bool ((decide (p0.op = 21)) && (decide (p0.imm < 0))), u146, u147, u148, .bool (decide (p0.op = 21)), .bool (decide (p0.op = 21)), .int .i64 p0.op, .pointer (some ⟨b1, 0, none⟩), rfl, (by rw [g145, Bool.false_or])⟩
        ·intro kk
         refine bcase (b := decide (p0.op = 21)) (fun g152 => ?_) (fun g152 => ?_)
         ·skip
          refine U.p (v := .pointer (some ⟨b1, 4, none⟩)) rfl rfl (.inr ⟨_, _, _, rfl, rfl, ((L 0 rfl rfl).trans (congrArg Value.bool g152))⟩) (S.fieldAddr rfl (L 58 rfl rfl) Tryd.underlying25 rfl ti3 rfl rfl) ?_
          refine U.k rfl rfl (.inr ⟨_, _, _, rfl, rfl, ((L 1 rfl rfl).trans (congrArg Value.bool g152))⟩) (S.load rfl (L 0 rfl rfl) Tryd.underlying3 rfl ((ow57.own (k := 1) rfl).cell rfl)) nd ?_
          refine U.p rfl rfl (.inr ⟨_, _, _, rfl, rfl, ((L 2 rfl rfl).trans (congrArg Value.bool g152))⟩) (S.lss rfl (L 0 rfl rfl) K) ?_
          refine U.p rfl rfl (.inr ⟨_, _, _, rfl, rfl, ((L 7 rfl rfl).trans (congrArg Value.bool g145))⟩) (S.pickT rfl ((L 3 rfl rfl).trans (congrArg Value.bool g152)) (L 0 rfl rfl)) ?_
          exact kk [(63, .bool (decide (p0.imm < 0))), (62, .bool (decide (p0.imm < 0))), (61, .int .i64 p0.imm), (60, .pointer (some ⟨b1, 4, none⟩))] _ ⟨.bool (decide (p0.imm < 0)), .int .i64 p0.imm, .pointer (some ⟨b1, 4, none⟩), rfl, (by rw [g152, Bool.true_and])⟩
         ·skip
          refine U.x rfl rfl rfl rfl ((L 0 rfl rfl).trans (congrArg Value.bool g152)) (by decide) ?_
          refine U.x rfl rfl rfl rfl ((L 1 rfl rfl).trans (congrArg Value.bool g152)) (by decide) ?_
          refine U.x rfl rfl rfl rfl ((L 2 rfl rfl).trans (congrArg Value.bool g152)) (by decide) ?_
          refine U.p rfl rfl (.inr ⟨_, _, _, rfl, rfl, ((L 7 rfl rfl).trans (congrArg Value.bool g145))⟩) (S.pickF rfl ((L 3 rfl rfl).trans (congrArg Value.bool g152)) K) ?_
          exact kk [(63, .bool false), (62, .tuple #[]), (61, .tuple #[]), (60, .tuple #[])] _ ⟨.tuple #[], .tuple #[], .tuple #[], rfl, (by rw [g152, Bool.false_and])⟩
     ·intro kk
      refine bcase (b := decide (p0.op = 10)) (fun g153 => ?_) (fun g153 => ?_)
      ·skip
       refine U.p (v := .pointer (some ⟨b1, 1, none⟩)) rfl rfl (.inr ⟨_, _, _, rfl, rfl, ((L 0 rfl rfl).trans (congrArg Value.bool g153))⟩) (S.fieldAddr rfl (L 39 rfl rfl) Tryd.underlying25 rfl ti3 rfl rfl) ?_
       refine U.k rfl rfl (.inr ⟨_, _, _, rfl, rfl, ((L 1 rfl rfl).trans (congrArg Value.bool g153))⟩) (S.load rfl (L 0 rfl rfl) Tryd.underlying3 rfl ((ow57.own (k := 1) rfl).cell rfl)) nd ?_
       refine U.p rfl rfl (.inr ⟨_, _, _, rfl, rfl, ((L 2 rfl rfl).trans (congrArg Value.bool g153))⟩) (S.neqI rfl (L 0 rfl rfl) K) ?_
       refine U.p rfl rfl (.inr ⟨_, _, _, rfl, rfl, ((L 3 rfl rfl).trans (congrArg Value.bool g153))⟩) (S.move rfl (L 0 rfl rfl)) ?_
       refine U.joinX 12 (fun e H => ∃ (u154 u155 u156 : Value), H = V55.H ∧ e = [(48, .bool ((decide (p0.d ≠ 4)) && (decide (p0.d ≠ 12)))), (47, u154), (46, u155), (45, u156)]) ?_ ?_
       ·rintro _ _ ⟨u154, u155, u156, rfl, rfl⟩
        refine U.p rfl rfl (.inr ⟨_, _, _, rfl, rfl, ((L 8 rfl rfl).trans (congrArg Value.bool g153))⟩) (S.move rfl (L 0 rfl rfl)) ?_
        refine U.joinX 17 (fun e H => ∃ (u160 u161 u162 : Value), H = V55.H ∧ e = [(53, .bool (((decide (p0.d ≠ 4)) && (decide (p0.d ≠ 12))) || (decide (2 < p0.a)))), (52, u160), (51, u161), (50, u162)]) ?_ ?_
        ·rintro _ _ ⟨u160, u161, u162, rfl, rfl⟩
         refine U.p rfl rfl (.inl rfl) (S.pickT rfl ((L 13 rfl rfl).trans (congrArg Value.bool g153)) (L 0 rfl rfl)) ?_
         exact kk [(54, .bool (((decide (p0.d ≠ 4)) && (decide (p0.d ≠ 12))) || (decide (2 < p0.a)))), (53, .bool (((decide (p0.d ≠ 4)) && (decide (p0.d ≠ 12))) || (decide (2 < p0.a)))), (52, u160), (51, u161), (50, u162), (49, .bool ((decide (p0.d ≠ 4)) && (decide (p0.d ≠ 12)))), (48, .bool ((decide (p0.d ≠ 4)) && (decide (p0.d ≠ 12)))), (47, u154), (46, u155), (45, u156), (44, .bool (decide (p0.d ≠ 4))), (43, .bool (decide (p0.d ≠ 4))), (42, .int .i64 p0.d), (41, .pointer (some ⟨b1, 1, none⟩))] _ ⟨.bool (((decide (p0.d ≠ 4)) && (decide (p0.d ≠ 12))) || (decide (2 < p0.a))), u160, u161, u162, .bool ((decide (p0.d ≠ 4)) && (decide (p0.d ≠ 12))), .bool ((decide (p0.d ≠ 4)) && (decide (p0.d ≠ 12))), u154, u155, u156, .bool (decide (p0.d ≠ 4)), .bool (decide (p0.d ≠ 4)), .int .i64 p0.d, .pointer (some ⟨b1, 1, none⟩), rfl, (by rw [g153, Bool.true_and])⟩
        ·intro kk
         refine bcase (b := (decide (p0.d ≠ 4)) && (decide (p0.d ≠ 12))) (fun g166 => ?_) (fun g166 => ?_)
         ·skip
          refine U.x rfl rfl rfl rfl ((L 0 rfl rfl).trans (congrArg Value.bool g166)) (by decide) ?_
          refine U.x rfl rfl rfl rfl ((L 1 rfl rfl).trans (congrArg Value.bool g166)) (by decide) ?_
          refine U.x rfl rfl rfl rfl ((L 2 rfl rfl).trans (congrArg Value.bool g166)) (by decide) ?_
          refine U.p rfl rfl (.inr ⟨_, _, _, rfl, rfl, ((L 12 rfl rfl).trans (congrArg Value.bool g153))⟩) (S.pickT rfl ((L 3 rfl rfl).trans (congrArg Value.bool g166)) K) ?_
          exact kk [(53, .bool true), (52, .tuple #[]), (51, .tuple #[]), (50, .tuple #[])] _ ⟨.tuple #[], .tuple #[], .tuple #[], rfl, (by rw [g166, Bool.true_or])⟩
         ·skip
          refine U.p (v := .pointer (some ⟨b1, 2, none⟩)) rfl rfl (.inr ⟨_, _, _, rfl, rfl, ((L 0 rfl rfl).trans (congrArg Value.bool g166))⟩) (S.fieldAddr rfl (L 48 rfl rfl) Tryd.underlying25 rfl ti3 rfl rfl) ?_
          refine U.k rfl rfl (.inr ⟨_, _, _, rfl, rfl, ((L 1 rfl rfl).trans (congrArg Value.bool g166))⟩) (S.load rfl (L 0 rfl rfl) Tryd.underlying3 rfl ((ow57.own (k := 1) rfl).cell rfl)) nd ?_
          refine U.p rfl rfl (.inr ⟨_, _, _, rfl, rfl, ((L 2 rfl rfl).trans (congrArg Value.bool g166))⟩) (S.gtr rfl (L 0 rfl rfl) K) ?_
          refine U.p rfl rfl (.inr ⟨_, _, _, rfl, rfl, ((L 12 rfl rfl).trans (congrArg Value.bool g153))⟩) (S.pickF rfl ((L 3 rfl rfl).trans (congrArg Value.bool g166)) (L 0 rfl rfl)) ?_
          exact kk [(53, .bool (decide (2 < p0.a))), (52, .bool (decide (2 < p0.a))), (51, .int .i64 p0.a), (50, .pointer (some ⟨b1, 2, none⟩))] _ ⟨.bool (decide (2 < p0.a)), .int .i64 p0.a, .pointer (some ⟨b1, 2, none⟩), rfl, (by rw [g166, Bool.false_or])⟩
       ·intro kk
        refine bcase (b := decide (p0.d ≠ 4)) (fun g167 => ?_) (fun g167 => ?_)
        ·skip
         refine U.p (v := .pointer (some ⟨b1, 1, none⟩)) rfl rfl (.inr ⟨_, _, _, rfl, rfl, ((L 0 rfl rfl).trans (congrArg Value.bool g167))⟩) (S.fieldAddr rfl (L 43 rfl rfl) Tryd.underlying25 rfl ti3 rfl rfl) ?_
         refine U.k rfl rfl (.inr ⟨_, _, _, rfl, rfl, ((L 1 rfl rfl).trans (congrArg Value.bool g167))⟩) (S.load rfl (L 0 rfl rfl) Tryd.underlying3 rfl ((ow57.own (k := 1) rfl).cell rfl)) nd ?_
         refine U.p rfl rfl (.inr ⟨_, _, _, rfl, rfl, ((L 2 rfl rfl).trans (congrArg Value.bool g167))⟩) (S.neqI rfl (L 0 rfl rfl) K) ?_
         refine U.p rfl rfl (.inr ⟨_, _, _, rfl, rfl, ((L 7 rfl rfl).trans (congrArg Value.bool g153))⟩) (S.pickT rfl ((L 3 rfl rfl).trans (congrArg Value.bool g167)) (L 0 rfl rfl)) ?_
         exact kk [(48, .bool (decide (p0.d ≠ 12))), (47, .bool (decide (p0.d ≠ 12))), (46, .int .i64 p0.d), (45, .pointer (some ⟨b1, 1, none⟩))] _ ⟨.bool (decide (p0.d ≠ 12)), .int .i64 p0.d, .pointer (some ⟨b1, 1, none⟩), rfl, (by rw [g167, Bool.true_and])⟩
        ·skip
         refine U.x rfl rfl rfl rfl ((L 0 rfl rfl).trans (congrArg Value.bool g167)) (by decide) ?_
         refine U.x rfl rfl rfl rfl ((L 1 rfl rfl).trans (congrArg Value.bool g167)) (by decide) ?_
         refine U.x rfl rfl rfl rfl ((L 2 rfl rfl).trans (congrArg Value.bool g167)) (by decide) ?_
         refine U.p rfl rfl (.inr ⟨_, _, _, rfl, rfl, ((L 7 rfl rfl).trans (congrArg Value.bool g153))⟩) (S.pickF rfl ((L 3 rfl rfl).trans (congrArg Value.bool g167)) K) ?_
         exact kk [(48, .bool false), (47, .tuple #[]), (46, .tuple #[]), (45, .tuple #[])] _ ⟨.tuple #[], .tuple #[], .tuple #[], rfl, (by rw [g167, Bool.false_and])⟩
      ·skip
       refine U.x rfl rfl rfl rfl ((L 0 rfl rfl).trans (congrArg Value.bool g153)) (by decide) ?_
       refine U.x rfl rfl rfl rfl ((L 1 rfl rfl).trans (congrArg Value.bool g153)) (by decide) ?_
       refine U.x rfl rfl rfl rfl ((L 2 rfl rfl).trans (congrArg Value.bool g153)) (by decide) ?_
       refine U.x rfl rfl rfl rfl ((L 3 rfl rfl).trans (congrArg Value.bool g153)) (by decide) ?_
       refine U.z rfl rfl rfl rfl (L 0 rfl rfl) ?_
       refine U.z rfl rfl rfl rfl (L 1 rfl rfl) ?_
       refine U.z rfl rfl rfl rfl (L 2 rfl rfl) ?_
       refine U.x rfl rfl rfl rfl ((L 7 rfl rfl).trans (congrArg Value.bool g153)) (by decide) ?_
       refine U.x rfl rfl rfl rfl ((L 8 rfl rfl).trans (congrArg Value.bool g153)) (by decide) ?_
       refine U.z rfl rfl rfl rfl (L 0 rfl rfl) ?_
       refine U.z rfl rfl rfl rfl (L 1 rfl rfl) ?_
       refine U.z rfl rfl rfl rfl (L 2 rfl rfl) ?_
       refine U.x rfl rfl rfl rfl ((L 12 rfl rfl).trans (congrArg Value.bool g153)) (by decide) ?_
       refine U.p rfl rfl (.inl rfl) (S.pickF rfl ((L 13 rfl rfl).trans (congrArg Value.bool g153)) K) ?_
       exact kk [(54, .bool false), (53, .tuple #[]), (52, .tuple #[]), (51, .tuple #[]), (50, .tuple #[]), (49, .tuple #[]), (48, .tuple #[]), (47, .tuple #[]), (46, .tuple #[]), (45, .tuple #[]), (44, .tuple #[]), (43, .tuple #[]), (42, .tuple #[]), (41, .tuple #[])] _ ⟨.tuple #[], .tuple #[], .tuple #[], .tuple #[], .tuple #[], .tuple #[], .tuple #[], .tuple #[], .tuple #[], .tuple #[], .tuple #[], .tuple #[], .tuple #[], rfl, (by rw [g153, Bool.false_and])⟩
   ·intro kk
    refine bcase (b := y34) (fun g168 => ?_) (fun g168 => ?_)
    ·have h169 := ifT g168 hy47
     refine U.x rfl rfl rfl rfl ((L 0 rfl rfl).trans (congrArg Value.bool g168)) (by decide) ?_
     refine U.x rfl rfl rfl rfl ((L 1 rfl rfl).trans (congrArg Value.bool g168)) (by decide) ?_
     refine U.x rfl rfl rfl rfl ((L 2 rfl rfl).trans (congrArg Value.bool g168)) (by decide) ?_
     refine U.x rfl rfl rfl rfl ((L 3 rfl rfl).trans (congrArg Value.bool g168)) (by decide) ?_
     refine U.x rfl rfl rfl rfl ((L 4 rfl rfl).trans (congrArg Value.bool g168)) (by decide) ?_
     refine U.x rfl rfl rfl rfl ((L 5 rfl rfl).trans (congrArg Value.bool g168)) (by decide) ?_
     refine U.p rfl rfl (.inl rfl) (S.pickT rfl ((L 6 rfl rfl).trans (congrArg Value.bool g168)) K) ?_
     have e170 := Option.some.inj h169
     subst e170
     exact kk [(36, .bool true), (35, .tuple #[]), (34, .tuple #[]), (33, .tuple #[]), (32, .tuple #[]), (31, .tuple #[]), (30, .tuple #[])] _ ⟨.tuple #[], .tuple #[], .tuple #[], .tuple #[], .tuple #[], .tuple #[], V43, rfl, (.refl _), rfl, ow45⟩
    ·have h171 := ifF g168 hy47
     refine U.p (v := .pointer (some ⟨b14, 3, none⟩)) rfl rfl (.inr ⟨_, _, _, rfl, rfl, ((L 0 rfl rfl).trans (congrArg Value.bool g168))⟩) (S.fieldAddr rfl (L 20 rfl rfl) Tryd.underlying37 rfl ti4 rfl rfl) ?_
     refine U.k rfl rfl (.inr ⟨_, _, _, rfl, rfl, ((L 1 rfl rfl).trans (congrArg Value.bool g168))⟩) (S.load rfl (L 0 rfl rfl) Tryd.underlying4 rfl ((ow45.own (k := 0) rfl).cell rfl)) nd ?_
     refine U.p (v := .pointer (some ⟨b1, 3, none⟩)) rfl rfl (.inr ⟨_, _, _, rfl, rfl, ((L 2 rfl rfl).trans (congrArg Value.bool g168))⟩) (S.fieldAddr rfl (L 30 rfl rfl) Tryd.underlying25 rfl ti3 rfl rfl) ?_
     refine U.k rfl rfl (.inr ⟨_, _, _, rfl, rfl, ((L 3 rfl rfl).trans (congrArg Value.bool g168))⟩) (S.load rfl (L 0 rfl rfl) Tryd.underlying3 rfl ((ow45.own (k := 1) rfl).cell rfl)) nd ?_
     obtain ⟨x172, hx173, h174⟩ := bindS h171
     refine O.call (V := V43) rfl rfl (.inr ⟨_, _, _, rfl, rfl, ((L 4 rfl rfl).trans (congrArg Value.bool g168))⟩) rfl en32 (aC (L 2 rfl rfl) (aC (L 0 rfl rfl) aN)) (wk_ref02_number V43 _ (gl.up (((((le3.trans le11).trans le16).trans le20).trans le32).trans le44)) x6.1.b p0.b ow45 _ hx173) (fun _ _ _ _ => nd) (fun v175 V176 le177 hp178 => ?_)
     obtain ⟨rfl, ow179⟩ := hp178
     refine U.p rfl rfl (.inr ⟨_, _, _, rfl, rfl, ((L 5 rfl rfl).trans (congrArg Value.bool g168))⟩) (S.not rfl (L 0 rfl rfl)) ?_
     refine U.p rfl rfl (.inl rfl) (S.pickF rfl ((L 6 rfl rfl).trans (congrArg Value.bool g168)) (L 0 rfl rfl)) ?_
     have e180 := Option.some.inj h174
     subst e180
     exact kk [(36, .bool (!x172)), (35, .bool (!x172)), (34, .bool x172), (33, .int .i64 p0.b), (32, .pointer (some ⟨b1, 3, none⟩)), (31, .bool x6.1.b), (30, .pointer (some ⟨b14, 3, none⟩))] _ ⟨.bool (!x172), .bool x172, .int .i64 p0.b, .pointer (some ⟨b1, 3, none⟩), .bool x6.1.b, .pointer (some ⟨b14, 3, none⟩), V176, rfl, le177, rfl, ow179⟩
  ·intro kk
   refine bcase (b := y22) (fun g181 => ?_) (fun g181 => ?_)
   ·have h182 := ifT g181 hy35
    refine U.x rfl rfl rfl rfl ((L 0 rfl rfl).trans (congrArg Value.bool g181)) (by decide) ?_
    refine U.x rfl rfl rfl rfl ((L 1 rfl rfl).trans (congrArg Value.bool g181)) (by decide) ?_
    refine U.x rfl rfl rfl rfl ((L 2 rfl rfl).trans (congrArg Value.bool g181)) (by decide) ?_
    refine U.x rfl rfl rfl rfl ((L 3 rfl rfl).trans (congrArg Value.bool g181)) (by decide) ?_
    refine U.x rfl rfl rfl rfl ((L 4 rfl rfl).trans (congrArg Value.bool g181)) (by decide) ?_
    refine U.x rfl rfl rfl rfl ((L 5 rfl rfl).trans (congrArg Value.bool g181)) (by decide) ?_
    refine U.p rfl rfl (.inl rfl) (S.pickT rfl ((L 6 rfl rfl).trans (congrArg Value.bool g181)) K) ?_
    have e183 := Option.some.inj h182
    subst e183
    exact kk [(28, .bool true), (27, .tuple #[]), (26, .tuple #[]), (25, .tuple #[]), (24, .tuple #[]), (23, .tuple #[]), (22, .tuple #[])] _ ⟨.tuple #[], .tuple #[], .tuple #[], .tuple #[], .tuple #[], .tuple #[], V31, rfl, (.refl _), rfl, ow33⟩
   ·have h184 := ifF g181 hy35
    refine U.p (v := .pointer (some ⟨b14, 2, none⟩)) rfl rfl (.inr ⟨_, _, _, rfl, rfl, ((L 0 rfl rfl).trans (congrArg Value.bool g181))⟩) (S.fieldAddr rfl (L 12 rfl rfl) Tryd.underlying37 rfl ti4 rfl rfl) ?_
    refine U.k rfl rfl (.inr ⟨_, _, _, rfl, rfl, ((L 1 rfl rfl).trans (congrArg Value.bool g181))⟩) (S.load rfl (L 0 rfl rfl) Tryd.underlying4 rfl ((ow33.own (k := 0) rfl).cell rfl)) nd ?_
    refine U.p (v := .pointer (some ⟨b1, 2, none⟩)) rfl rfl (.inr ⟨_, _, _, rfl, rfl, ((L 2 rfl rfl).trans (congrArg Value.bool g181))⟩) (S.fieldAddr rfl (L 22 rfl rfl) Tryd.underlying25 rfl ti3 rfl rfl) ?_
    refine U.k rfl rfl (.inr ⟨_, _, _, rfl, rfl, ((L 3 rfl rfl).trans (congrArg Value.bool g181))⟩) (S.load rfl (L 0 rfl rfl) Tryd.underlying3 rfl ((ow33.own (k := 1) rfl).cell rfl)) nd ?_
    obtain ⟨x185, hx186, h187⟩ := bindS h184
    refine O.call (V := V31) rfl rfl (.inr ⟨_, _, _, rfl, rfl, ((L 4 rfl rfl).trans (congrArg Value.bool g181))⟩) rfl en32 (aC (L 2 rfl rfl) (aC (L 0 rfl rfl) aN)) (wk_ref02_number V31 _ (gl.up ((((le3.trans le11).trans le16).trans le20).trans le32)) x6.1.a p0.a ow33 _ hx186) (fun _ _ _ _ => nd) (fun v188 V189 le190 hp191 => ?_)
    obtain ⟨rfl, ow192⟩ := hp191
    refine U.p rfl rfl (.inr ⟨_, _, _, rfl, rfl, ((L 5 rfl rfl).trans (congrArg Value.bool g181))⟩) (S.not rfl (L 0 rfl rfl)) ?_
    refine U.p rfl rfl (.inl rfl) (S.pickF rfl ((L 6 rfl rfl).trans (congrArg Value.bool g181)) (L 0 rfl rfl)) ?_
    have e193 := Option.some.inj h187
    subst e193
    exact kk [(28, .bool (!x185)), (27, .bool (!x185)), (26, .bool x185), (25, .int .i64 p0.a), (24, .pointer (some ⟨b1, 2, none⟩)), (23, .bool x6.1.a), (22, .pointer (some ⟨b14, 2, none⟩))] _ ⟨.bool (!x185), .bool x185, .int .i64 p0.a, .pointer (some ⟨b1, 2, none⟩), .bool x6.1.a, .pointer (some ⟨b14, 2, none⟩), V189, rfl, le190, rfl, ow192⟩
 ·intro kk
  refine bcase (b := !x6.2) (fun g194 => ?_) (fun g194 => ?_)
  ·have h195 := ifT g194 hy23
   have k196 : x6.2 = false := nT g194
   refine U.x rfl rfl rfl rfl ((L 0 rfl rfl).trans (congrArg Value.bool g194)) (by decide) ?_
   refine U.x rfl rfl rfl rfl ((L 1 rfl rfl).trans (congrArg Value.bool g194)) (by decide) ?_
   refine U.x rfl rfl rfl rfl ((L 2 rfl rfl).trans (congrArg Value.bool g194)) (by decide) ?_
   refine U.x rfl rfl rfl rfl ((L 3 rfl rfl).trans (congrArg Value.bool g194)) (by decide) ?_
   refine U.x rfl rfl rfl rfl ((L 4 rfl rfl).trans (congrArg Value.bool g194)) (by decide) ?_
   refine U.x rfl rfl rfl rfl ((L 5 rfl rfl).trans (congrArg Value.bool g194)) (by decide) ?_
   refine U.p rfl rfl (.inl rfl) (S.pickT rfl ((L 6 rfl rfl).trans (congrArg Value.bool g194)) K) ?_
   have e197 := Option.some.inj h195
   subst e197
   exact kk [(20, .bool true), (19, .tuple #[]), (18, .tuple #[]), (17, .tuple #[]), (16, .tuple #[]), (15, .tuple #[]), (14, .tuple #[])] _ ⟨.tuple #[], .tuple #[], .tuple #[], .tuple #[], .tuple #[], .tuple #[], V19, rfl, (.refl _), rfl, ow21⟩
  ·have h198 := ifF g194 hy23
   have k199 : x6.2 = true := nF g194
   refine U.p (v := .pointer (some ⟨b14, 1, none⟩)) rfl rfl (.inr ⟨_, _, _, rfl, rfl, ((L 0 rfl rfl).trans (congrArg Value.bool g194))⟩) (S.fieldAddr rfl (L 4 rfl rfl) Tryd.underlying37 rfl ti4 rfl rfl) ?_
   refine U.k rfl rfl (.inr ⟨_, _, _, rfl, rfl, ((L 1 rfl rfl).trans (congrArg Value.bool g194))⟩) (S.load rfl (L 0 rfl rfl) Tryd.underlying4 rfl ((ow21.own (k := 0) rfl).cell rfl)) nd ?_
   refine U.p (v := .pointer (some ⟨b1, 1, none⟩)) rfl rfl (.inr ⟨_, _, _, rfl, rfl, ((L 2 rfl rfl).trans (congrArg Value.bool g194))⟩) (S.fieldAddr rfl (L 14 rfl rfl) Tryd.underlying25 rfl ti3 rfl rfl) ?_
   refine U.k rfl rfl (.inr ⟨_, _, _, rfl, rfl, ((L 3 rfl rfl).trans (congrArg Value.bool g194))⟩) (S.load rfl (L 0 rfl rfl) Tryd.underlying3 rfl ((ow21.own (k := 1) rfl).cell rfl)) nd ?_
   obtain ⟨x200, hx201, h202⟩ := bindS h198
   refine O.call (V := V19) rfl rfl (.inr ⟨_, _, _, rfl, rfl, ((L 4 rfl rfl).trans (congrArg Value.bool g194))⟩) rfl en32 (aC (L 2 rfl rfl) (aC (L 0 rfl rfl) aN)) (wk_ref02_number V19 _ (gl.up (((le3.trans le11).trans le16).trans le20)) x6.1.d p0.d ow21 _ hx201) (fun _ _ _ _ => nd) (fun v203 V204 le205 hp206 => ?_)
   obtain ⟨rfl, ow207⟩ := hp206
   refine U.p rfl rfl (.inr ⟨_, _, _, rfl, rfl, ((L 5 rfl rfl).trans (congrArg Value.bool g194))⟩) (S.not rfl (L 0 rfl rfl)) ?_
   refine U.p rfl rfl (.inl rfl) (S.pickF rfl ((L 6 rfl rfl).trans (congrArg Value.bool g194)) (L 0 rfl rfl)) ?_
   have e208 := Option.some.inj h202
   subst e208
   exact kk [(20, .bool (!x200)), (19, .bool (!x200)), (18, .bool x200), (17, .int .i64 p0.d), (16, .pointer (some ⟨b1, 1, none⟩)), (15, .bool x6.1.d), (14, .pointer (some ⟨b14, 1, none⟩))] _ ⟨.bool (!x200), .bool x200, .int .i64 p0.d, .pointer (some ⟨b1, 1, none⟩), .bool x6.1.d, .pointer (some ⟨b14, 1, none⟩), V204, rfl, le205, rfl, ow207⟩
set_option maxHeartbeats 4000000 in
set_option maxRecDepth 10000 in
theorem wk_ref02_Encode (V : Vw) (Rs : List At) (gl : Glb V) (p0 : TInst) (ow : Ow V (Rs)) (r : Int) (h : ref02_Encode p0 = some r) : ∃ v V', Cl Tryd.prog NG 23 #[.agg #[.int .i64 p0.op, .int .i64 p0.d, .int .i64 p0.a, .int .i64 p0.b, .int .i64 p0.imm]] V.H v V'.H ∧ V.le V' ∧ (v = .int .u32 r ∧ Ow V' (Rs)) := by
 refine Ct.of gl.lo Tryd.func23 rfl (nr rfl) ?_
 unfold ref02_Encode at h
 refine WP.usreg rfl ?_
 refine O.box ow rfl rfl (.inl rfl) rfl (L 0 rfl rfl) (by simp [topV]) rfl nd (fun b1 V2 le3 ow4 => ?_)
 refine U.p rfl rfl (.inl rfl) (S.assign rfl K) ?_
 refine U.done (nr rfl) ?_
 refine WP.usreg rfl ?_
 refine U.p (v := .pointer (some ⟨b1, 0, none⟩)) rfl rfl (.inl rfl) (S.fieldAddr rfl (L 1 rfl rfl) Tryd.underlying25 rfl ti3 rfl rfl) ?_
 refine U.k rfl rfl (.inl rfl) (S.load rfl (L 0 rfl rfl) Tryd.underlying3 rfl ((ow4.own (k := 0) rfl).cell rfl)) nd ?_
 obtain ⟨x6, hx7, h8⟩ := bindS h
 refine O.call (V := V2) rfl rfl (.inl rfl) rfl en15 (aC (L 0 rfl rfl) aN) (wk_ref02_Of V2 _ (gl.up le3) p0.op ow4 _ hx7) (fun _ _ _ _ => nd) (fun v9 V10 le11 hp12 => ?_)
 obtain ⟨rfl, ow13⟩ := hp12
 refine U.p rfl rfl (.inl rfl) (S.move rfl (L 0 rfl rfl)) ?_
 refine U.p rfl rfl (.inl rfl) (S.extract rfl (L 0 rfl rfl) rfl (nr rfl)) ?_
 refine U.p rfl rfl (.inl rfl) (S.extract rfl (L 1 rfl rfl) rfl (nr rfl)) ?_
 refine O.alloc ow13 rfl rfl (.inl rfl) rfl ti37 rfl rfl nd (fun b14 V15 le16 ow17 => ?_)
 refine O.store (k := 0) (cs := [.string x6.1.name, .bool x6.1.d, .bool x6.1.a, .bool x6.1.b, .int .i64 x6.1.imm, .int .u32 x6.1.word]) (c' := [.string x6.1.name, .bool x6.1.d, .bool x6.1.a, .bool x6.1.b, .int .i64 x6.1.imm, .int .u32 x6.1.word]) ow17 rfl rfl rfl (.inl rfl) rfl (L 0 rfl rfl) (L 2 rfl rfl) ti37 (by simp [topV]) rfl rfl (nr rfl) rfl rfl nd (fun V19 le20 ow21 => ?_)
 refine U.p rfl rfl (.inl rfl) (S.assign rfl (L 1 rfl rfl)) ?_
 refine U.done (nr rfl) ?_
 refine WP.usreg rfl ?_
 refine U.p (v := .pointer (some ⟨b14, 5, none⟩)) rfl rfl (.inl rfl) (S.fieldAddr rfl (L 1 rfl rfl) Tryd.underlying37 rfl ti22 rfl rfl) ?_
 refine U.k rfl rfl (.inl rfl) (S.load rfl (L 0 rfl rfl) Tryd.underlying22 rfl ((ow21.own (k := 0) rfl).cell rfl)) nd ?_
 refine U.p rfl rfl (.inl rfl) (S.assign rfl (L 0 rfl rfl)) ?_
 refine U.done (nr rfl) ?_
 refine WP.usreg rfl ?_
 refine U.p rfl rfl (.inl rfl) (S.move rfl (L 0 rfl rfl)) ?_
 refine U.p (v := .pointer (some ⟨b1, 1, none⟩)) rfl rfl (.inl rfl) (S.fieldAddr rfl (L 13 rfl rfl) Tryd.underlying25 rfl ti3 rfl rfl) ?_
 refine U.k rfl rfl (.inl rfl) (S.load rfl (L 0 rfl rfl) Tryd.underlying3 rfl ((ow21.own (k := 1) rfl).cell rfl)) nd ?_
 refine U.p rfl rfl (.inl rfl) (S.conv rfl (L 0 rfl rfl) Tryd.underlying3 Tryd.underlying22) ?_
 refine U.p rfl rfl (.inl rfl) (S.mul rfl (L 0 rfl rfl) K) ?_
 refine U.p rfl rfl (.inl rfl) (S.add rfl (L 4 rfl rfl) (L 0 rfl rfl)) ?_
 refine U.p (v := .pointer (some ⟨b1, 2, none⟩)) rfl rfl (.inl rfl) (S.fieldAddr rfl (L 18 rfl rfl) Tryd.underlying25 rfl ti3 rfl rfl) ?_
 refine U.k rfl rfl (.inl rfl) (S.load rfl (L 0 rfl rfl) Tryd.underlying3 rfl ((ow21.own (k := 1) rfl).cell rfl)) nd ?_
 refine U.p rfl rfl (.inl rfl) (S.conv rfl (L 0 rfl rfl) Tryd.underlying3 Tryd.underlying22) ?_
 refine U.p rfl rfl (.inl rfl) (S.mul rfl (L 0 rfl rfl) K) ?_
 refine U.p rfl rfl (.inl rfl) (S.add rfl (L 4 rfl rfl) (L 0 rfl rfl)) ?_
 refine U.p (v := .pointer (some ⟨b1, 3, none⟩)) rfl rfl (.inl rfl) (S.fieldAddr rfl (L 23 rfl rfl) Tryd.underlying25 rfl ti3 rfl rfl) ?_
 refine U.k rfl rfl (.inl rfl) (S.load rfl (L 0 rfl rfl) Tryd.underlying3 rfl ((ow21.own (k := 1) rfl).cell rfl)) nd ?_
 refine U.p rfl rfl (.inl rfl) (S.conv rfl (L 0 rfl rfl) Tryd.underlying3 Tryd.underlying22) ?_
 refine U.p rfl rfl (.inl rfl) (S.mul rfl (L 0 rfl rfl) K) ?_
 refine U.p rfl rfl (.inl rfl) (S.add rfl (L 4 rfl rfl) (L 0 rfl rfl)) ?_
 refine U.p rfl rfl (.inl rfl) (S.assign rfl (L 0 rfl rfl)) ?_
 refine U.done (nr rfl) ?_
 refine WP.seqI (fun l V' => ∃ (x22 : Int), l = [(5, .int .u32 x22)] ∧ V19.le V' ∧ Ow V' (Rs) ∧ ref02_Encode_k1 x22 = some r) ?_ ?_
 ·rintro _ V23 ⟨x22, rfl, le24, ow25, h26⟩
  unfold ref02_Encode_k1 at h26
  refine WP.usreg rfl ?_
  refine U.p rfl rfl (.inl rfl) (S.move rfl (L 0 rfl rfl)) ?_
  refine U.p rfl rfl (.inl rfl) (S.assign rfl (L 0 rfl rfl)) ?_
  refine U.done (nr rfl) ?_
  refine WP.ret ?_
  refine fin.slot (.inr rfl) rfl (L 0 rfl rfl) ⟨V23, rfl, ((((le3.trans le11).trans le16).trans le20).trans le24), ?_⟩
  have e27 := Option.some.inj h26
  subst e27
  exact ⟨rfl, ow25⟩
 ·skip
  refine WP.usreg rfl ?_
  refine U.p (v := .pointer (some ⟨b14, 4, none⟩)) rfl rfl (.inl rfl) (S.fieldAddr rfl (L 21 rfl rfl) Tryd.underlying37 rfl ti3 rfl rfl) ?_
  refine U.k rfl rfl (.inl rfl) (S.load rfl (L 0 rfl rfl) Tryd.underlying3 rfl ((ow21.own (k := 0) rfl).cell rfl)) nd ?_
  refine U.done (nr rfl) ?_
  refine WP.blk ?_
  refine WP.seqI (fun l V' => ∃ (x28 : Bool), l = [(1, .pointer (some ⟨b1, 0, none⟩)), (5, .int .u32 (IntKind.wrap .u32 ((IntKind.wrap .u32 ((IntKind.wrap .u32 (x6.1.word + (IntKind.wrap .u32 ((IntKind.wrap .u32 p0.d) * 2097152)))) + (IntKind.wrap .u32 ((IntKind.wrap .u32 p0.a) * 65536)))) + (IntKind.wrap .u32 ((IntKind.wrap .u32 p0.b) * 2048))))), (31, .int .i64 x6.1.imm), (32, .bool x28)] ∧ V19.le V' ∧ Ow V' (.pt b1 (.cells 0 [.int .i64 p0.op, .int .i64 p0.d, .int .i64 p0.a, .int .i64 p0.b, .int .i64 p0.imm]) :: Rs) ∧ ref02_Encode_k2 p0 x6 x28 = some r) ?_ ?_
  ·rintro _ V29 ⟨x28, rfl, le30, ow31, h32⟩
   unfold ref02_Encode_k2 at h32
   refine WP.cond _ (L 3 rfl rfl) rfl (fun c33 => ?_) (fun c33 => ?_)
   ·have h34 := ifT c33 h32
    refine WP.ureg rfl ?_
    refine U.p rfl rfl (.inl rfl) (S.move rfl (L 1 rfl rfl)) ?_
    refine U.p (v := .pointer (some ⟨b1, 4, none⟩)) rfl rfl (.inl rfl) (S.fieldAddr rfl (L 1 rfl rfl) Tryd.underlying25 rfl ti3 rfl rfl) ?_
    refine U.k rfl rfl (.inl rfl) (S.load rfl (L 0 rfl rfl) Tryd.underlying3 rfl ((ow31.own (k := 0) rfl).cell rfl)) nd ?_
    refine U.p rfl rfl (.inl rfl) (S.add rfl (L 0 rfl rfl) K) ?_
    obtain ⟨x35, hx36, h37⟩ := bindS h34
    refine U.p rfl rfl (.inl rfl) (S.rem hx36 rfl (L 0 rfl rfl) K) ?_
    refine U.p rfl rfl (.inl rfl) (S.conv rfl (L 0 rfl rfl) Tryd.underlying3 Tryd.underlying22) ?_
    refine U.p rfl rfl (.inl rfl) (S.add rfl (L 5 rfl rfl) (L 0 rfl rfl)) ?_
    refine U.p rfl rfl (.inl rfl) (S.assign rfl (L 0 rfl rfl)) ?_
    refine U.done (nr rfl) ?_
    refine blkN (sqN ?_)
    have ow38 := ow31.drop 0 rfl
    exact ⟨_, V29, rfl, ⟨IntKind.wrap .u32 ((IntKind.wrap .u32 ((IntKind.wrap .u32 ((IntKind.wrap .u32 (x6.1.word + (IntKind.wrap .u32 ((IntKind.wrap .u32 p0.d) * 2097152)))) + (IntKind.wrap .u32 ((IntKind.wrap .u32 p0.a) * 65536)))) + (IntKind.wrap .u32 ((IntKind.wrap .u32 p0.b) * 2048)))) + (IntKind.wrap .u32 x35)), rfl, le30, ow38, h37⟩, (allCons (L 0 rfl rfl) allNil)⟩
   ·have h39 := ifF c33 h32
    refine WP.usreg rfl ?_
    refine U.p rfl rfl (.inl rfl) (S.eqlI rfl (L 2 rfl rfl) K) ?_
    refine U.p rfl rfl (.inl rfl) (S.assign rfl (L 0 rfl rfl)) ?_
    refine U.done (nr rfl) ?_
    refine WP.cond _ (L 0 rfl rfl) rfl (fun c40 => ?_) (fun c40 => ?_)
    ·have h41 := ifT c40 h39
     refine WP.ureg rfl ?_
     refine U.p rfl rfl (.inl rfl) (S.move rfl (L 3 rfl rfl)) ?_
     refine U.p (v := .pointer (some ⟨b1, 4, none⟩)) rfl rfl (.inl rfl) (S.fieldAddr rfl (L 3 rfl rfl) Tryd.underlying25 rfl ti3 rfl rfl) ?_
     refine U.k rfl rfl (.inl rfl) (S.load rfl (L 0 rfl rfl) Tryd.underlying3 rfl ((ow31.own (k := 0) rfl).cell rfl)) nd ?_
     refine U.p rfl rfl (.inl rfl) (S.mul rfl K (L 0 rfl rfl)) ?_
     refine U.p rfl rfl (.inl rfl) (S.add rfl (L 0 rfl rfl) K) ?_
     obtain ⟨x42, hx43, h44⟩ := bindS h41
     refine U.p rfl rfl (.inl rfl) (S.rem hx43 rfl (L 0 rfl rfl) K) ?_
     refine U.p rfl rfl (.inl rfl) (S.conv rfl (L 0 rfl rfl) Tryd.underlying3 Tryd.underlying22) ?_
     refine U.p rfl rfl (.inl rfl) (S.add rfl (L 6 rfl rfl) (L 0 rfl rfl)) ?_
     refine U.p rfl rfl (.inl rfl) (S.assign rfl (L 0 rfl rfl)) ?_
     refine U.done (nr rfl) ?_
     refine blkN (sqN ?_)
     have ow45 := ow31.drop 0 rfl
     exact ⟨_, V29, rfl, ⟨IntKind.wrap .u32 ((IntKind.wrap .u32 ((IntKind.wrap .u32 ((IntKind.wrap .u32 (x6.1.word + (IntKind.wrap .u32 ((IntKind.wrap .u32 p0.d) * 2097152)))) + (IntKind.wrap .u32 ((IntKind.wrap .u32 p0.a) * 65536)))) + (IntKind.wrap .u32 ((IntKind.wrap .u32 p0.b) * 2048)))) + (IntKind.wrap .u32 x42)), rfl, le30, ow45, h44⟩, (allCons (L 0 rfl rfl) allNil)⟩
    ·have h46 := ifF c40 h39
     refine WP.usreg rfl ?_
     refine U.p rfl rfl (.inl rfl) (S.eqlI rfl (L 4 rfl rfl) K) ?_
     refine U.p rfl rfl (.inl rfl) (S.assign rfl (L 0 rfl rfl)) ?_
     refine U.done (nr rfl) ?_
     refine WP.cond _ (L 0 rfl rfl) rfl (fun c47 => ?_) (fun c47 => ?_)
     ·have h48 := ifT c47 h46
      refine WP.ureg rfl ?_
      refine U.p rfl rfl (.inl rfl) (S.move rfl (L 5 rfl rfl)) ?_
      refine U.p (v := .pointer (some ⟨b1, 4, none⟩)) rfl rfl (.inl rfl) (S.fieldAddr rfl (L 5 rfl rfl) Tryd.underlying25 rfl ti3 rfl rfl) ?_
      refine U.k rfl rfl (.inl rfl) (S.load rfl (L 0 rfl rfl) Tryd.underlying3 rfl ((ow31.own (k := 0) rfl).cell rfl)) nd ?_
      refine U.p rfl rfl (.inl rfl) (S.mul rfl K (L 0 rfl rfl)) ?_
      refine U.p rfl rfl (.inl rfl) (S.add rfl (L 0 rfl rfl) K) ?_
      obtain ⟨x49, hx50, h51⟩ := bindS h48
      refine U.p rfl rfl (.inl rfl) (S.rem hx50 rfl (L 0 rfl rfl) K) ?_
      refine U.p rfl rfl (.inl rfl) (S.conv rfl (L 0 rfl rfl) Tryd.underlying3 Tryd.underlying22) ?_
      refine U.p rfl rfl (.inl rfl) (S.add rfl (L 6 rfl rfl) (L 0 rfl rfl)) ?_
      refine U.p rfl rfl (.inl rfl) (S.assign rfl (L 0 rfl rfl)) ?_
      refine U.done (nr rfl) ?_
      refine blkN (sqN ?_)
      have ow52 := ow31.drop 0 rfl
      exact ⟨_, V29, rfl, ⟨IntKind.wrap .u32 ((IntKind.wrap .u32 ((IntKind.wrap .u32 ((IntKind.wrap .u32 (x6.1.word + (IntKind.wrap .u32 ((IntKind.wrap .u32 p0.d) * 2097152)))) + (IntKind.wrap .u32 ((IntKind.wrap .u32 p0.a) * 65536)))) + (IntKind.wrap .u32 ((IntKind.wrap .u32 p0.b) * 2048)))) + (IntKind.wrap .u32 x49)), rfl, le30, ow52, h51⟩, (allCons (L 0 rfl rfl) allNil)⟩
     ·have h53 := ifF c47 h46
      refine WP.skip ?_
      refine blkN (sqN ?_)
      have ow54 := ow31.drop 0 rfl
      exact ⟨_, V29, rfl, ⟨IntKind.wrap .u32 ((IntKind.wrap .u32 ((IntKind.wrap .u32 (x6.1.word + (IntKind.wrap .u32 ((IntKind.wrap .u32 p0.d) * 2097152)))) + (IntKind.wrap .u32 ((IntKind.wrap .u32 p0.a) * 65536)))) + (IntKind.wrap .u32 ((IntKind.wrap .u32 p0.b) * 2048))), rfl, le30, ow54, h53⟩, (allCons (L 5 rfl rfl) allNil)⟩
  ·skip
   refine WP.usreg rfl ?_
   refine U.p rfl rfl (.inl rfl) (S.eqlI rfl (L 0 rfl rfl) K) ?_
   refine U.p rfl rfl (.inl rfl) (S.assign rfl (L 0 rfl rfl)) ?_
   refine U.done (nr rfl) ?_
   refine WP.cond _ (L 0 rfl rfl) rfl (fun c55 => ?_) (fun c55 => ?_)
   ·have h56 := ifT c55 h8
    refine WP.skip ?_
    refine sqN ?_
    have ow57 := ow21.drop 0 rfl
    exact ⟨_, V19, rfl, ⟨true, rfl, (.refl _), ow57, h56⟩, (allCons (L 33 rfl rfl) (allCons (L 4 rfl rfl) (allCons (L 2 rfl rfl) (allCons ((L 0 rfl rfl).trans (congrArg Value.bool c55)) allNil))))⟩
   ·have h58 := ifF c55 h8
    refine WP.ureg rfl ?_
    refine U.p rfl rfl (.inl rfl) (S.eqlI rfl (L 2 rfl rfl) K) ?_
    refine U.p rfl rfl (.inl rfl) (S.assign rfl (L 0 rfl rfl)) ?_
    refine U.done (nr rfl) ?_
    refine sqN ?_
    have ow59 := ow21.drop 0 rfl
    exact ⟨_, V19, rfl, ⟨decide (x6.1.imm = 16), rfl, (.refl _), ow59, h58⟩, (allCons (L 35 rfl rfl) (allCons (L 6 rfl rfl) (allCons (L 4 rfl rfl) (allCons (L 0 rfl rfl) allNil))))⟩
set_option maxHeartbeats 4000000 in
set_option maxRecDepth 10000 in
theorem wk_ref02_Decode (V : Vw) (Rs : List At) (gl : Glb V) (p0 : Int) (ow : Ow V (Rs)) (r : TInst × Bool) (h : ref02_Decode p0 = some r) : ∃ v V', Cl Tryd.prog NG 12 #[.int .u32 p0] V.H v V'.H ∧ V.le V' ∧ (v = .tuple #[.agg #[.int .i64 r.1.op, .int .i64 r.1.d, .int .i64 r.1.a, .int .i64 r.1.b, .int .i64 r.1.imm], .bool r.2] ∧ Ow V' (Rs)) := by
 refine Ct.of gl.lo Tryd.func12 rfl (nr rfl) ?_
 unfold ref02_Decode at h
 refine WP.usreg rfl ?_
 refine O.alloc ow rfl rfl (.inl rfl) rfl ti25 rfl rfl nd (fun b1 V2 le3 ow4 => ?_)
 refine U.p rfl rfl (.inl rfl) (S.assign rfl K) ?_
 refine U.done (nr rfl) ?_
 refine WP.seq ?_
 refine WP.usreg rfl ?_
 refine U.p rfl rfl (.inl rfl) (S.assign rfl K) ?_
 refine U.done (nr rfl) ?_
 refine WP.blk ?_
 unfold ref02_Decode_l1 at h
 obtain ⟨n8, hn7⟩ := loopO_some.1 h
 refine WP.loopI2 (fun n l V' => ∃ (x6 : Int), l = [(0, .int .u32 p0), (2, .pointer (some ⟨b1, 0, none⟩)), (4, .int .i64 x6)] ∧ V2.le V' ∧ Ow V' (.pt b1 (.cells 5 [.int .i64 0, .int .i64 0, .int .i64 0, .int .i64 0, .int .i64 0]) :: Rs) ∧ itO (fun s => ref02_Decode_l1b p0 s) n x6 = some r) n8 _ ⟨1, rfl, .refl _, ow4, hn7⟩ (allCons (L 3 rfl rfl) (allCons (L 2 rfl rfl) (allCons (L 0 rfl rfl) allNil))) ?_
 rintro _ _ V9 ⟨x6, rfl, le10, ow11, h15⟩
 obtain ⟨m12, q13, rfl, h16, e14⟩ := itS h15
 replace h16 : ref02_Decode_l1b p0 x6 = some q13 := h16
 unfold ref02_Decode_l1b at h16
 refine WP.seq ?_
 refine WP.usreg rfl ?_
 refine U.p rfl rfl (.inl rfl) (S.move rfl (L 2 rfl rfl)) ?_
 refine U.p rfl rfl (.inl rfl) (S.leq rfl (L 0 rfl rfl) K) ?_
 refine U.done (nr rfl) ?_
 refine WP.cond _ (L 0 rfl rfl) rfl (fun c17 => ?_) (fun c17 => ?_)
 ·have h18 := ifT c17 h16
  refine WP.skip ?_
  refine sqN ?_
  refine WP.seq ?_
  refine WP.blk ?_
  refine WP.usreg rfl ?_
  refine U.p rfl rfl (.inl rfl) (S.move rfl (L 4 rfl rfl)) ?_
  obtain ⟨x19, hx20, h21⟩ := bindS h18
  refine O.call (V := V9) rfl rfl (.inl rfl) rfl en15 (aC (L 0 rfl rfl) aN) (wk_ref02_Of V9 _ (gl.up (le3.trans le10)) x6 ow11 _ hx20) (fun _ _ _ _ => nd) (fun v22 V23 le24 hp25 => ?_)
  obtain ⟨rfl, ow26⟩ := hp25
  refine U.p rfl rfl (.inl rfl) (S.move rfl (L 0 rfl rfl)) ?_
  refine U.p rfl rfl (.inl rfl) (S.extract rfl (L 0 rfl rfl) rfl (nr rfl)) ?_
  refine U.p rfl rfl (.inl rfl) (S.extract rfl (L 1 rfl rfl) rfl (nr rfl)) ?_
  refine O.alloc ow26 rfl rfl (.inl rfl) rfl ti37 rfl rfl nd (fun b27 V28 le29 ow30 => ?_)
  refine O.store (k := 0) (cs := [.string x19.1.name, .bool x19.1.d, .bool x19.1.a, .bool x19.1.b, .int .i64 x19.1.imm, .int .u32 x19.1.word]) (c' := [.string x19.1.name, .bool x19.1.d, .bool x19.1.a, .bool x19.1.b, .int .i64 x19.1.imm, .int .u32 x19.1.word]) ow30 rfl rfl rfl (.inl rfl) rfl (L 0 rfl rfl) (L 2 rfl rfl) ti37 (by simp [topV]) rfl rfl (nr rfl) rfl rfl nd (fun V32 le33 ow34 => ?_)
  refine U.p rfl rfl (.inl rfl) (S.assign rfl (L 1 rfl rfl)) ?_
  refine U.done (nr rfl) ?_
  refine WP.usreg rfl ?_
  refine U.p rfl rfl (.inl rfl) (S.move rfl (L 11 rfl rfl)) ?_
  refine U.p (v := .agg #[.int .i64 x6, .int .i64 0, .int .i64 0, .int .i64 0, .int .i64 0]) rfl rfl (.inl rfl) (S.build (vs := [.int .i64 x6]) rfl ti25 rfl pl25 (aC (L 0 rfl rfl) aN) (allC (by simp [topV]) allN) rfl) ?_
  refine O.alloc ow34 rfl rfl (.inl rfl) rfl ti25 rfl rfl nd (fun b35 V36 le37 ow38 => ?_)
  refine O.store (k := 0) (cs := [.int .i64 x6, .int .i64 0, .int .i64 0, .int .i64 0, .int .i64 0]) (c' := [.int .i64 x6, .int .i64 0, .int .i64 0, .int .i64 0, .int .i64 0]) ow38 rfl rfl rfl (.inl rfl) rfl (L 0 rfl rfl) (L 1 rfl rfl) ti25 (by simp [topV]) rfl rfl (nr rfl) rfl rfl nd (fun V40 le41 ow42 => ?_)
  refine U.done (nr rfl) ?_
  refine WP.seqI (fun l V' => ∃ (x43 : Int), l = [(0, .int .u32 p0), (2, .pointer (some ⟨b1, 0, none⟩)), (4, .int .i64 x6), (5, .pointer (some ⟨b27, 0, none⟩)), (7, .pointer (some ⟨b35, 0, none⟩))] ∧ V40.le V' ∧ Ow V' (.pt b1 (.cells 5 [.int .i64 0, .int .i64 0, .int .i64 0, .int .i64 0, .int .i64 0]) :: .pt b27 (.cells 6 [.string x19.1.name, .bool x19.1.d, .bool x19.1.a, .bool x19.1.b, .int .i64 x19.1.imm, .int .u32 x19.1.word]) :: .pt b35 (.cells 5 [.int .i64 x6, .int .i64 x43, .int .i64 0, .int .i64 0, .int .i64 0]) :: Rs) ∧ ref02_Decode_k1 p0 x6 x19 x43 = some q13) ?_ ?_
  ·rintro _ V44 ⟨x43, rfl, le45, ow46, h47⟩
   unfold ref02_Decode_k1 at h47
   refine WP.seqI (fun l V' => ∃ (x48 : Int), l = [(0, .int .u32 p0), (2, .pointer (some ⟨b1, 0, none⟩)), (4, .int .i64 x6), (5, .pointer (some ⟨b27, 0, none⟩)), (7, .pointer (some ⟨b35, 0, none⟩))] ∧ V44.le V' ∧ Ow V' (.pt b1 (.cells 5 [.int .i64 0, .int .i64 0, .int .i64 0, .int .i64 0, .int .i64 0]) :: .pt b27 (.cells 6 [.string x19.1.name, .bool x19.1.d, .bool x19.1.a, .bool x19.1.b, .int .i64 x19.1.imm, .int .u32 x19.1.word]) :: .pt b35 (.cells 5 [.int .i64 x6, .int .i64 x43, .int .i64 x48, .int .i64 0, .int .i64 0]) :: Rs) ∧ ref02_Decode_k2 p0 x6 x19 x43 x48 = some q13) ?_ ?_
   ·rintro _ V49 ⟨x48, rfl, le50, ow51, h52⟩
    unfold ref02_Decode_k2 at h52
    refine WP.seqI (fun l V' => ∃ (x53 : Int), l = [(0, .int .u32 p0), (2, .pointer (some ⟨b1, 0, none⟩)), (4, .int .i64 x6), (5, .pointer (some ⟨b27, 0, none⟩)), (7, .pointer (some ⟨b35, 0, none⟩))] ∧ V49.le V' ∧ Ow V' (.pt b1 (.cells 5 [.int .i64 0, .int .i64 0, .int .i64 0, .int .i64 0, .int .i64 0]) :: .pt b27 (.cells 6 [.string x19.1.name, .bool x19.1.d, .bool x19.1.a, .bool x19.1.b, .int .i64 x19.1.imm, .int .u32 x19.1.word]) :: .pt b35 (.cells 5 [.int .i64 x6, .int .i64 x43, .int .i64 x48, .int .i64 x53, .int .i64 0]) :: Rs) ∧ ref02_Decode_k3 p0 x6 x19 x43 x48 x53 = some q13) ?_ ?_
    ·rintro _ V54 ⟨x53, rfl, le55, ow56, h57⟩
     unfold ref02_Decode_k3 at h57
     refine WP.seqI (fun l V' => ∃ (x58 : Int), l = [(0, .int .u32 p0), (2, .pointer (some ⟨b1, 0, none⟩)), (4, .int .i64 x6), (7, .pointer (some ⟨b35, 0, none⟩))] ∧ V54.le V' ∧ Ow V' (.pt b1 (.cells 5 [.int .i64 0, .int .i64 0, .int .i64 0, .int .i64 0, .int .i64 0]) :: .pt b35 (.cells 5 [.int .i64 x6, .int .i64 x43, .int .i64 x48, .int .i64 x53, .int .i64 x58]) :: Rs) ∧ ref02_Decode_k4 p0 x6 x43 x48 x53 x58 = some q13) ?_ ?_
     ·rintro _ V59 ⟨x58, rfl, le60, ow61, h62⟩
      unfold ref02_Decode_k4 at h62
      refine WP.usreg rfl ?_
      refine U.k rfl rfl (.inl rfl) (S.loadB rfl (L 3 rfl rfl) Tryd.underlying25 rfl ti25 (ow61.own (k := 1) rfl).get rfl) nd ?_
      obtain ⟨x63, hx64, h65⟩ := bindS h62
      refine O.call (V := V59) rfl rfl (.inl rfl) rfl en16 (aC (L 0 rfl rfl) aN) (wk_ref02_Good V59 _ (gl.up ((((((((((le3.trans le10).trans le24).trans le29).trans le33).trans le37).trans le41).trans le45).trans le50).trans le55).trans le60)) (⟨x6, x43, x48, x53, x58⟩ : TInst) ow61 _ hx64) (fun _ _ _ _ => nd) (fun v66 V67 le68 hp69 => ?_)
      obtain ⟨rfl, ow70⟩ := hp69
      refine U.p rfl rfl (.inl rfl) (S.move rfl (L 0 rfl rfl)) ?_
      obtain ⟨y71, hy72, h73⟩ := bindS h65
      refine U.joinX 8 (fun e H => ∃ (u74 u75 u76 u77 : Value), ∃ V' : Vw, H = V'.H ∧ V67.le V' ∧ e = [(70, .bool y71), (69, u74), (68, u75), (67, u76), (66, u77)] ∧ Ow V' (.pt b1 (.cells 5 [.int .i64 0, .int .i64 0, .int .i64 0, .int .i64 0, .int .i64 0]) :: .pt b35 (.cells 5 [.int .i64 x6, .int .i64 x43, .int .i64 x48, .int .i64 x53, .int .i64 x58]) :: Rs)) ?_ ?_
      ·rintro _ _ ⟨u74, u75, u76, u77, V78, rfl, le79, rfl, ow80⟩
       refine U.done (nr rfl) ?_
       refine WP.cond _ (L 0 rfl rfl) rfl (fun c81 => ?_) (fun c81 => ?_)
       ·have h82 := ifT c81 h73
        refine WP.usreg rfl ?_
        refine U.k rfl rfl (.inl rfl) (S.loadB rfl (L 11 rfl rfl) Tryd.underlying25 rfl ti25 (ow80.own (k := 1) rfl).get rfl) nd ?_
        refine O.store (k := 0) (cs := [.int .i64 x6, .int .i64 x43, .int .i64 x48, .int .i64 x53, .int .i64 x58]) (c' := [.int .i64 x6, .int .i64 x43, .int .i64 x48, .int .i64 x53, .int .i64 x58]) ow80 rfl rfl rfl (.inl rfl) rfl (L 10 rfl rfl) (L 0 rfl rfl) ti25 (by simp [topV]) rfl rfl (nr rfl) rfl rfl nd (fun V83 le84 ow85 => ?_)
        refine U.p rfl rfl (.inl rfl) (S.assign rfl K) ?_
        refine U.done (nr rfl) ?_
        refine WP.ret ?_
        refine blkR (sqR (sqR (blkR (sqR ?_))))
        have h86 := exitS h82 e14
        refine fin.mix (.inr rfl) (resA (L 11 rfl rfl) Tryd.underlying25 rfl ti25 (ow85.own (k := 0) rfl).get rfl (resT (L 0 rfl rfl) res0)) rfl ⟨V83, rfl, (((((((((((((le3.trans le10).trans le24).trans le29).trans le33).trans le37).trans le41).trans le45).trans le50).trans le55).trans le60).trans le68).trans le79).trans le84), ?_⟩
        have ow87 := ow85.drop 0 rfl
        have ow88 := ow87.drop 0 rfl
        have e89 := Option.some.inj h86
        subst e89
        exact ⟨rfl, ow88⟩
       ·have h90 := ifF c81 h73
        refine WP.skip ?_
        refine blkN (sqN ?_)
        refine WP.ureg rfl ?_
        refine U.p rfl rfl (.inl rfl) (S.move rfl (L 10 rfl rfl)) ?_
        refine U.p rfl rfl (.inl rfl) (S.add rfl (L 0 rfl rfl) K) ?_
        refine U.p rfl rfl (.inl rfl) (S.assign rfl (L 0 rfl rfl)) ?_
        refine U.done (nr rfl) ?_
        refine sqN ?_
        have ow91 := ow80.drop 1 rfl
        exact ⟨_, V78, rfl, ⟨m12, Nat.lt_succ_self _, w64 (x6 + 1), rfl, (((((((((((le10.trans le24).trans le29).trans le33).trans le37).trans le41).trans le45).trans le50).trans le55).trans le60).trans le68).trans le79), ow91, backS h90 e14⟩, (allCons (L 11 rfl rfl) (allCons (L 12 rfl rfl) (allCons (L 0 rfl rfl) allNil)))⟩
      ·intro kk
       refine bcase (b := x63) (fun g92 => ?_) (fun g92 => ?_)
       ·have h93 := ifT g92 hy72
        refine U.k rfl rfl (.inr ⟨_, _, _, rfl, rfl, ((L 0 rfl rfl).trans (congrArg Value.bool g92))⟩) (S.loadB rfl (L 6 rfl rfl) Tryd.underlying25 rfl ti25 (ow70.own (k := 1) rfl).get rfl) nd ?_
        obtain ⟨x94, hx95, h96⟩ := bindS h93
        refine O.call (V := V67) rfl rfl (.inr ⟨_, _, _, rfl, rfl, ((L 1 rfl rfl).trans (congrArg Value.bool g92))⟩) rfl en23 (aC (L 0 rfl rfl) aN) (wk_ref02_Encode V67 _ (gl.up (((((((((((le3.trans le10).trans le24).trans le29).trans le33).trans le37).trans le41).trans le45).trans le50).trans le55).trans le60).trans le68)) (⟨x6, x43, x48, x53, x58⟩ : TInst) ow70 _ hx95) (fun _ _ _ _ => nd) (fun v97 V98 le99 hp100 => ?_)
        obtain ⟨rfl, ow101⟩ := hp100
        refine U.p rfl rfl (.inr ⟨_, _, _, rfl, rfl, ((L 2 rfl rfl).trans (congrArg Value.bool g92))⟩) (S.move rfl (L 5 rfl rfl)) ?_
        refine U.p rfl rfl (.inr ⟨_, _, _, rfl, rfl, ((L 3 rfl rfl).trans (congrArg Value.bool g92))⟩) (S.eqlI rfl (L 1 rfl rfl) (L 0 rfl rfl)) ?_
        refine U.p rfl rfl (.inl rfl) (S.pickT rfl ((L 4 rfl rfl).trans (congrArg Value.bool g92)) (L 0 rfl rfl)) ?_
        have e102 := Option.some.inj h96
        subst e102
        exact kk [(70, .bool (decide (x94 = p0))), (69, .bool (decide (x94 = p0))), (68, .int .u32 p0), (67, .int .u32 x94), (66, .agg #[.int .i64 x6, .int .i64 x43, .int .i64 x48, .int .i64 x53, .int .i64 x58])] _ ⟨.bool (decide (x94 = p0)), .int .u32 p0, .int .u32 x94, .agg #[.int .i64 x6, .int .i64 x43, .int .i64 x48, .int .i64 x53, .int .i64 x58], V98, rfl, le99, rfl, ow101⟩
       ·have h103 := ifF g92 hy72
        refine U.x rfl rfl rfl rfl ((L 0 rfl rfl).trans (congrArg Value.bool g92)) (by decide) ?_
        refine U.x rfl rfl rfl rfl ((L 1 rfl rfl).trans (congrArg Value.bool g92)) (by decide) ?_
        refine U.x rfl rfl rfl rfl ((L 2 rfl rfl).trans (congrArg Value.bool g92)) (by decide) ?_
        refine U.x rfl rfl rfl rfl ((L 3 rfl rfl).trans (congrArg Value.bool g92)) (by decide) ?_
        refine U.p rfl rfl (.inl rfl) (S.pickF rfl ((L 4 rfl rfl).trans (congrArg Value.bool g92)) K) ?_
        have e104 := Option.some.inj h103
        subst e104
        exact kk [(70, .bool false), (69, .tuple #[]), (68, .tuple #[]), (67, .tuple #[]), (66, .tuple #[])] _ ⟨.tuple #[], .tuple #[], .tuple #[], .tuple #[], V67, rfl, (.refl _), rfl, ow70⟩
     ·skip
      refine WP.usreg rfl ?_
      refine U.p (v := .pointer (some ⟨b27, 4, none⟩)) rfl rfl (.inl rfl) (S.fieldAddr rfl (L 3 rfl rfl) Tryd.underlying37 rfl ti3 rfl rfl) ?_
      refine U.k rfl rfl (.inl rfl) (S.load rfl (L 0 rfl rfl) Tryd.underlying3 rfl ((ow56.own (k := 1) rfl).cell rfl)) nd ?_
      refine U.done (nr rfl) ?_
      refine WP.blk ?_
      refine WP.usreg rfl ?_
      refine U.p rfl rfl (.inl rfl) (S.eqlI rfl (L 0 rfl rfl) K) ?_
      refine U.p rfl rfl (.inl rfl) (S.assign rfl (L 0 rfl rfl)) ?_
      refine U.done (nr rfl) ?_
      refine WP.cond _ (L 0 rfl rfl) rfl (fun c105 => ?_) (fun c105 => ?_)
      ·have h106 := ifT c105 h57
       refine WP.ureg rfl ?_
       refine U.p rfl rfl (.inl rfl) (S.move rfl (L 4 rfl rfl)) ?_
       obtain ⟨x107, hx108, h109⟩ := bindS h106
       refine O.call (V := V54) rfl rfl (.inl rfl) rfl en26 (aC (L 0 rfl rfl) (aC K aN)) (wk_ref01_Signed V54 _ (gl.up (((((((((le3.trans le10).trans le24).trans le29).trans le33).trans le37).trans le41).trans le45).trans le50).trans le55)) p0 16 ow56 _ hx108) (fun _ _ _ _ => nd) (fun v110 V111 le112 hp113 => ?_)
       obtain ⟨rfl, ow114⟩ := hp113
       refine U.p (v := .pointer (some ⟨b35, 4, none⟩)) rfl rfl (.inl rfl) (S.fieldAddr rfl (L 10 rfl rfl) Tryd.underlying25 rfl ti3 rfl rfl) ?_
       refine O.store (k := 2) (cs := [.int .i64 x107]) (c' := [.int .i64 x6, .int .i64 x43, .int .i64 x48, .int .i64 x53, .int .i64 x107]) ow114 rfl rfl rfl (.inl rfl) rfl (L 0 rfl rfl) (L 1 rfl rfl) ti3 (by simp [topV]) rfl rfl (nr rfl) rfl rfl nd (fun V115 le116 ow117 => ?_)
       refine U.done (nr rfl) ?_
       refine blkN (sqN ?_)
       have ow118 := ow117.drop 1 rfl
       exact ⟨_, V115, rfl, ⟨x107, rfl, (le112.trans le116), ow118, h109⟩, (allCons (L 7 rfl rfl) (allCons (L 8 rfl rfl) (allCons (L 9 rfl rfl) (allCons (L 11 rfl rfl) allNil))))⟩
      ·have h119 := ifF c105 h57
       refine WP.usreg rfl ?_
       refine U.p rfl rfl (.inl rfl) (S.eqlI rfl (L 2 rfl rfl) K) ?_
       refine U.p rfl rfl (.inl rfl) (S.assign rfl (L 0 rfl rfl)) ?_
       refine U.done (nr rfl) ?_
       refine WP.cond _ (L 0 rfl rfl) rfl (fun c120 => ?_) (fun c120 => ?_)
       ·have h121 := ifT c120 h119
        refine WP.ureg rfl ?_
        refine U.p rfl rfl (.inl rfl) (S.move rfl (L 6 rfl rfl)) ?_
        obtain ⟨x122, hx123, h124⟩ := bindS h121
        refine O.call (V := V54) rfl rfl (.inl rfl) rfl en25 (aC (L 0 rfl rfl) (aC K (aC K aN))) (wk_ref01_Get V54 _ (gl.up (((((((((le3.trans le10).trans le24).trans le29).trans le33).trans le37).trans le41).trans le45).trans le50).trans le55)) p0 16 14 ow56 _ hx123) (fun _ _ _ _ => nd) (fun v125 V126 le127 hp128 => ?_)
        obtain ⟨rfl, ow129⟩ := hp128
        obtain ⟨x130, hx131, h132⟩ := bindS h124
        refine O.call (V := V126) rfl rfl (.inl rfl) rfl en26 (aC (L 0 rfl rfl) (aC K aN)) (wk_ref01_Signed V126 _ (gl.up ((((((((((le3.trans le10).trans le24).trans le29).trans le33).trans le37).trans le41).trans le45).trans le50).trans le55).trans le127)) x122 14 ow129 _ hx131) (fun _ _ _ _ => nd) (fun v133 V134 le135 hp136 => ?_)
        obtain ⟨rfl, ow137⟩ := hp136
        refine U.p rfl rfl (.inl rfl) (S.mul rfl K (L 0 rfl rfl)) ?_
        refine U.p (v := .pointer (some ⟨b35, 4, none⟩)) rfl rfl (.inl rfl) (S.fieldAddr rfl (L 14 rfl rfl) Tryd.underlying25 rfl ti3 rfl rfl) ?_
        refine O.store (k := 2) (cs := [.int .i64 (w64 (4 * x130))]) (c' := [.int .i64 x6, .int .i64 x43, .int .i64 x48, .int .i64 x53, .int .i64 (w64 (4 * x130))]) ow137 rfl rfl rfl (.inl rfl) rfl (L 0 rfl rfl) (L 1 rfl rfl) ti3 (by simp [topV]) rfl rfl (nr rfl) rfl rfl nd (fun V138 le139 ow140 => ?_)
        refine U.done (nr rfl) ?_
        refine blkN (sqN ?_)
        have ow141 := ow140.drop 1 rfl
        exact ⟨_, V138, rfl, ⟨w64 (4 * x130), rfl, ((le127.trans le135).trans le139), ow141, h132⟩, (allCons (L 11 rfl rfl) (allCons (L 12 rfl rfl) (allCons (L 13 rfl rfl) (allCons (L 15 rfl rfl) allNil))))⟩
       ·have h142 := ifF c120 h119
        refine WP.usreg rfl ?_
        refine U.p rfl rfl (.inl rfl) (S.eqlI rfl (L 4 rfl rfl) K) ?_
        refine U.p rfl rfl (.inl rfl) (S.assign rfl (L 0 rfl rfl)) ?_
        refine U.done (nr rfl) ?_
        refine WP.cond _ (L 0 rfl rfl) rfl (fun c143 => ?_) (fun c143 => ?_)
        ·have h144 := ifT c143 h142
         refine WP.ureg rfl ?_
         refine U.p rfl rfl (.inl rfl) (S.move rfl (L 8 rfl rfl)) ?_
         obtain ⟨x145, hx146, h147⟩ := bindS h144
         refine O.call (V := V54) rfl rfl (.inl rfl) rfl en25 (aC (L 0 rfl rfl) (aC K (aC K aN))) (wk_ref01_Get V54 _ (gl.up (((((((((le3.trans le10).trans le24).trans le29).trans le33).trans le37).trans le41).trans le45).trans le50).trans le55)) p0 16 14 ow56 _ hx146) (fun _ _ _ _ => nd) (fun v148 V149 le150 hp151 => ?_)
         obtain ⟨rfl, ow152⟩ := hp151
         obtain ⟨x153, hx154, h155⟩ := bindS h147
         refine O.call (V := V149) rfl rfl (.inl rfl) rfl en26 (aC (L 0 rfl rfl) (aC K aN)) (wk_ref01_Signed V149 _ (gl.up ((((((((((le3.trans le10).trans le24).trans le29).trans le33).trans le37).trans le41).trans le45).trans le50).trans le55).trans le150)) x145 14 ow152 _ hx154) (fun _ _ _ _ => nd) (fun v156 V157 le158 hp159 => ?_)
         obtain ⟨rfl, ow160⟩ := hp159
         refine U.p (v := .pointer (some ⟨b35, 4, none⟩)) rfl rfl (.inl rfl) (S.fieldAddr rfl (L 15 rfl rfl) Tryd.underlying25 rfl ti3 rfl rfl) ?_
         refine O.store (k := 2) (cs := [.int .i64 x153]) (c' := [.int .i64 x6, .int .i64 x43, .int .i64 x48, .int .i64 x53, .int .i64 x153]) ow160 rfl rfl rfl (.inl rfl) rfl (L 0 rfl rfl) (L 1 rfl rfl) ti3 (by simp [topV]) rfl rfl (nr rfl) rfl rfl nd (fun V161 le162 ow163 => ?_)
         refine U.done (nr rfl) ?_
         refine blkN (sqN ?_)
         have ow164 := ow163.drop 1 rfl
         exact ⟨_, V161, rfl, ⟨x153, rfl, ((le150.trans le158).trans le162), ow164, h155⟩, (allCons (L 12 rfl rfl) (allCons (L 13 rfl rfl) (allCons (L 14 rfl rfl) (allCons (L 16 rfl rfl) allNil))))⟩
        ·have h165 := ifF c143 h142
         refine WP.usreg rfl ?_
         refine U.p rfl rfl (.inl rfl) (S.eqlI rfl (L 6 rfl rfl) K) ?_
         refine U.p rfl rfl (.inl rfl) (S.assign rfl (L 0 rfl rfl)) ?_
         refine U.done (nr rfl) ?_
         refine WP.cond _ (L 0 rfl rfl) rfl (fun c166 => ?_) (fun c166 => ?_)
         ·have h167 := ifT c166 h165
          refine WP.ureg rfl ?_
          refine U.p rfl rfl (.inl rfl) (S.move rfl (L 10 rfl rfl)) ?_
          obtain ⟨x168, hx169, h170⟩ := bindS h167
          refine O.call (V := V54) rfl rfl (.inl rfl) rfl en25 (aC (L 0 rfl rfl) (aC K (aC K aN))) (wk_ref01_Get V54 _ (gl.up (((((((((le3.trans le10).trans le24).trans le29).trans le33).trans le37).trans le41).trans le45).trans le50).trans le55)) p0 6 24 ow56 _ hx169) (fun _ _ _ _ => nd) (fun v171 V172 le173 hp174 => ?_)
          obtain ⟨rfl, ow175⟩ := hp174
          obtain ⟨x176, hx177, h178⟩ := bindS h170
          refine O.call (V := V172) rfl rfl (.inl rfl) rfl en26 (aC (L 0 rfl rfl) (aC K aN)) (wk_ref01_Signed V172 _ (gl.up ((((((((((le3.trans le10).trans le24).trans le29).trans le33).trans le37).trans le41).trans le45).trans le50).trans le55).trans le173)) x168 24 ow175 _ hx177) (fun _ _ _ _ => nd) (fun v179 V180 le181 hp182 => ?_)
          obtain ⟨rfl, ow183⟩ := hp182
          refine U.p (v := .pointer (some ⟨b35, 4, none⟩)) rfl rfl (.inl rfl) (S.fieldAddr rfl (L 17 rfl rfl) Tryd.underlying25 rfl ti3 rfl rfl) ?_
          refine O.store (k := 2) (cs := [.int .i64 x176]) (c' := [.int .i64 x6, .int .i64 x43, .int .i64 x48, .int .i64 x53, .int .i64 x176]) ow183 rfl rfl rfl (.inl rfl) rfl (L 0 rfl rfl) (L 1 rfl rfl) ti3 (by simp [topV]) rfl rfl (nr rfl) rfl rfl nd (fun V184 le185 ow186 => ?_)
          refine U.done (nr rfl) ?_
          refine blkN (sqN ?_)
          have ow187 := ow186.drop 1 rfl
          exact ⟨_, V184, rfl, ⟨x176, rfl, ((le173.trans le181).trans le185), ow187, h178⟩, (allCons (L 14 rfl rfl) (allCons (L 15 rfl rfl) (allCons (L 16 rfl rfl) (allCons (L 18 rfl rfl) allNil))))⟩
         ·have h188 := ifF c166 h165
          refine WP.skip ?_
          refine blkN (sqN ?_)
          have ow189 := ow56.drop 1 rfl
          exact ⟨_, V54, rfl, ⟨0, rfl, (.refl _), ow189, h188⟩, (allCons (L 10 rfl rfl) (allCons (L 11 rfl rfl) (allCons (L 12 rfl rfl) (allCons (L 14 rfl rfl) allNil))))⟩
    ·skip
     refine WP.usreg rfl ?_
     refine U.p (v := .pointer (some ⟨b27, 3, none⟩)) rfl rfl (.inl rfl) (S.fieldAddr rfl (L 3 rfl rfl) Tryd.underlying37 rfl ti4 rfl rfl) ?_
     refine U.k rfl rfl (.inl rfl) (S.load rfl (L 0 rfl rfl) Tryd.underlying4 rfl ((ow51.own (k := 1) rfl).cell rfl)) nd ?_
     refine U.done (nr rfl) ?_
     refine WP.cond _ (L 0 rfl rfl) rfl (fun c190 => ?_) (fun c190 => ?_)
     ·have h191 := ifT c190 h52
      refine WP.ureg rfl ?_
      refine U.p rfl rfl (.inl rfl) (S.move rfl (L 2 rfl rfl)) ?_
      obtain ⟨x192, hx193, h194⟩ := bindS h191
      refine O.call (V := V49) rfl rfl (.inl rfl) rfl en25 (aC (L 0 rfl rfl) (aC K (aC K aN))) (wk_ref01_Get V49 _ (gl.up ((((((((le3.trans le10).trans le24).trans le29).trans le33).trans le37).trans le41).trans le45).trans le50)) p0 16 5 ow51 _ hx193) (fun _ _ _ _ => nd) (fun v195 V196 le197 hp198 => ?_)
      obtain ⟨rfl, ow199⟩ := hp198
      refine U.p rfl rfl (.inl rfl) (S.conv rfl (L 0 rfl rfl) Tryd.underlying22 Tryd.underlying3) ?_
      refine U.p (v := .pointer (some ⟨b35, 3, none⟩)) rfl rfl (.inl rfl) (S.fieldAddr rfl (L 9 rfl rfl) Tryd.underlying25 rfl ti3 rfl rfl) ?_
      refine O.store (k := 2) (cs := [.int .i64 (w64 x192)]) (c' := [.int .i64 x6, .int .i64 x43, .int .i64 x48, .int .i64 (w64 x192), .int .i64 0]) ow199 rfl rfl rfl (.inl rfl) rfl (L 0 rfl rfl) (L 1 rfl rfl) ti3 (by simp [topV]) rfl rfl (nr rfl) rfl rfl nd (fun V200 le201 ow202 => ?_)
      refine U.done (nr rfl) ?_
      refine sqN ?_
      exact ⟨_, V200, rfl, ⟨w64 x192, rfl, (le197.trans le201), ow202, h194⟩, (allCons (L 6 rfl rfl) (allCons (L 7 rfl rfl) (allCons (L 8 rfl rfl) (allCons (L 9 rfl rfl) (allCons (L 10 rfl rfl) allNil)))))⟩
     ·have h203 := ifF c190 h52
      refine WP.skip ?_
      refine sqN ?_
      exact ⟨_, V49, rfl, ⟨0, rfl, (.refl _), ow51, h203⟩, (allCons (L 2 rfl rfl) (allCons (L 3 rfl rfl) (allCons (L 4 rfl rfl) (allCons (L 5 rfl rfl) (allCons (L 6 rfl rfl) allNil)))))⟩
   ·skip
    refine WP.usreg rfl ?_
    refine U.p (v := .pointer (some ⟨b27, 2, none⟩)) rfl rfl (.inl rfl) (S.fieldAddr rfl (L 3 rfl rfl) Tryd.underlying37 rfl ti4 rfl rfl) ?_
    refine U.k rfl rfl (.inl rfl) (S.load rfl (L 0 rfl rfl) Tryd.underlying4 rfl ((ow46.own (k := 1) rfl).cell rfl)) nd ?_
    refine U.done (nr rfl) ?_
    refine WP.cond _ (L 0 rfl rfl) rfl (fun c204 => ?_) (fun c204 => ?_)
    ·have h205 := ifT c204 h47
     refine WP.ureg rfl ?_
     refine U.p rfl rfl (.inl rfl) (S.move rfl (L 2 rfl rfl)) ?_
     obtain ⟨x206, hx207, h208⟩ := bindS h205
     refine O.call (V := V44) rfl rfl (.inl rfl) rfl en25 (aC (L 0 rfl rfl) (aC K (aC K aN))) (wk_ref01_Get V44 _ (gl.up (((((((le3.trans le10).trans le24).trans le29).trans le33).trans le37).trans le41).trans le45)) p0 11 5 ow46 _ hx207) (fun _ _ _ _ => nd) (fun v209 V210 le211 hp212 => ?_)
     obtain ⟨rfl, ow213⟩ := hp212
     refine U.p rfl rfl (.inl rfl) (S.conv rfl (L 0 rfl rfl) Tryd.underlying22 Tryd.underlying3) ?_
     refine U.p (v := .pointer (some ⟨b35, 2, none⟩)) rfl rfl (.inl rfl) (S.fieldAddr rfl (L 9 rfl rfl) Tryd.underlying25 rfl ti3 rfl rfl) ?_
     refine O.store (k := 2) (cs := [.int .i64 (w64 x206)]) (c' := [.int .i64 x6, .int .i64 x43, .int .i64 (w64 x206), .int .i64 0, .int .i64 0]) ow213 rfl rfl rfl (.inl rfl) rfl (L 0 rfl rfl) (L 1 rfl rfl) ti3 (by simp [topV]) rfl rfl (nr rfl) rfl rfl nd (fun V214 le215 ow216 => ?_)
     refine U.done (nr rfl) ?_
     refine sqN ?_
     exact ⟨_, V214, rfl, ⟨w64 x206, rfl, (le211.trans le215), ow216, h208⟩, (allCons (L 6 rfl rfl) (allCons (L 7 rfl rfl) (allCons (L 8 rfl rfl) (allCons (L 9 rfl rfl) (allCons (L 10 rfl rfl) allNil)))))⟩
    ·have h217 := ifF c204 h47
     refine WP.skip ?_
     refine sqN ?_
     exact ⟨_, V44, rfl, ⟨0, rfl, (.refl _), ow46, h217⟩, (allCons (L 2 rfl rfl) (allCons (L 3 rfl rfl) (allCons (L 4 rfl rfl) (allCons (L 5 rfl rfl) (allCons (L 6 rfl rfl) allNil)))))⟩
  ·skip
   refine WP.usreg rfl ?_
   refine U.p (v := .pointer (some ⟨b27, 1, none⟩)) rfl rfl (.inl rfl) (S.fieldAddr rfl (L 4 rfl rfl) Tryd.underlying37 rfl ti4 rfl rfl) ?_
   refine U.k rfl rfl (.inl rfl) (S.load rfl (L 0 rfl rfl) Tryd.underlying4 rfl ((ow42.own (k := 1) rfl).cell rfl)) nd ?_
   refine U.done (nr rfl) ?_
   refine WP.cond _ (L 0 rfl rfl) rfl (fun c218 => ?_) (fun c218 => ?_)
   ·have h219 := ifT c218 h21
    refine WP.ureg rfl ?_
    refine U.p rfl rfl (.inl rfl) (S.move rfl (L 14 rfl rfl)) ?_
    obtain ⟨x220, hx221, h222⟩ := bindS h219
    refine O.call (V := V40) rfl rfl (.inl rfl) rfl en25 (aC (L 0 rfl rfl) (aC K (aC K aN))) (wk_ref01_Get V40 _ (gl.up ((((((le3.trans le10).trans le24).trans le29).trans le33).trans le37).trans le41)) p0 6 5 ow42 _ hx221) (fun _ _ _ _ => nd) (fun v223 V224 le225 hp226 => ?_)
    obtain ⟨rfl, ow227⟩ := hp226
    refine U.p rfl rfl (.inl rfl) (S.conv rfl (L 0 rfl rfl) Tryd.underlying22 Tryd.underlying3) ?_
    refine U.p (v := .pointer (some ⟨b35, 1, none⟩)) rfl rfl (.inl rfl) (S.fieldAddr rfl (L 5 rfl rfl) Tryd.underlying25 rfl ti3 rfl rfl) ?_
    refine O.store (k := 0) (cs := [.int .i64 (w64 x220)]) (c' := [.int .i64 x6, .int .i64 (w64 x220), .int .i64 0, .int .i64 0, .int .i64 0]) ow227 rfl rfl rfl (.inl rfl) rfl (L 0 rfl rfl) (L 1 rfl rfl) ti3 (by simp [topV]) rfl rfl (nr rfl) rfl rfl nd (fun V228 le229 ow230 => ?_)
    refine U.done (nr rfl) ?_
    refine sqN ?_
    have ow231 := ow230.pick 0 rfl
    have ow232 := ow231.pick 1 rfl
    have ow233 := ow232.pick 2 rfl
    exact ⟨_, V228, rfl, ⟨w64 x220, rfl, (le225.trans le229), ow233, h222⟩, (allCons (L 18 rfl rfl) (allCons (L 19 rfl rfl) (allCons (L 20 rfl rfl) (allCons (L 10 rfl rfl) (allCons (L 6 rfl rfl) allNil)))))⟩
   ·have h234 := ifF c218 h21
    refine WP.skip ?_
    refine sqN ?_
    have ow235 := ow42.pick 0 rfl
    have ow236 := ow235.pick 1 rfl
    have ow237 := ow236.pick 2 rfl
    exact ⟨_, V40, rfl, ⟨0, rfl, (.refl _), ow237, h234⟩, (allCons (L 14 rfl rfl) (allCons (L 15 rfl rfl) (allCons (L 16 rfl rfl) (allCons (L 6 rfl rfl) (allCons (L 2 rfl rfl) allNil)))))⟩
 ·have h238 := ifF c17 h16
  refine WP.exit ?_
  refine sqE (sqE (blkE (sqN ?_)))
  have h239 := exitS h238 e14
  refine WP.usreg rfl ?_
  refine U.p (v := .agg #[.int .i64 0, .int .i64 0, .int .i64 0, .int .i64 0, .int .i64 0]) rfl rfl (.inl rfl) (S.build (vs := []) rfl ti25 rfl pl25 aN allN rfl) ?_
  refine O.store (k := 0) (cs := [.int .i64 0, .int .i64 0, .int .i64 0, .int .i64 0, .int .i64 0]) (c' := [.int .i64 0, .int .i64 0, .int .i64 0, .int .i64 0, .int .i64 0]) ow11 rfl rfl rfl (.inl rfl) rfl (L 4 rfl rfl) (L 0 rfl rfl) ti25 (by simp [topV]) rfl rfl (nr rfl) rfl rfl nd (fun V240 le241 ow242 => ?_)
  refine U.p rfl rfl (.inl rfl) (S.assign rfl K) ?_
  refine U.done (nr rfl) ?_
  refine WP.ret ?_
  refine fin.mix (.inr rfl) (resA (L 5 rfl rfl) Tryd.underlying25 rfl ti25 (ow242.own (k := 0) rfl).get rfl (resT (L 0 rfl rfl) res0)) rfl ⟨V240, rfl, ((le3.trans le10).trans le241), ?_⟩
  have ow243 := ow242.drop 0 rfl
  have e244 := Option.some.inj h239
  subst e244
  exact ⟨rfl, ow243⟩
set_option maxHeartbeats 4000000 in
set_option maxRecDepth 10000 in
theorem wk_law02_IsaReads (V : Vw) (Rs : List At) (gl : Glb V) (p0 : Int) (ow : Ow V (Rs)) (r : Bool) (h : law02_IsaReads p0 = some r) : ∃ v V', Cl Tryd.prog NG 3 #[.int .u32 p0] V.H v V'.H ∧ V.le V' ∧ (v = .bool r ∧ Ow V' (Rs)) := by
 refine Ct.of gl.lo Tryd.func3 rfl (nr rfl) ?_
 unfold law02_IsaReads at h
 refine WP.usreg rfl ?_
 refine U.p rfl rfl (.inl rfl) (S.assign rfl K) ?_
 refine U.done (nr rfl) ?_
 refine WP.seq ?_
 refine WP.usreg rfl ?_
 obtain ⟨x1, hx2, h3⟩ := bindS h
 refine O.call (V := V) rfl rfl (.inl rfl) rfl en10 aN (wk_law02_alive V _ gl ow _ hx2) (fun _ _ _ _ => nd) (fun v4 V5 le6 hp7 => ?_)
 obtain ⟨rfl, ow8⟩ := hp7
 refine U.p rfl rfl (.inl rfl) (S.not rfl (L 0 rfl rfl)) ?_
 refine U.done (nr rfl) ?_
 refine WP.cond _ (L 0 rfl rfl) rfl (fun c9 => ?_) (fun c9 => ?_)
 ·have h10 := ifT c9 h3
  have k11 : x1 = false := nT c9
  refine WP.usreg rfl ?_
  refine U.p rfl rfl (.inl rfl) (S.assign rfl K) ?_
  refine U.done (nr rfl) ?_
  refine WP.ret ?_
  refine sqR ?_
  refine fin.slot (.inr rfl) rfl (L 0 rfl rfl) ⟨V5, rfl, le6, ?_⟩
  have e12 := Option.some.inj h10
  subst e12
  exact ⟨rfl, ow8⟩
 ·have h13 := ifF c9 h3
  have k14 : x1 = true := nF c9
  refine WP.skip ?_
  refine sqN ?_
  refine WP.usreg rfl ?_
  refine U.p rfl rfl (.inl rfl) (S.move rfl (L 3 rfl rfl)) ?_
  obtain ⟨x15, hx16, h17⟩ := bindS h13
  refine O.call (V := V5) rfl rfl (.inl rfl) rfl en11 (aC (L 0 rfl rfl) aN) (wk_isa_Decode V5 _ (gl.up le6) p0 ow8 _ hx16) (fun _ _ _ _ => nd) (fun v18 V19 le20 hp21 => ?_)
  obtain ⟨rfl, ow22⟩ := hp21
  refine U.p rfl rfl (.inl rfl) (S.move rfl (L 0 rfl rfl)) ?_
  refine U.p rfl rfl (.inl rfl) (S.extract rfl (L 0 rfl rfl) rfl (nr rfl)) ?_
  refine U.p rfl rfl (.inl rfl) (S.extract rfl (L 1 rfl rfl) rfl (nr rfl)) ?_
  refine O.alloc ow22 rfl rfl (.inl rfl) rfl ti25 rfl rfl nd (fun b23 V24 le25 ow26 => ?_)
  refine O.store (k := 0) (cs := [.int .i64 x15.1.op, .int .i64 x15.1.d, .int .i64 x15.1.a, .int .i64 x15.1.b, .int .i64 x15.1.imm]) (c' := [.int .i64 x15.1.op, .int .i64 x15.1.d, .int .i64 x15.1.a, .int .i64 x15.1.b, .int .i64 x15.1.imm]) ow26 rfl rfl rfl (.inl rfl) rfl (L 0 rfl rfl) (L 2 rfl rfl) ti25 (by simp [topV]) rfl rfl (nr rfl) rfl rfl nd (fun V28 le29 ow30 => ?_)
  refine U.p rfl rfl (.inl rfl) (S.assign rfl (L 1 rfl rfl)) ?_
  refine U.done (nr rfl) ?_
  refine WP.usreg rfl ?_
  refine U.p rfl rfl (.inl rfl) (S.move rfl (L 10 rfl rfl)) ?_
  obtain ⟨x31, hx32, h33⟩ := bindS h17
  refine O.call (V := V28) rfl rfl (.inl rfl) rfl en12 (aC (L 0 rfl rfl) aN) (wk_ref02_Decode V28 _ (gl.up (((le6.trans le20).trans le25).trans le29)) p0 ow30 _ hx32) (fun _ _ _ _ => nd) (fun v34 V35 le36 hp37 => ?_)
  obtain ⟨rfl, ow38⟩ := hp37
  refine U.p rfl rfl (.inl rfl) (S.move rfl (L 0 rfl rfl)) ?_
  refine U.p rfl rfl (.inl rfl) (S.extract rfl (L 0 rfl rfl) rfl (nr rfl)) ?_
  refine U.p rfl rfl (.inl rfl) (S.extract rfl (L 1 rfl rfl) rfl (nr rfl)) ?_
  refine O.alloc ow38 rfl rfl (.inl rfl) rfl ti25 rfl rfl nd (fun b39 V40 le41 ow42 => ?_)
  refine O.store (k := 0) (cs := [.int .i64 x31.1.op, .int .i64 x31.1.d, .int .i64 x31.1.a, .int .i64 x31.1.b, .int .i64 x31.1.imm]) (c' := [.int .i64 x31.1.op, .int .i64 x31.1.d, .int .i64 x31.1.a, .int .i64 x31.1.b, .int .i64 x31.1.imm]) ow42 rfl rfl rfl (.inl rfl) rfl (L 0 rfl rfl) (L 2 rfl rfl) ti25 (by simp [topV]) rfl rfl (nr rfl) rfl rfl nd (fun V44 le45 ow46 => ?_)
  refine U.p rfl rfl (.inl rfl) (S.assign rfl (L 1 rfl rfl)) ?_
  refine U.done (nr rfl) ?_
  refine WP.seq ?_
  refine WP.usreg rfl ?_
  refine U.k rfl rfl (.inl rfl) (S.loadB rfl (L 8 rfl rfl) Tryd.underlying25 rfl ti25 (ow46.own (k := 1) rfl).get rfl) nd ?_
  refine U.k rfl rfl (.inl rfl) (S.loadB rfl (L 2 rfl rfl) Tryd.underlying25 rfl ti25 (ow46.own (k := 0) rfl).get rfl) nd ?_
  refine U.p rfl rfl (.inl rfl) (S.neqT (flA (flC (.int _ _) (flC (.int _ _) (flC (.int _ _) (flC (.int _ _) (flC (.int _ _) flN)))))) (flA (flC (.int _ _) (flC (.int _ _) (flC (.int _ _) (flC (.int _ _) (flC (.int _ _) flN)))))) rfl (L 1 rfl rfl) (L 0 rfl rfl) Tryd.underlying25 (by kernel_rfl) (by kernel_rfl) (.cons _ _ _ _ _ _ (by decide) (part_cell Tryd.underlying3 rfl rfl) (part_cell Tryd.underlying3 rfl rfl) (eqIn_int Tryd.underlying3 9998) (.cons _ _ _ _ _ _ (by decide) (part_cell Tryd.underlying3 rfl rfl) (part_cell Tryd.underlying3 rfl rfl) (eqIn_int Tryd.underlying3 9998) (.cons _ _ _ _ _ _ (by decide) (part_cell Tryd.underlying3 rfl rfl) (part_cell Tryd.underlying3 rfl rfl) (eqIn_int Tryd.underlying3 9998) (.cons _ _ _ _ _ _ (by decide) (part_cell Tryd.underlying3 rfl rfl) (part_cell Tryd.underlying3 rfl rfl) (eqIn_int Tryd.underlying3 9998) (.cons _ _ _ _ _ _ (by decide) (part_cell Tryd.underlying3 rfl rfl) (part_cell Tryd.underlying3 rfl rfl) (eqIn_int Tryd.underlying3 9998) .nil)))))) ?_
  refine U.p rfl rfl (.inl rfl) (S.move rfl (L 0 rfl rfl)) ?_
  refine U.joinX 9 (fun e H => ∃ (u47 u48 u49 u50 : Value), H = V44.H ∧ e = [(29, .bool ((!((decide (x15.1.op = x31.1.op)) && ((decide (x15.1.d = x31.1.d)) && ((decide (x15.1.a = x31.1.a)) && ((decide (x15.1.b = x31.1.b)) && ((decide (x15.1.imm = x31.1.imm)) && true)))))) || (!((decide (x15.2 = 0)) == x31.2)))), (28, u47), (27, u48), (26, u49), (25, u50)]) ?_ ?_
  ·rintro _ _ ⟨u47, u48, u49, u50, rfl, rfl⟩
   refine U.p rfl rfl (.inl rfl) (S.move rfl (L 0 rfl rfl)) ?_
   refine U.joinX 17 (fun e H => ∃ (u54 u55 u56 u57 u58 u59 : Value), H = V44.H ∧ e = [(37, .bool (((!((decide (x15.1.op = x31.1.op)) && ((decide (x15.1.d = x31.1.d)) && ((decide (x15.1.a = x31.1.a)) && ((decide (x15.1.b = x31.1.b)) && ((decide (x15.1.imm = x31.1.imm)) && true)))))) || (!((decide (x15.2 = 0)) == x31.2))) || ((!x31.2) && (decide (x15.2 ≠ 4))))), (36, u54), (35, u55), (34, u56), (33, u57), (32, u58), (31, u59)]) ?_ ?_
   ·rintro _ _ ⟨u54, u55, u56, u57, u58, u59, rfl, rfl⟩
    refine U.done (nr rfl) ?_
    refine WP.cond _ (L 0 rfl rfl) rfl (fun c63 => ?_) (fun c63 => ?_)
    ·have h64 := ifT c63 h33
     refine WP.usreg rfl ?_
     refine U.p rfl rfl (.inl rfl) (S.assign rfl K) ?_
     refine U.done (nr rfl) ?_
     refine WP.ret ?_
     refine sqR ?_
     refine fin.slot (.inr rfl) rfl (L 0 rfl rfl) ⟨V44, rfl, ((((((le6.trans le20).trans le25).trans le29).trans le36).trans le41).trans le45), ?_⟩
     have ow65 := ow46.drop 0 rfl
     have ow66 := ow65.drop 0 rfl
     have e67 := Option.some.inj h64
     subst e67
     exact ⟨rfl, ow66⟩
    ·have h68 := ifF c63 h33
     refine WP.skip ?_
     refine sqN ?_
     refine WP.usreg rfl ?_
     refine U.k rfl rfl (.inl rfl) (S.loadB rfl (L 25 rfl rfl) Tryd.underlying25 rfl ti25 (ow46.own (k := 1) rfl).get rfl) nd ?_
     obtain ⟨x69, hx70, h71⟩ := bindS h68
     refine O.call (V := V44) rfl rfl (.inl rfl) rfl en13 (aC (L 0 rfl rfl) aN) (wk_isa_Encode V44 _ (gl.up ((((((le6.trans le20).trans le25).trans le29).trans le36).trans le41).trans le45)) x15.1 ow46 _ hx70) (fun _ _ _ _ => nd) (fun v72 V73 le74 hp75 => ?_)
     obtain ⟨rfl, ow76⟩ := hp75
     refine U.p rfl rfl (.inl rfl) (S.move rfl (L 0 rfl rfl)) ?_
     refine U.p rfl rfl (.inl rfl) (S.extract rfl (L 0 rfl rfl) rfl (nr rfl)) ?_
     refine U.p rfl rfl (.inl rfl) (S.extract rfl (L 1 rfl rfl) rfl (nr rfl)) ?_
     refine U.p rfl rfl (.inl rfl) (S.assign rfl (L 1 rfl rfl)) ?_
     refine U.p rfl rfl (.inl rfl) (S.assign rfl (L 1 rfl rfl)) ?_
     refine U.done (nr rfl) ?_
     refine WP.usreg rfl ?_
     refine U.p rfl rfl (.inl rfl) (S.move rfl (L 24 rfl rfl)) ?_
     refine U.p rfl rfl (.inl rfl) (S.not rfl (L 0 rfl rfl)) ?_
     refine U.p rfl rfl (.inl rfl) (S.move rfl (L 0 rfl rfl)) ?_
     obtain ⟨y77, hy78, h79⟩ := bindS h71
     refine U.joinX 15 (fun e H => ∃ (u80 u81 u82 u83 u84 u85 u86 u87 u88 u89 u90 : Value), ∃ V' : Vw, H = V'.H ∧ V73.le V' ∧ e = [(57, .bool y77), (56, u80), (55, u81), (54, u82), (53, u83), (52, u84), (51, u85), (50, u86), (49, u87), (48, u88), (47, u89), (46, u90)] ∧ Ow V' (.pt b39 (.cells 5 [.int .i64 x31.1.op, .int .i64 x31.1.d, .int .i64 x31.1.a, .int .i64 x31.1.b, .int .i64 x31.1.imm]) :: .pt b23 (.cells 5 [.int .i64 x15.1.op, .int .i64 x15.1.d, .int .i64 x15.1.a, .int .i64 x15.1.b, .int .i64 x15.1.imm]) :: Rs)) ?_ ?_
     ·rintro _ _ ⟨u80, u81, u82, u83, u84, u85, u86, u87, u88, u89, u90, V91, rfl, le92, rfl, ow93⟩
      refine U.p rfl rfl (.inl rfl) (S.assign rfl (L 0 rfl rfl)) ?_
      refine U.done (nr rfl) ?_
      refine WP.ret ?_
      refine fin.slot (.inr rfl) rfl (L 0 rfl rfl) ⟨V91, rfl, ((((((((le6.trans le20).trans le25).trans le29).trans le36).trans le41).trans le45).trans le74).trans le92), ?_⟩
      have ow94 := ow93.drop 0 rfl
      have ow95 := ow94.drop 0 rfl
      have e96 := Option.some.inj h79
      subst e96
      exact ⟨rfl, ow95⟩
     ·intro kk
      refine bcase (b := !x31.2) (fun g97 => ?_) (fun g97 => ?_)
      ·have h98 := ifT g97 hy78
       have k99 : x31.2 = false := nT g97
       refine U.x rfl rfl rfl rfl ((L 0 rfl rfl).trans (congrArg Value.bool g97)) (by decide) ?_
       refine U.x rfl rfl rfl rfl ((L 1 rfl rfl).trans (congrArg Value.bool g97)) (by decide) ?_
       refine U.x rfl rfl rfl rfl ((L 2 rfl rfl).trans (congrArg Value.bool g97)) (by decide) ?_
       refine U.z rfl rfl rfl rfl (L 0 rfl rfl) ?_
       refine U.z rfl rfl rfl rfl (L 1 rfl rfl) ?_
       refine U.z rfl rfl rfl rfl (L 2 rfl rfl) ?_
       refine U.x rfl rfl rfl rfl ((L 6 rfl rfl).trans (congrArg Value.bool g97)) (by decide) ?_
       refine U.x rfl rfl rfl rfl ((L 7 rfl rfl).trans (congrArg Value.bool g97)) (by decide) ?_
       refine U.z rfl rfl rfl rfl (L 0 rfl rfl) ?_
       refine U.z rfl rfl rfl rfl (L 1 rfl rfl) ?_
       refine U.x rfl rfl rfl rfl ((L 10 rfl rfl).trans (congrArg Value.bool g97)) (by decide) ?_
       refine U.p rfl rfl (.inl rfl) (S.pickT rfl ((L 11 rfl rfl).trans (congrArg Value.bool g97)) K) ?_
       have e100 := Option.some.inj h98
       subst e100
       exact kk [(57, .bool true), (56, .tuple #[]), (55, .tuple #[]), (54, .tuple #[]), (53, .tuple #[]), (52, .tuple #[]), (51, .tuple #[]), (50, .tuple #[]), (49, .tuple #[]), (48, .tuple #[]), (47, .tuple #[]), (46, .tuple #[])] _ ⟨.tuple #[], .tuple #[], .tuple #[], .tuple #[], .tuple #[], .tuple #[], .tuple #[], .tuple #[], .tuple #[], .tuple #[], .tuple #[], V73, rfl, (.refl _), rfl, ow76⟩
      ·have h101 := ifF g97 hy78
       have k102 : x31.2 = true := nF g97
       refine U.p rfl rfl (.inr ⟨_, _, _, rfl, rfl, ((L 0 rfl rfl).trans (congrArg Value.bool g97))⟩) (S.move rfl (L 3 rfl rfl)) ?_
       refine U.p rfl rfl (.inr ⟨_, _, _, rfl, rfl, ((L 1 rfl rfl).trans (congrArg Value.bool g97))⟩) (S.eqlI rfl (L 0 rfl rfl) K) ?_
       refine U.p rfl rfl (.inr ⟨_, _, _, rfl, rfl, ((L 2 rfl rfl).trans (congrArg Value.bool g97))⟩) (S.move rfl (L 0 rfl rfl)) ?_
       refine U.joinX 10 (fun e H => ∃ (u103 u104 u105 : Value), H = V73.H ∧ e = [(52, .bool ((decide (x69.2 = 0)) && (decide (x69.1 = p0)))), (51, u103), (50, u104), (49, u105)]) ?_ ?_
       ·rintro _ _ ⟨u103, u104, u105, rfl, rfl⟩
        refine U.p rfl rfl (.inr ⟨_, _, _, rfl, rfl, ((L 7 rfl rfl).trans (congrArg Value.bool g97))⟩) (S.move rfl (L 0 rfl rfl)) ?_
        obtain ⟨y109, hy110, h111⟩ := bindS h101
        refine U.joinX 14 (fun e H => ∃ (u112 u113 : Value), ∃ V' : Vw, H = V'.H ∧ V73.le V' ∧ e = [(56, .bool y109), (55, u112), (54, u113)] ∧ Ow V' (.pt b39 (.cells 5 [.int .i64 x31.1.op, .int .i64 x31.1.d, .int .i64 x31.1.a, .int .i64 x31.1.b, .int .i64 x31.1.imm]) :: .pt b23 (.cells 5 [.int .i64 x15.1.op, .int .i64 x15.1.d, .int .i64 x15.1.a, .int .i64 x15.1.b, .int .i64 x15.1.imm]) :: Rs)) ?_ ?_
        ·rintro _ _ ⟨u112, u113, V114, rfl, le115, rfl, ow116⟩
         refine U.p rfl rfl (.inl rfl) (S.pickF rfl ((L 11 rfl rfl).trans (congrArg Value.bool g97)) (L 0 rfl rfl)) ?_
         have e117 := Option.some.inj h111
         subst e117
         exact kk [(57, .bool y109), (56, .bool y109), (55, u112), (54, u113), (53, .bool ((decide (x69.2 = 0)) && (decide (x69.1 = p0)))), (52, .bool ((decide (x69.2 = 0)) && (decide (x69.1 = p0)))), (51, u103), (50, u104), (49, u105), (48, .bool (decide (x69.2 = 0))), (47, .bool (decide (x69.2 = 0))), (46, .int .i64 x69.2)] _ ⟨.bool y109, u112, u113, .bool ((decide (x69.2 = 0)) && (decide (x69.1 = p0))), .bool ((decide (x69.2 = 0)) && (decide (x69.1 = p0))), u103, u104, u105, .bool (decide (x69.2 = 0)), .bool (decide (x69.2 = 0)), .int .i64 x69.2, V114, rfl, le115, rfl, ow116⟩
        ·intro kk
         refine bcase (b := (decide (x69.2 = 0)) && (decide (x69.1 = p0))) (fun g118 => ?_) (fun g118 => ?_)
         ·have h119 := ifT g118 hy110
          refine U.k rfl rfl (.inr ⟨_, _, _, rfl, rfl, ((L 0 rfl rfl).trans (congrArg Value.bool g118))⟩) (S.loadB rfl (L 43 rfl rfl) Tryd.underlying25 rfl ti25 (ow76.own (k := 1) rfl).get rfl) nd ?_
          obtain ⟨x120, hx121, h122⟩ := bindS h119
          refine O.call (V := V73) rfl rfl (.inr ⟨_, _, _, rfl, rfl, ((L 1 rfl rfl).trans (congrArg Value.bool g118))⟩) rfl en14 (aC (L 0 rfl rfl) aN) (wk_isa_Good V73 _ (gl.up (((((((le6.trans le20).trans le25).trans le29).trans le36).trans le41).trans le45).trans le74)) x15.1 ow76 _ hx121) (fun _ _ _ _ => nd) (fun v123 V124 le125 hp126 => ?_)
          obtain ⟨rfl, ow127⟩ := hp126
          refine U.p rfl rfl (.inr ⟨_, _, _, rfl, rfl, ((L 10 rfl rfl).trans (congrArg Value.bool g97))⟩) (S.pickT rfl ((L 2 rfl rfl).trans (congrArg Value.bool g118)) (L 0 rfl rfl)) ?_
          have e128 := Option.some.inj h122
          subst e128
          exact kk [(56, .bool x120), (55, .bool x120), (54, .agg #[.int .i64 x15.1.op, .int .i64 x15.1.d, .int .i64 x15.1.a, .int .i64 x15.1.b, .int .i64 x15.1.imm])] _ ⟨.bool x120, .agg #[.int .i64 x15.1.op, .int .i64 x15.1.d, .int .i64 x15.1.a, .int .i64 x15.1.b, .int .i64 x15.1.imm], V124, rfl, le125, rfl, ow127⟩
         ·have h129 := ifF g118 hy110
          refine U.x rfl rfl rfl rfl ((L 0 rfl rfl).trans (congrArg Value.bool g118)) (by decide) ?_
          refine U.x rfl rfl rfl rfl ((L 1 rfl rfl).trans (congrArg Value.bool g118)) (by decide) ?_
          refine U.p rfl rfl (.inr ⟨_, _, _, rfl, rfl, ((L 10 rfl rfl).trans (congrArg Value.bool g97))⟩) (S.pickF rfl ((L 2 rfl rfl).trans (congrArg Value.bool g118)) K) ?_
          have e130 := Option.some.inj h129
          subst e130
          exact kk [(56, .bool false), (55, .tuple #[]), (54, .tuple #[])] _ ⟨.tuple #[], .tuple #[], V73, rfl, (.refl _), rfl, ow76⟩
       ·intro kk
        refine bcase (b := decide (x69.2 = 0)) (fun g131 => ?_) (fun g131 => ?_)
        ·skip
         refine U.p rfl rfl (.inr ⟨_, _, _, rfl, rfl, ((L 0 rfl rfl).trans (congrArg Value.bool g131))⟩) (S.move rfl (L 7 rfl rfl)) ?_
         refine U.p rfl rfl (.inr ⟨_, _, _, rfl, rfl, ((L 1 rfl rfl).trans (congrArg Value.bool g131))⟩) (S.move rfl (L 48 rfl rfl)) ?_
         refine U.p rfl rfl (.inr ⟨_, _, _, rfl, rfl, ((L 2 rfl rfl).trans (congrArg Value.bool g131))⟩) (S.eqlI rfl (L 1 rfl rfl) (L 0 rfl rfl)) ?_
         refine U.p rfl rfl (.inr ⟨_, _, _, rfl, rfl, ((L 6 rfl rfl).trans (congrArg Value.bool g97))⟩) (S.pickT rfl ((L 3 rfl rfl).trans (congrArg Value.bool g131)) (L 0 rfl rfl)) ?_
         exact kk [(52, .bool (decide (x69.1 = p0))), (51, .bool (decide (x69.1 = p0))), (50, .int .u32 p0), (49, .int .u32 x69.1)] _ ⟨.bool (decide (x69.1 = p0)), .int .u32 p0, .int .u32 x69.1, rfl, (by rw [g131, Bool.true_and])⟩
        ·skip
         refine U.x rfl rfl rfl rfl ((L 0 rfl rfl).trans (congrArg Value.bool g131)) (by decide) ?_
         refine U.x rfl rfl rfl rfl ((L 1 rfl rfl).trans (congrArg Value.bool g131)) (by decide) ?_
         refine U.x rfl rfl rfl rfl ((L 2 rfl rfl).trans (congrArg Value.bool g131)) (by decide) ?_
         refine U.p rfl rfl (.inr ⟨_, _, _, rfl, rfl, ((L 6 rfl rfl).trans (congrArg Value.bool g97))⟩) (S.pickF rfl ((L 3 rfl rfl).trans (congrArg Value.bool g131)) K) ?_
         exact kk [(52, .bool false), (51, .tuple #[]), (50, .tuple #[]), (49, .tuple #[])] _ ⟨.tuple #[], .tuple #[], .tuple #[], rfl, (by rw [g131, Bool.false_and])⟩
   ·intro kk
    refine bcase (b := (!((decide (x15.1.op = x31.1.op)) && ((decide (x15.1.d = x31.1.d)) && ((decide (x15.1.a = x31.1.a)) && ((decide (x15.1.b = x31.1.b)) && ((decide (x15.1.imm = x31.1.imm)) && true)))))) || (!((decide (x15.2 = 0)) == x31.2))) (fun g132 => ?_) (fun g132 => ?_)
    ·skip
     refine U.x rfl rfl rfl rfl ((L 0 rfl rfl).trans (congrArg Value.bool g132)) (by decide) ?_
     refine U.x rfl rfl rfl rfl ((L 1 rfl rfl).trans (congrArg Value.bool g132)) (by decide) ?_
     refine U.x rfl rfl rfl rfl ((L 2 rfl rfl).trans (congrArg Value.bool g132)) (by decide) ?_
     refine U.z rfl rfl rfl rfl (L 0 rfl rfl) ?_
     refine U.z rfl rfl rfl rfl (L 1 rfl rfl) ?_
     refine U.x rfl rfl rfl rfl ((L 5 rfl rfl).trans (congrArg Value.bool g132)) (by decide) ?_
     refine U.p rfl rfl (.inl rfl) (S.pickT rfl ((L 6 rfl rfl).trans (congrArg Value.bool g132)) K) ?_
     exact kk [(37, .bool true), (36, .tuple #[]), (35, .tuple #[]), (34, .tuple #[]), (33, .tuple #[]), (32, .tuple #[]), (31, .tuple #[])] _ ⟨.tuple #[], .tuple #[], .tuple #[], .tuple #[], .tuple #[], .tuple #[], rfl, (by rw [g132, Bool.true_or])⟩
    ·skip
     refine U.p rfl rfl (.inr ⟨_, _, _, rfl, rfl, ((L 0 rfl rfl).trans (congrArg Value.bool g132))⟩) (S.move rfl (L 10 rfl rfl)) ?_
     refine U.p rfl rfl (.inr ⟨_, _, _, rfl, rfl, ((L 1 rfl rfl).trans (congrArg Value.bool g132))⟩) (S.not rfl (L 0 rfl rfl)) ?_
     refine U.p rfl rfl (.inr ⟨_, _, _, rfl, rfl, ((L 2 rfl rfl).trans (congrArg Value.bool g132))⟩) (S.move rfl (L 0 rfl rfl)) ?_
     refine U.joinX 16 (fun e H => ∃ (u133 u134 : Value), H = V44.H ∧ e = [(36, .bool ((!x31.2) && (decide (x15.2 ≠ 4)))), (35, u133), (34, u134)]) ?_ ?_
     ·rintro _ _ ⟨u133, u134, rfl, rfl⟩
      refine U.p rfl rfl (.inl rfl) (S.pickF rfl ((L 6 rfl rfl).trans (congrArg Value.bool g132)) (L 0 rfl rfl)) ?_
      exact kk [(37, .bool ((!x31.2) && (decide (x15.2 ≠ 4)))), (36, .bool ((!x31.2) && (decide (x15.2 ≠ 4)))), (35, u133), (34, u134), (33, .bool (!x31.2)), (32, .bool (!x31.2)), (31, .bool x31.2)] _ ⟨.bool ((!x31.2) && (decide (x15.2 ≠ 4))), u133, u134, .bool (!x31.2), .bool (!x31.2), .bool x31.2, rfl, (by rw [g132, Bool.false_or])⟩
     ·intro kk
      refine bcase (b := !x31.2) (fun g138 => ?_) (fun g138 => ?_)
      ·skip
       have k139 : x31.2 = false := nT g138
       refine U.p rfl rfl (.inr ⟨_, _, _, rfl, rfl, ((L 0 rfl rfl).trans (congrArg Value.bool g138))⟩) (S.move rfl (L 20 rfl rfl)) ?_
       refine U.p rfl rfl (.inr ⟨_, _, _, rfl, rfl, ((L 1 rfl rfl).trans (congrArg Value.bool g138))⟩) (S.neqI rfl (L 0 rfl rfl) K) ?_
       refine U.p rfl rfl (.inr ⟨_, _, _, rfl, rfl, ((L 5 rfl rfl).trans (congrArg Value.bool g132))⟩) (S.pickT rfl ((L 2 rfl rfl).trans (congrArg Value.bool g138)) (L 0 rfl rfl)) ?_
       exact kk [(36, .bool (decide (x15.2 ≠ 4))), (35, .bool (decide (x15.2 ≠ 4))), (34, .int .i64 x15.2)] _ ⟨.bool (decide (x15.2 ≠ 4)), .int .i64 x15.2, rfl, (by rw [g138, Bool.true_and])⟩
      ·skip
       have k140 : x31.2 = true := nF g138
       refine U.x rfl rfl rfl rfl ((L 0 rfl rfl).trans (congrArg Value.bool g138)) (by decide) ?_
       refine U.x rfl rfl rfl rfl ((L 1 rfl rfl).trans (congrArg Value.bool g138)) (by decide) ?_
       refine U.p rfl rfl (.inr ⟨_, _, _, rfl, rfl, ((L 5 rfl rfl).trans (congrArg Value.bool g132))⟩) (S.pickF rfl ((L 2 rfl rfl).trans (congrArg Value.bool g138)) K) ?_
       exact kk [(36, .bool false), (35, .tuple #[]), (34, .tuple #[])] _ ⟨.tuple #[], .tuple #[], rfl, (by rw [g138, Bool.false_and])⟩
  ·intro kk
   refine bcase (b := !((decide (x15.1.op = x31.1.op)) && ((decide (x15.1.d = x31.1.d)) && ((decide (x15.1.a = x31.1.a)) && ((decide (x15.1.b = x31.1.b)) && ((decide (x15.1.imm = x31.1.imm)) && true)))))) (fun g141 => ?_) (fun g141 => ?_)
   ·skip
    have k142 : ((decide (x15.1.op = x31.1.op)) && ((decide (x15.1.d = x31.1.d)) && ((decide (x15.1.a = x31.1.a)) && ((decide (x15.1.b = x31.1.b)) && ((decide (x15.1.imm = x31.1.imm)) && true))))) = false := nT g141
    refine U.x rfl rfl rfl rfl ((L 0 rfl rfl).trans (congrArg Value.bool g141)) (by decide) ?_
    refine U.x rfl rfl rfl rfl ((L 1 rfl rfl).trans (congrArg Value.bool g141)) (by decide) ?_
    refine U.x rfl rfl rfl rfl ((L 2 rfl rfl).trans (congrArg Value.bool g141)) (by decide) ?_
    refine U.x rfl rfl rfl rfl ((L 3 rfl rfl).trans (congrArg Value.bool g141)) (by decide) ?_
    refine U.p rfl rfl (.inl rfl) (S.pickT rfl ((L 4 rfl rfl).trans (congrArg Value.bool g141)) K) ?_
    exact kk [(29, .bool true), (28, .tuple #[]), (27, .tuple #[]), (26, .tuple #[]), (25, .tuple #[])] _ ⟨.tuple #[], .tuple #[], .tuple #[], .tuple #[], rfl, (by rw [g141, Bool.true_or])⟩
   ·skip
    have k143 : ((decide (x15.1.op = x31.1.op)) && ((decide (x15.1.d = x31.1.d)) && ((decide (x15.1.a = x31.1.a)) && ((decide (x15.1.b = x31.1.b)) && ((decide (x15.1.imm = x31.1.imm)) && true))))) = true := nF g141
    refine U.p rfl rfl (.inr ⟨_, _, _, rfl, rfl, ((L 0 rfl rfl).trans (congrArg Value.bool g141))⟩) (S.move rfl (L 11 rfl rfl)) ?_
    refine U.p rfl rfl (.inr ⟨_, _, _, rfl, rfl, ((L 1 rfl rfl).trans (congrArg Value.bool g141))⟩) (S.eqlI rfl (L 0 rfl rfl) K) ?_
    refine U.p rfl rfl (.inr ⟨_, _, _, rfl, rfl, ((L 2 rfl rfl).trans (congrArg Value.bool g141))⟩) (S.move rfl (L 6 rfl rfl)) ?_
    refine U.p rfl rfl (.inr ⟨_, _, _, rfl, rfl, ((L 3 rfl rfl).trans (congrArg Value.bool g141))⟩) (S.neqB rfl (L 1 rfl rfl) (L 0 rfl rfl) Tryd.underlying4) ?_
    refine U.p rfl rfl (.inl rfl) (S.pickF rfl ((L 4 rfl rfl).trans (congrArg Value.bool g141)) (L 0 rfl rfl)) ?_
    exact kk [(29, .bool (!((decide (x15.2 = 0)) == x31.2))), (28, .bool (!((decide (x15.2 = 0)) == x31.2))), (27, .bool x31.2), (26, .bool (decide (x15.2 = 0))), (25, .int .i64 x15.2)] _ ⟨.bool (!((decide (x15.2 = 0)) == x31.2)), .bool x31.2, .bool (decide (x15.2 = 0)), .int .i64 x15.2, rfl, (by rw [g141, Bool.false_or])⟩
set_option maxHeartbeats 4000000 in
set_option maxRecDepth 10000 in
theorem wk_isa_condition (V : Vw) (Rs : List At) (gl : Glb V) (p0 : TInst) (ow : Ow V (Rs)) (r : ByteArray) (h : isa_condition p0 = some r) : ∃ v V', Cl Tryd.prog NG 34 #[.agg #[.int .i64 p0.op, .int .i64 p0.d, .int .i64 p0.a, .int .i64 p0.b, .int .i64 p0.imm]] V.H v V'.H ∧ V.le V' ∧ (v = .string r ∧ Ow V' (Rs)) := by
 refine Ct.of gl.lo Tryd.func34 rfl (nr rfl) ?_
 unfold isa_condition at h
 refine WP.usreg rfl ?_
 refine O.box ow rfl rfl (.inl rfl) rfl (L 0 rfl rfl) (by simp [topV]) rfl nd (fun b1 V2 le3 ow4 => ?_)
 refine U.p rfl rfl (.inl rfl) (S.assign rfl K) ?_
 refine U.done (nr rfl) ?_
 refine WP.usreg rfl ?_
 refine O.lit (R := RT.str) ow4 rfl rfl (.inl rfl) rfl Tryd.underlying65 ti9 rfl rfl rfl (nr rfl) rfl (aC K (aC K (aC K aN))) (.cons _ _ str32 _ (by simp [topV]) rfl (.cons _ _ str33 _ (by simp [topV]) rfl (.cons _ _ str34 _ (by simp [topV]) rfl .nil))) (fun _ => nd) (fun v6 V7 le8 ow9 => ?_)
 refine U.p rfl rfl (.inl rfl) (S.assign rfl (L 0 rfl rfl)) ?_
 refine U.done (nr rfl) ?_
 refine WP.usreg rfl ?_
 refine O.lit (R := RT.str) ow9 rfl rfl (.inl rfl) rfl Tryd.underlying65 ti9 rfl rfl rfl (nr rfl) rfl (aC K (aC K (aC K aN))) (.cons _ _ str35 _ (by simp [topV]) rfl (.cons _ _ str36 _ (by simp [topV]) rfl (.cons _ _ str37 _ (by simp [topV]) rfl .nil))) (fun _ => nd) (fun v11 V12 le13 ow14 => ?_)
 refine U.p rfl rfl (.inl rfl) (S.assign rfl (L 0 rfl rfl)) ?_
 refine U.done (nr rfl) ?_
 refine WP.seq ?_
 refine WP.usreg rfl ?_
 refine U.p (v := .pointer (some ⟨b1, 1, none⟩)) rfl rfl (.inl rfl) (S.fieldAddr rfl (L 5 rfl rfl) Tryd.underlying25 rfl ti3 rfl rfl) ?_
 refine U.k rfl rfl (.inl rfl) (S.load rfl (L 0 rfl rfl) Tryd.underlying3 rfl ((ow14.own (k := 2) rfl).cell rfl)) nd ?_
 refine U.p rfl rfl (.inl rfl) (S.eqlI rfl (L 0 rfl rfl) K) ?_
 refine U.done (nr rfl) ?_
 refine WP.cond _ (L 0 rfl rfl) rfl (fun c16 => ?_) (fun c16 => ?_)
 ·have h17 := ifT c16 h
  refine WP.usreg rfl ?_
  refine U.p rfl rfl (.inl rfl) (S.move rfl (L 5 rfl rfl)) ?_
  refine U.p (v := .pointer (some ⟨b1, 2, none⟩)) rfl rfl (.inl rfl) (S.fieldAddr rfl (L 9 rfl rfl) Tryd.underlying25 rfl ti3 rfl rfl) ?_
  refine U.k rfl rfl (.inl rfl) (S.load rfl (L 0 rfl rfl) Tryd.underlying3 rfl ((ow14.own (k := 2) rfl).cell rfl)) nd ?_
  obtain ⟨x18, hx19, h20⟩ := bindS h17
  obtain ⟨b21, o22, n23, c24, hv25⟩ := ow14.ospt (k := 1) rfl hx19
  obtain ⟨_, hv26, _⟩ := ow14.osel (k := 1) rfl hv25 hx19
  refine U.p rfl rfl (.inl rfl) (S.index rfl ((L 2 rfl rfl).trans hv26) (L 0 rfl rfl) Tryd.underlying65 ti9 (ix_ge hx19) (ix_lt hx19)) ?_
  obtain ⟨cs27, hv28, hlt29, hr30, hc31⟩ := ow14.osel (k := 1) rfl hv25 hx19
  obtain rfl : cs27 = [.string x18] := hr30
  refine U.k rfl rfl (.inl rfl) (S.load rfl (L 0 rfl rfl) Tryd.underlying9 rfl (hc31 0 _ rfl)) nd ?_
  obtain ⟨x32, hx33, h34⟩ := bindS h20
  refine U.p rfl rfl (.inl rfl) (S.addS hx33 rfl K (L 0 rfl rfl)) ?_
  refine U.p rfl rfl (.inl rfl) (S.assign rfl (L 0 rfl rfl)) ?_
  refine U.done (nr rfl) ?_
  refine WP.ret ?_
  refine sqR ?_
  refine fin.slot (.inr rfl) rfl (L 0 rfl rfl) ⟨V12, rfl, ((le3.trans le8).trans le13), ?_⟩
  have ow35 := ow14.drop 0 rfl
  have ow36 := ow35.drop 0 rfl
  have ow37 := ow36.drop 0 rfl
  have e38 := Option.some.inj h34
  subst e38
  exact ⟨rfl, ow37⟩
 ·have h39 := ifF c16 h
  refine WP.skip ?_
  refine sqN ?_
  refine WP.usreg rfl ?_
  refine U.p rfl rfl (.inl rfl) (S.move rfl (L 3 rfl rfl)) ?_
  refine U.p (v := .pointer (some ⟨b1, 2, none⟩)) rfl rfl (.inl rfl) (S.fieldAddr rfl (L 9 rfl rfl) Tryd.underlying25 rfl ti3 rfl rfl) ?_
  refine U.k rfl rfl (.inl rfl) (S.load rfl (L 0 rfl rfl) Tryd.underlying3 rfl ((ow14.own (k := 2) rfl).cell rfl)) nd ?_
  obtain ⟨x40, hx41, h42⟩ := bindS h39
  obtain ⟨b43, o44, n45, c46, hv47⟩ := ow14.ospt (k := 0) rfl hx41
  obtain ⟨_, hv48, _⟩ := ow14.osel (k := 0) rfl hv47 hx41
  refine U.p rfl rfl (.inl rfl) (S.index rfl ((L 2 rfl rfl).trans hv48) (L 0 rfl rfl) Tryd.underlying65 ti9 (ix_ge hx41) (ix_lt hx41)) ?_
  obtain ⟨cs49, hv50, hlt51, hr52, hc53⟩ := ow14.osel (k := 0) rfl hv47 hx41
  obtain rfl : cs49 = [.string x40] := hr52
  refine U.k rfl rfl (.inl rfl) (S.load rfl (L 0 rfl rfl) Tryd.underlying9 rfl (hc53 0 _ rfl)) nd ?_
  obtain ⟨x54, hx55, h56⟩ := bindS h42
  refine U.p rfl rfl (.inl rfl) (S.addS hx55 rfl K (L 0 rfl rfl)) ?_
  refine U.p rfl rfl (.inl rfl) (S.assign rfl (L 0 rfl rfl)) ?_
  refine U.done (nr rfl) ?_
  refine WP.ret ?_
  refine fin.slot (.inr rfl) rfl (L 0 rfl rfl) ⟨V12, rfl, ((le3.trans le8).trans le13), ?_⟩
  have ow57 := ow14.drop 0 rfl
  have ow58 := ow57.drop 0 rfl
  have ow59 := ow58.drop 0 rfl
  have e60 := Option.some.inj h56
  subst e60
  exact ⟨rfl, ow59⟩
set_option maxHeartbeats 4000000 in
set_option maxRecDepth 10000 in
theorem wk_strconv_Itoa (V : Vw) (Rs : List At) (gl : Glb V) (p0 : Int) (ow : Ow V (Rs)) (r : ByteArray) (h : strconv_Itoa p0 = some r) : ∃ v V', Cl Tryd.prog NG 35 #[.int .i64 p0] V.H v V'.H ∧ V.le V' ∧ (v = .string r ∧ Ow V' (Rs)) := by
 unfold strconv_Itoa at h
 exact itoa_cl gl.t3 (Nat.lt_of_lt_of_le (by decide) gl.lo) (by kernel_rfl) (fun w h0 h1 ht => (Tryd.strconv_Itoa p0 h0 h1 w ht).mono (by rintro e w2 ⟨rfl, k, os, rfl⟩; exact ⟨rfl, below_grown w k os⟩)) ow h
set_option maxHeartbeats 4000000 in
set_option maxRecDepth 10000 in
theorem wk_strings_Join (V : Vw) (Rs : List At) (gl : Glb V) (p0 : List ByteArray) (p1 : ByteArray) (v1 : Value) (ow : Ow V (.os RT.str v1 p0 :: Rs)) (r : ByteArray) (h : strings_Join p0 p1 = some r) : ∃ v V', Cl Tryd.prog NG 37 #[v1, .string p1] V.H v V'.H ∧ V.le V' ∧ (v = .string r ∧ Ow V' (.os RT.str v1 p0 :: Rs)) := by
 unfold strings_Join at h
 exact join_cl (ow.strs (k := 0) rfl) (fun a c w => Tryd.strings_Join_none a c p1 w) (fun bk o c w h1 h2 h3 h4 h5 => Tryd.strings_Join bk o c p0 p1 w h1 h2 h3 h4 h5) ow h
set_option maxHeartbeats 4000000 in
set_option maxRecDepth 10000 in
theorem wk_strings_TrimSpace (V : Vw) (Rs : List At) (gl : Glb V) (p0 : ByteArray) (ow : Ow V (Rs)) (r : ByteArray) (h : strings_TrimSpace p0 = some r) : ∃ v V', Cl Tryd.prog NG 36 #[.string p0] V.H v V'.H ∧ V.le V' ∧ (v = .string r ∧ Ow V' (Rs)) := by
 unfold strings_TrimSpace at h
 exact trim_cl gl.t1 (Nat.lt_of_lt_of_le (by decide) gl.lo) (by kernel_rfl) (fun w h0 h1 ht => (Tryd.strings_TrimSpace p0 w (by omega) h1 ht).mono (by rintro e w2 ⟨rfl, rfl⟩; exact ⟨rfl, below_bytes w _ p0⟩)) ow h
set_option maxHeartbeats 4000000 in
set_option maxRecDepth 10000 in
theorem wk_isa_Text (V : Vw) (Rs : List At) (gl : Glb V) (p0 : TInst) (ow : Ow V (Rs)) (r : ByteArray) (h : isa_Text p0 = some r) : ∃ v V', Cl Tryd.prog NG 21 #[.agg #[.int .i64 p0.op, .int .i64 p0.d, .int .i64 p0.a, .int .i64 p0.b, .int .i64 p0.imm]] V.H v V'.H ∧ V.le V' ∧ (v = .string r ∧ Ow V' (Rs)) := by
 refine Ct.of gl.lo Tryd.func21 rfl (nr rfl) ?_
 unfold isa_Text at h
 refine WP.usreg rfl ?_
 refine O.box ow rfl rfl (.inl rfl) rfl (L 0 rfl rfl) (by simp [topV]) rfl nd (fun b1 V2 le3 ow4 => ?_)
 refine U.p rfl rfl (.inl rfl) (S.assign rfl K) ?_
 refine U.done (nr rfl) ?_
 refine WP.seq ?_
 refine WP.usreg rfl ?_
 refine U.k rfl rfl (.inl rfl) (S.loadB rfl (L 1 rfl rfl) Tryd.underlying25 rfl ti25 (ow4.own (k := 0) rfl).get rfl) nd ?_
 obtain ⟨x6, hx7, h8⟩ := bindS h
 refine O.call (V := V2) rfl rfl (.inl rfl) rfl en14 (aC (L 0 rfl rfl) aN) (wk_isa_Good V2 _ (gl.up le3) p0 ow4 _ hx7) (fun _ _ _ _ => nd) (fun v9 V10 le11 hp12 => ?_)
 obtain ⟨rfl, ow13⟩ := hp12
 refine U.p rfl rfl (.inl rfl) (S.not rfl (L 0 rfl rfl)) ?_
 refine U.done (nr rfl) ?_
 refine WP.cond _ (L 0 rfl rfl) rfl (fun c14 => ?_) (fun c14 => ?_)
 ·have h15 := ifT c14 h8
  have k16 : x6 = false := nT c14
  refine WP.usreg rfl ?_
  refine U.p rfl rfl (.inl rfl) (S.assign rfl K) ?_
  refine U.done (nr rfl) ?_
  refine WP.ret ?_
  refine sqR ?_
  refine fin.slot (.inr rfl) rfl (L 0 rfl rfl) ⟨V10, rfl, (le3.trans le11), ?_⟩
  have ow17 := ow13.drop 0 rfl
  have e18 := Option.some.inj h15
  subst e18
  exact ⟨rfl, ow17⟩
 ·have h19 := ifF c14 h8
  have k20 : x6 = true := nF c14
  refine WP.skip ?_
  refine sqN ?_
  refine WP.usreg rfl ?_
  refine U.p (v := .pointer (some ⟨b1, 0, none⟩)) rfl rfl (.inl rfl) (S.fieldAddr rfl (L 4 rfl rfl) Tryd.underlying25 rfl ti3 rfl rfl) ?_
  refine U.k rfl rfl (.inl rfl) (S.load rfl (L 0 rfl rfl) Tryd.underlying3 rfl ((ow13.own (k := 0) rfl).cell rfl)) nd ?_
  obtain ⟨x21, hx22, h23⟩ := bindS h19
  obtain ⟨_, _, _, cs24, hv25, hf26, hr27, hc28⟩ := (gl.up (le3.trans le11)).g0.at hx22
  cases hv25
  obtain rfl : cs24 = [.string x21.name, .string x21.fields, .int .u32 x21.word] := hr27
  refine U.p rfl rfl (.inl rfl) (S.indexA rfl Gl (L 0 rfl rfl) Tryd.underlying53 ti52 (ix_ge hx22) (by have q1 := ix_lt hx22; have q2 := gl0_len; omega)) ?_
  refine U.k rfl rfl (.inl rfl) (S.loadN (cs := [.string x21.name, .string x21.fields, .int .u32 x21.word]) rfl (L 0 rfl rfl) Tryd.underlying52 rfl ti52 rfl (fun j v hj => hc28 j v hj)) nd ?_
  refine O.alloc ow13 rfl rfl (.inl rfl) rfl ti52 rfl rfl nd (fun b29 V30 le31 ow32 => ?_)
  refine O.store (k := 0) (cs := [.string x21.name, .string x21.fields, .int .u32 x21.word]) (c' := [.string x21.name, .string x21.fields, .int .u32 x21.word]) ow32 rfl rfl rfl (.inl rfl) rfl (L 0 rfl rfl) (L 1 rfl rfl) ti52 (by simp [topV]) rfl rfl (nr rfl) rfl rfl nd (fun V34 le35 ow36 => ?_)
  refine U.done (nr rfl) ?_
  refine WP.seq ?_
  refine WP.usreg rfl ?_
  refine U.p (v := .pointer (some ⟨b1, 0, none⟩)) rfl rfl (.inl rfl) (S.fieldAddr rfl (L 9 rfl rfl) Tryd.underlying25 rfl ti3 rfl rfl) ?_
  refine U.k rfl rfl (.inl rfl) (S.load rfl (L 0 rfl rfl) Tryd.underlying3 rfl ((ow36.own (k := 1) rfl).cell rfl)) nd ?_
  refine U.p rfl rfl (.inl rfl) (S.eqlI rfl (L 0 rfl rfl) K) ?_
  refine U.done (nr rfl) ?_
  refine WP.cond _ (L 0 rfl rfl) rfl (fun c37 => ?_) (fun c37 => ?_)
  ·have h38 := ifT c37 h23
   refine WP.usdreg rfl rfl rfl ?_
   refine U.k rfl rfl (.inl rfl) (S.loadB rfl (L 12 rfl rfl) Tryd.underlying25 rfl ti25 (ow36.own (k := 1) rfl).get rfl) (fun _ => (okH.nil (fun r h => by cases h; exact (ow36.own (k := 1) rfl).lt))) ?_
   obtain ⟨x39, hx40, h41⟩ := bindS h38
   refine O.call (V := V34) rfl rfl (.inl rfl) rfl en34 (aC (L 0 rfl rfl) aN) (wk_isa_condition V34 _ (gl.up (((le3.trans le11).trans le31).trans le35)) p0 ow36 _ hx40) (fun v42 V43 le44 hp45 => by obtain ⟨rfl, ow46⟩ := hp45; exact (fun _ => (okH.cons (Or.inl rfl) (okH.nil (fun r h => nomatch h))))) (fun v42 V43 le44 hp45 => ?_)
   obtain ⟨rfl, ow46⟩ := hp45
   obtain ⟨x47, hx48, h49⟩ := bindS h41
   refine U.p rfl rfl (.inl rfl) (S.addS hx48 rfl (L 0 rfl rfl) K) ?_
   refine U.p (v := .pointer (some ⟨b1, 4, none⟩)) rfl rfl (.inl rfl) (S.fieldAddr rfl (L 15 rfl rfl) Tryd.underlying25 rfl ti3 rfl rfl) ?_
   refine U.k rfl rfl (.inl rfl) (S.load rfl (L 0 rfl rfl) Tryd.underlying3 rfl ((ow46.own (k := 1) rfl).cell rfl)) (fun _ => (okH.cons (Or.inr (Or.inl ((ow46.own (k := 1) rfl).get.trans (ow36.own (k := 1) rfl).get.symm))) (okH.cons trivial (okH.nil (fun r h => by cases h; exact (ow46.own (k := 1) rfl).lt))))) ?_
   obtain ⟨x50, hx51, h52⟩ := bindS h49
   refine O.call (V := V43) rfl rfl (.inl rfl) rfl en35 (aC (L 0 rfl rfl) aN) (wk_strconv_Itoa V43 _ (gl.up ((((le3.trans le11).trans le31).trans le35).trans le44)) p0.imm ow46 _ hx51) (fun v53 V54 le55 hp56 => by obtain ⟨rfl, ow57⟩ := hp56; exact (fun _ => (okH.cons (Or.inl rfl) (okH.cons rfl (okH.cons (Or.inl rfl) (okH.nil (fun r h => nomatch h))))))) (fun v53 V54 le55 hp56 => ?_)
   obtain ⟨rfl, ow57⟩ := hp56
   obtain ⟨x58, hx59, h60⟩ := bindS h52
   refine U.p rfl rfl (.inl rfl) (S.addS hx59 rfl (L 3 rfl rfl) (L 0 rfl rfl)) ?_
   refine U.p rfl rfl (.inl rfl) (S.assign rfl (L 0 rfl rfl)) ?_
   refine U.done (nr rfl) ?_
   refine WP.ret ?_
   refine sqR ?_
   refine fin.slot (.inr rfl) rfl (L 0 rfl rfl) ⟨V54, rfl, (((((le3.trans le11).trans le31).trans le35).trans le44).trans le55), ?_⟩
   have ow61 := ow57.drop 0 rfl
   have ow62 := ow61.drop 0 rfl
   have e63 := Option.some.inj h60
   subst e63
   exact ⟨rfl, ow62⟩
  ·have h64 := ifF c37 h23
   refine WP.skip ?_
   refine sqN ?_
   refine WP.usreg rfl ?_
   refine U.p rfl rfl (.inl rfl) (S.assign rfl K) ?_
   refine U.done (nr rfl) ?_
   refine WP.seq ?_
   refine WP.usreg rfl ?_
   refine U.p (v := .pointer (some ⟨b29, 1, none⟩)) rfl rfl (.inl rfl) (S.fieldAddr rfl (L 4 rfl rfl) Tryd.underlying52 rfl ti9 rfl rfl) ?_
   refine U.k rfl rfl (.inl rfl) (S.load rfl (L 0 rfl rfl) Tryd.underlying9 rfl ((ow36.own (k := 0) rfl).cell rfl)) nd ?_
   obtain ⟨xs65, hx66, h67⟩ := bindS h64
   refine O.bytes ow36 rfl rfl (.inl rfl) rfl (L 0 rfl rfl) Tryd.underlying9 Tryd.underlying54 Tryd.underlying5 hx66 (fun _ => nd) (fun v68 V69 le70 ow71 => ?_)
   refine U.p rfl rfl (.inl rfl) (ow71.oslen (k := 0) rfl rfl (L 0 rfl rfl) Tryd.underlying54) ?_
   refine U.p rfl rfl (.inl rfl) (S.move rfl K) ?_
   refine U.done (nr rfl) ?_
   refine WP.blk ?_
   have ow77 := ow71.nil RT.str
   have ow79 := ow77.pick 1 rfl
   have ow80 := ow79.pick 1 rfl
   have ow81 := ow80.pick 2 rfl
   have ow82 := ow81.pick 3 rfl
   unfold isa_Text_l1 at h67
   obtain ⟨n84, hn83⟩ := loopO_some.1 h67
   refine WP.loopI2 (fun n l V' => ∃ (v74 : Value) (xs75 : List ByteArray) (x76 : Int), l = [(1, .pointer (some ⟨b1, 0, none⟩)), (3, .pointer (some ⟨b29, 0, none⟩)), (4, v74), (26, v68), (27, .int .i64 (xs65.length : Int)), (28, .int .i64 x76)] ∧ V69.le V' ∧ Ow V' (.pt b1 (.cells 0 [.int .i64 p0.op, .int .i64 p0.d, .int .i64 p0.a, .int .i64 p0.b, .int .i64 p0.imm]) :: .pt b29 (.cells 3 [.string x21.name, .string x21.fields, .int .u32 x21.word]) :: .os RT.str v74 xs75 :: .os (RT.int .u8) v68 xs65 :: Rs) ∧ itO (fun s => isa_Text_l1b p0 x21 xs65 s.1 s.2) n (xs75, x76) = some r) n84 _ ⟨(.slice none 0 0), [], 0, rfl, .refl _, ow82, hn83⟩ (allCons (L 18 rfl rfl) (allCons (L 9 rfl rfl) (allCons (L 5 rfl rfl) (allCons (L 2 rfl rfl) (allCons (L 1 rfl rfl) (allCons (L 0 rfl rfl) allNil)))))) ?_
   rintro _ _ V85 ⟨v74, xs75, x76, rfl, le86, ow87, h91⟩
   obtain ⟨m88, q89, rfl, h92, e90⟩ := itS h91
   replace h92 : isa_Text_l1b p0 x21 xs65 xs75 x76 = some q89 := h92
   unfold isa_Text_l1b at h92
   refine WP.usreg rfl ?_
   refine U.p rfl rfl (.inl rfl) (S.lss rfl (L 5 rfl rfl) (L 4 rfl rfl)) ?_
   refine U.done (nr rfl) ?_
   refine WP.seq ?_
   refine WP.cond _ (L 0 rfl rfl) rfl (fun c93 => ?_) (fun c93 => ?_)
   ·have h94 := ifT c93 h92
    refine WP.skip ?_
    refine sqN ?_
    refine WP.seqI (fun l V' => ∃ (v96 : Value) (xs97 : List ByteArray), l = [(1, .pointer (some ⟨b1, 0, none⟩)), (3, .pointer (some ⟨b29, 0, none⟩)), (4, v96), (26, v68), (27, .int .i64 (xs65.length : Int)), (28, .int .i64 x76)] ∧ V85.le V' ∧ Ow V' (.pt b1 (.cells 0 [.int .i64 p0.op, .int .i64 p0.d, .int .i64 p0.a, .int .i64 p0.b, .int .i64 p0.imm]) :: .pt b29 (.cells 3 [.string x21.name, .string x21.fields, .int .u32 x21.word]) :: .os RT.str v96 xs97 :: .os (RT.int .u8) v68 xs65 :: Rs) ∧ isa_Text_k1 x76 xs97 = some q89) ?_ ?_
    ·rintro _ V98 ⟨v96, xs97, rfl, le99, ow100, h101⟩
     unfold isa_Text_k1 at h101
     refine WP.ureg rfl ?_
     refine U.p rfl rfl (.inl rfl) (S.add rfl (L 5 rfl rfl) K) ?_
     refine U.p rfl rfl (.inl rfl) (S.move rfl (L 0 rfl rfl)) ?_
     refine U.done (nr rfl) ?_
     refine sqN ?_
     exact ⟨_, V98, rfl, ⟨m88, Nat.lt_succ_self _, v96, xs97, w64 (x76 + 1), rfl, (le86.trans le99), ow100, backS h101 e90⟩, (allCons (L 2 rfl rfl) (allCons (L 3 rfl rfl) (allCons (L 4 rfl rfl) (allCons (L 5 rfl rfl) (allCons (L 6 rfl rfl) (allCons (L 0 rfl rfl) allNil))))))⟩
    ·skip
     refine WP.blk ?_
     refine WP.usreg rfl ?_
     obtain ⟨x102, hx103, h104⟩ := bindS h94
     obtain ⟨b105, o106, n107, c108, hv109⟩ := ow87.ospt (k := 3) rfl hx103
     obtain ⟨_, hv110, _⟩ := ow87.osel (k := 3) rfl hv109 hx103
     refine U.p rfl rfl (.inl rfl) (S.index rfl ((L 4 rfl rfl).trans hv110) (L 6 rfl rfl) Tryd.underlying54 ti5 (ix_ge hx103) (ix_lt hx103)) ?_
     obtain ⟨cs111, hv112, hlt113, hr114, hc115⟩ := ow87.osel (k := 3) rfl hv109 hx103
     obtain rfl : cs111 = [.int .u8 x102] := hr114
     refine U.k rfl rfl (.inl rfl) (S.load rfl (L 0 rfl rfl) Tryd.underlying5 rfl (hc115 0 _ rfl)) nd ?_
     refine U.p rfl rfl (.inl rfl) (S.assign rfl (L 0 rfl rfl)) ?_
     refine U.done (nr rfl) ?_
     refine WP.usreg rfl ?_
     refine U.p rfl rfl (.inl rfl) (S.move rfl (L 0 rfl rfl)) ?_
     refine U.done (nr rfl) ?_
     refine WP.blk ?_
     refine WP.usreg rfl ?_
     refine U.p rfl rfl (.inl rfl) (S.eqlI rfl (L 0 rfl rfl) K) ?_
     refine U.p rfl rfl (.inl rfl) (S.assign rfl (L 0 rfl rfl)) ?_
     refine U.done (nr rfl) ?_
     refine WP.cond _ (L 0 rfl rfl) rfl (fun c116 => ?_) (fun c116 => ?_)
     ·have h117 := ifT c116 h104
      refine WP.ureg rfl ?_
      refine U.p rfl rfl (.inl rfl) (S.move rfl (L 9 rfl rfl)) ?_
      refine U.p (v := .pointer (some ⟨b1, 1, none⟩)) rfl rfl (.inl rfl) (S.fieldAddr rfl (L 8 rfl rfl) Tryd.underlying25 rfl ti3 rfl rfl) ?_
      refine U.k rfl rfl (.inl rfl) (S.load rfl (L 0 rfl rfl) Tryd.underlying3 rfl ((ow87.own (k := 0) rfl).cell rfl)) nd ?_
      obtain ⟨x118, hx119, h120⟩ := bindS h117
      refine O.call (V := V85) rfl rfl (.inl rfl) rfl en35 (aC (L 0 rfl rfl) aN) (wk_strconv_Itoa V85 _ (gl.up (((((le3.trans le11).trans le31).trans le35).trans le70).trans le86)) p0.d ow87 _ hx119) (fun _ _ _ _ => nd) (fun v121 V122 le123 hp124 => ?_)
      obtain ⟨rfl, ow125⟩ := hp124
      obtain ⟨x126, hx127, h128⟩ := bindS h120
      refine U.p rfl rfl (.inl rfl) (S.addS hx127 rfl K (L 0 rfl rfl)) ?_
      refine O.lit (R := RT.str) ow125 rfl rfl (.inl rfl) rfl Tryd.underlying65 ti9 rfl rfl rfl (nr rfl) rfl (aC (L 0 rfl rfl) aN) (.cons _ _ x126 _ (by simp [topV]) rfl .nil) (fun _ => nd) (fun v129 V130 le131 ow132 => ?_)
      obtain ⟨xs134, hx135, h136⟩ := bindS h128
      refine O.append (k := 3) ow132 rfl rfl rfl (.inl rfl) rfl (L 5 rfl rfl) (L 0 rfl rfl) Tryd.underlying65 ti9 rfl rfl (nr rfl) (ow132.src (k := 0) rfl Tryd.underlying65) hx135 (fun _ _ => nd) (fun v137 V138 le139 ow140 => ?_)
      refine U.p rfl rfl (.inl rfl) (S.assign rfl (L 0 rfl rfl)) ?_
      refine U.done (nr rfl) ?_
      refine blkN (blkN (sqN ?_))
      have ow142 := ow140.drop 0 rfl
      exact ⟨_, V138, rfl, ⟨v137, xs134, rfl, ((le123.trans le131).trans le139), ow142, h136⟩, (allCons (L 15 rfl rfl) (allCons (L 16 rfl rfl) (allCons (L 0 rfl rfl) (allCons (L 18 rfl rfl) (allCons (L 19 rfl rfl) (allCons (L 20 rfl rfl) allNil))))))⟩
     ·have h143 := ifF c116 h104
      refine WP.usreg rfl ?_
      refine U.p rfl rfl (.inl rfl) (S.eqlI rfl (L 2 rfl rfl) K) ?_
      refine U.p rfl rfl (.inl rfl) (S.assign rfl (L 0 rfl rfl)) ?_
      refine U.done (nr rfl) ?_
      refine WP.cond _ (L 0 rfl rfl) rfl (fun c144 => ?_) (fun c144 => ?_)
      ·have h145 := ifT c144 h143
       refine WP.ureg rfl ?_
       refine U.p rfl rfl (.inl rfl) (S.move rfl (L 11 rfl rfl)) ?_
       refine U.p (v := .pointer (some ⟨b1, 2, none⟩)) rfl rfl (.inl rfl) (S.fieldAddr rfl (L 10 rfl rfl) Tryd.underlying25 rfl ti3 rfl rfl) ?_
       refine U.k rfl rfl (.inl rfl) (S.load rfl (L 0 rfl rfl) Tryd.underlying3 rfl ((ow87.own (k := 0) rfl).cell rfl)) nd ?_
       obtain ⟨x146, hx147, h148⟩ := bindS h145
       refine O.call (V := V85) rfl rfl (.inl rfl) rfl en35 (aC (L 0 rfl rfl) aN) (wk_strconv_Itoa V85 _ (gl.up (((((le3.trans le11).trans le31).trans le35).trans le70).trans le86)) p0.a ow87 _ hx147) (fun _ _ _ _ => nd) (fun v149 V150 le151 hp152 => ?_)
       obtain ⟨rfl, ow153⟩ := hp152
       obtain ⟨x154, hx155, h156⟩ := bindS h148
       refine U.p rfl rfl (.inl rfl) (S.addS hx155 rfl K (L 0 rfl rfl)) ?_
       refine O.lit (R := RT.str) ow153 rfl rfl (.inl rfl) rfl Tryd.underlying65 ti9 rfl rfl rfl (nr rfl) rfl (aC (L 0 rfl rfl) aN) (.cons _ _ x154 _ (by simp [topV]) rfl .nil) (fun _ => nd) (fun v157 V158 le159 ow160 => ?_)
       obtain ⟨xs162, hx163, h164⟩ := bindS h156
       refine O.append (k := 3) ow160 rfl rfl rfl (.inl rfl) rfl (L 5 rfl rfl) (L 0 rfl rfl) Tryd.underlying65 ti9 rfl rfl (nr rfl) (ow160.src (k := 0) rfl Tryd.underlying65) hx163 (fun _ _ => nd) (fun v165 V166 le167 ow168 => ?_)
       refine U.p rfl rfl (.inl rfl) (S.assign rfl (L 0 rfl rfl)) ?_
       refine U.done (nr rfl) ?_
       refine blkN (blkN (sqN ?_))
       have ow170 := ow168.drop 0 rfl
       exact ⟨_, V166, rfl, ⟨v165, xs162, rfl, ((le151.trans le159).trans le167), ow170, h164⟩, (allCons (L 17 rfl rfl) (allCons (L 18 rfl rfl) (allCons (L 0 rfl rfl) (allCons (L 20 rfl rfl) (allCons (L 21 rfl rfl) (allCons (L 22 rfl rfl) allNil))))))⟩
      ·have h171 := ifF c144 h143
       refine WP.usreg rfl ?_
       refine U.p rfl rfl (.inl rfl) (S.eqlI rfl (L 4 rfl rfl) K) ?_
       refine U.p rfl rfl (.inl rfl) (S.assign rfl (L 0 rfl rfl)) ?_
       refine U.done (nr rfl) ?_
       refine WP.cond _ (L 0 rfl rfl) rfl (fun c172 => ?_) (fun c172 => ?_)
       ·have h173 := ifT c172 h171
        refine WP.ureg rfl ?_
        refine U.p rfl rfl (.inl rfl) (S.move rfl (L 13 rfl rfl)) ?_
        refine U.p (v := .pointer (some ⟨b1, 3, none⟩)) rfl rfl (.inl rfl) (S.fieldAddr rfl (L 12 rfl rfl) Tryd.underlying25 rfl ti3 rfl rfl) ?_
        refine U.k rfl rfl (.inl rfl) (S.load rfl (L 0 rfl rfl) Tryd.underlying3 rfl ((ow87.own (k := 0) rfl).cell rfl)) nd ?_
        obtain ⟨x174, hx175, h176⟩ := bindS h173
        refine O.call (V := V85) rfl rfl (.inl rfl) rfl en35 (aC (L 0 rfl rfl) aN) (wk_strconv_Itoa V85 _ (gl.up (((((le3.trans le11).trans le31).trans le35).trans le70).trans le86)) p0.b ow87 _ hx175) (fun _ _ _ _ => nd) (fun v177 V178 le179 hp180 => ?_)
        obtain ⟨rfl, ow181⟩ := hp180
        obtain ⟨x182, hx183, h184⟩ := bindS h176
        refine U.p rfl rfl (.inl rfl) (S.addS hx183 rfl K (L 0 rfl rfl)) ?_
        refine O.lit (R := RT.str) ow181 rfl rfl (.inl rfl) rfl Tryd.underlying65 ti9 rfl rfl rfl (nr rfl) rfl (aC (L 0 rfl rfl) aN) (.cons _ _ x182 _ (by simp [topV]) rfl .nil) (fun _ => nd) (fun v185 V186 le187 ow188 => ?_)
        obtain ⟨xs190, hx191, h192⟩ := bindS h184
        refine O.append (k := 3) ow188 rfl rfl rfl (.inl rfl) rfl (L 5 rfl rfl) (L 0 rfl rfl) Tryd.underlying65 ti9 rfl rfl (nr rfl) (ow188.src (k := 0) rfl Tryd.underlying65) hx191 (fun _ _ => nd) (fun v193 V194 le195 ow196 => ?_)
        refine U.p rfl rfl (.inl rfl) (S.assign rfl (L 0 rfl rfl)) ?_
        refine U.done (nr rfl) ?_
        refine blkN (blkN (sqN ?_))
        have ow198 := ow196.drop 0 rfl
        exact ⟨_, V194, rfl, ⟨v193, xs190, rfl, ((le179.trans le187).trans le195), ow198, h192⟩, (allCons (L 19 rfl rfl) (allCons (L 20 rfl rfl) (allCons (L 0 rfl rfl) (allCons (L 22 rfl rfl) (allCons (L 23 rfl rfl) (allCons (L 24 rfl rfl) allNil))))))⟩
       ·have h199 := ifF c172 h171
        refine WP.ureg rfl ?_
        refine U.p rfl rfl (.inl rfl) (S.move rfl (L 13 rfl rfl)) ?_
        refine U.p (v := .pointer (some ⟨b1, 4, none⟩)) rfl rfl (.inl rfl) (S.fieldAddr rfl (L 12 rfl rfl) Tryd.underlying25 rfl ti3 rfl rfl) ?_
        refine U.k rfl rfl (.inl rfl) (S.load rfl (L 0 rfl rfl) Tryd.underlying3 rfl ((ow87.own (k := 0) rfl).cell rfl)) nd ?_
        obtain ⟨x200, hx201, h202⟩ := bindS h199
        refine O.call (V := V85) rfl rfl (.inl rfl) rfl en35 (aC (L 0 rfl rfl) aN) (wk_strconv_Itoa V85 _ (gl.up (((((le3.trans le11).trans le31).trans le35).trans le70).trans le86)) p0.imm ow87 _ hx201) (fun _ _ _ _ => nd) (fun v203 V204 le205 hp206 => ?_)
        obtain ⟨rfl, ow207⟩ := hp206
        refine O.lit (R := RT.str) ow207 rfl rfl (.inl rfl) rfl Tryd.underlying65 ti9 rfl rfl rfl (nr rfl) rfl (aC (L 0 rfl rfl) aN) (.cons _ _ x200 _ (by simp [topV]) rfl .nil) (fun _ => nd) (fun v208 V209 le210 ow211 => ?_)
        obtain ⟨xs213, hx214, h215⟩ := bindS h202
        refine O.append (k := 3) ow211 rfl rfl rfl (.inl rfl) rfl (L 4 rfl rfl) (L 0 rfl rfl) Tryd.underlying65 ti9 rfl rfl (nr rfl) (ow211.src (k := 0) rfl Tryd.underlying65) hx214 (fun _ _ => nd) (fun v216 V217 le218 ow219 => ?_)
        refine U.p rfl rfl (.inl rfl) (S.assign rfl (L 0 rfl rfl)) ?_
        refine U.done (nr rfl) ?_
        refine blkN (blkN (sqN ?_))
        have ow221 := ow219.drop 0 rfl
        exact ⟨_, V217, rfl, ⟨v216, xs213, rfl, ((le205.trans le210).trans le218), ow221, h215⟩, (allCons (L 18 rfl rfl) (allCons (L 19 rfl rfl) (allCons (L 0 rfl rfl) (allCons (L 21 rfl rfl) (allCons (L 22 rfl rfl) (allCons (L 23 rfl rfl) allNil))))))⟩
   ·have h222 := ifF c93 h92
    refine WP.exit ?_
    refine sqE (sqE (blkE (sqN ?_)))
    have h223 := exitS h222 e90
    refine WP.usdreg rfl rfl rfl ?_
    refine U.p (v := .pointer (some ⟨b29, 0, none⟩)) rfl rfl (.inl rfl) (S.fieldAddr rfl (L 2 rfl rfl) Tryd.underlying52 rfl ti9 rfl rfl) ?_
    refine U.k rfl rfl (.inl rfl) (S.load rfl (L 0 rfl rfl) Tryd.underlying9 rfl ((ow87.own (k := 1) rfl).cell rfl)) (fun _ => (okH.nil (fun r h => by cases h; exact (ow87.own (k := 1) rfl).lt))) ?_
    obtain ⟨x224, hx225, h226⟩ := bindS h223
    refine U.p rfl rfl (.inl rfl) (S.addS hx225 rfl (L 0 rfl rfl) K) ?_
    refine U.p rfl rfl (.inl rfl) (S.move rfl (L 6 rfl rfl)) ?_
    have ow227 := ow87.pick 2 rfl
    obtain ⟨x228, hx229, h230⟩ := bindS h226
    refine O.call (V := V85) rfl rfl (.inl rfl) rfl en37 (aC (L 0 rfl rfl) (aC K aN)) (wk_strings_Join V85 _ (gl.up (((((le3.trans le11).trans le31).trans le35).trans le70).trans le86)) xs75 str40 v74 ow227 _ hx229) (fun v231 V232 le233 hp234 => by obtain ⟨rfl, ow235⟩ := hp234; exact (fun _ => (okH.cons (Or.inr (((ow235.own (k := 2) rfl).get.trans (ow227.own (k := 2) rfl).get.symm))) (okH.nil (fun r h => nomatch h))))) (fun v231 V232 le233 hp234 => ?_)
    obtain ⟨rfl, ow235⟩ := hp234
    obtain ⟨x236, hx237, h238⟩ := bindS h230
    refine U.p rfl rfl (.inl rfl) (S.addS hx237 rfl (L 2 rfl rfl) (L 0 rfl rfl)) ?_
    obtain ⟨x239, hx240, h241⟩ := bindS h238
    refine O.call (V := V232) rfl rfl (.inl rfl) rfl en36 (aC (L 0 rfl rfl) aN) (wk_strings_TrimSpace V232 _ (gl.up ((((((le3.trans le11).trans le31).trans le35).trans le70).trans le86).trans le233)) x236 ow235 _ hx240) (fun v242 V243 le244 hp245 => by obtain ⟨rfl, ow246⟩ := hp245; exact (fun _ => (okH.cons rfl (okH.cons (Or.inl rfl) (okH.nil (fun r h => nomatch h)))))) (fun v242 V243 le244 hp245 => ?_)
    obtain ⟨rfl, ow246⟩ := hp245
    refine U.p rfl rfl (.inl rfl) (S.assign rfl (L 0 rfl rfl)) ?_
    refine U.done (nr rfl) ?_
    refine WP.ret ?_
    refine fin.slot (.inr rfl) rfl (L 0 rfl rfl) ⟨V243, rfl, (((((((le3.trans le11).trans le31).trans le35).trans le70).trans le86).trans le233).trans le244), ?_⟩
    have ow247 := ow246.drop 0 rfl
    have ow248 := ow247.drop 0 rfl
    have ow249 := ow248.drop 0 rfl
    have ow250 := ow249.drop 0 rfl
    have e251 := Option.some.inj h241
    subst e251
    exact ⟨rfl, ow250⟩
set_option maxHeartbeats 4000000 in
set_option maxRecDepth 10000 in
theorem wk_ref02_Text (V : Vw) (Rs : List At) (gl : Glb V) (p0 : TInst) (ow : Ow V (Rs)) (r : ByteArray) (h : ref02_Text p0 = some r) : ∃ v V', Cl Tryd.prog NG 22 #[.agg #[.int .i64 p0.op, .int .i64 p0.d, .int .i64 p0.a, .int .i64 p0.b, .int .i64 p0.imm]] V.H v V'.H ∧ V.le V' ∧ (v = .string r ∧ Ow V' (Rs)) := by
 refine Ct.of gl.lo Tryd.func22 rfl (nr rfl) ?_
 unfold ref02_Text at h
 refine WP.usreg rfl ?_
 refine O.box ow rfl rfl (.inl rfl) rfl (L 0 rfl rfl) (by simp [topV]) rfl nd (fun b1 V2 le3 ow4 => ?_)
 refine U.p rfl rfl (.inl rfl) (S.assign rfl K) ?_
 refine U.done (nr rfl) ?_
 refine WP.seq ?_
 refine WP.usreg rfl ?_
 refine U.k rfl rfl (.inl rfl) (S.loadB rfl (L 1 rfl rfl) Tryd.underlying25 rfl ti25 (ow4.own (k := 0) rfl).get rfl) nd ?_
 obtain ⟨x6, hx7, h8⟩ := bindS h
 refine O.call (V := V2) rfl rfl (.inl rfl) rfl en16 (aC (L 0 rfl rfl) aN) (wk_ref02_Good V2 _ (gl.up le3) p0 ow4 _ hx7) (fun _ _ _ _ => nd) (fun v9 V10 le11 hp12 => ?_)
 obtain ⟨rfl, ow13⟩ := hp12
 refine U.p rfl rfl (.inl rfl) (S.not rfl (L 0 rfl rfl)) ?_
 refine U.done (nr rfl) ?_
 refine WP.cond _ (L 0 rfl rfl) rfl (fun c14 => ?_) (fun c14 => ?_)
 ·have h15 := ifT c14 h8
  have k16 : x6 = false := nT c14
  refine WP.usreg rfl ?_
  refine U.p rfl rfl (.inl rfl) (S.assign rfl K) ?_
  refine U.done (nr rfl) ?_
  refine WP.ret ?_
  refine sqR ?_
  refine fin.slot (.inr rfl) rfl (L 0 rfl rfl) ⟨V10, rfl, (le3.trans le11), ?_⟩
  have ow17 := ow13.drop 0 rfl
  have e18 := Option.some.inj h15
  subst e18
  exact ⟨rfl, ow17⟩
 ·have h19 := ifF c14 h8
  have k20 : x6 = true := nF c14
  refine WP.skip ?_
  refine sqN ?_
  refine WP.usreg rfl ?_
  refine U.p (v := .pointer (some ⟨b1, 0, none⟩)) rfl rfl (.inl rfl) (S.fieldAddr rfl (L 4 rfl rfl) Tryd.underlying25 rfl ti3 rfl rfl) ?_
  refine U.k rfl rfl (.inl rfl) (S.load rfl (L 0 rfl rfl) Tryd.underlying3 rfl ((ow13.own (k := 0) rfl).cell rfl)) nd ?_
  obtain ⟨x21, hx22, h23⟩ := bindS h19
  refine O.call (V := V10) rfl rfl (.inl rfl) rfl en15 (aC (L 0 rfl rfl) aN) (wk_ref02_Of V10 _ (gl.up (le3.trans le11)) p0.op ow13 _ hx22) (fun _ _ _ _ => nd) (fun v24 V25 le26 hp27 => ?_)
  obtain ⟨rfl, ow28⟩ := hp27
  refine U.p rfl rfl (.inl rfl) (S.move rfl (L 0 rfl rfl)) ?_
  refine U.p rfl rfl (.inl rfl) (S.extract rfl (L 0 rfl rfl) rfl (nr rfl)) ?_
  refine U.p rfl rfl (.inl rfl) (S.extract rfl (L 1 rfl rfl) rfl (nr rfl)) ?_
  refine O.alloc ow28 rfl rfl (.inl rfl) rfl ti37 rfl rfl nd (fun b29 V30 le31 ow32 => ?_)
  refine O.store (k := 0) (cs := [.string x21.1.name, .bool x21.1.d, .bool x21.1.a, .bool x21.1.b, .int .i64 x21.1.imm, .int .u32 x21.1.word]) (c' := [.string x21.1.name, .bool x21.1.d, .bool x21.1.a, .bool x21.1.b, .int .i64 x21.1.imm, .int .u32 x21.1.word]) ow32 rfl rfl rfl (.inl rfl) rfl (L 0 rfl rfl) (L 2 rfl rfl) ti37 (by simp [topV]) rfl rfl (nr rfl) rfl rfl nd (fun V34 le35 ow36 => ?_)
  refine U.p rfl rfl (.inl rfl) (S.assign rfl (L 1 rfl rfl)) ?_
  refine U.done (nr rfl) ?_
  refine WP.seq ?_
  refine WP.usreg rfl ?_
  refine U.p (v := .pointer (some ⟨b1, 0, none⟩)) rfl rfl (.inl rfl) (S.fieldAddr rfl (L 12 rfl rfl) Tryd.underlying25 rfl ti3 rfl rfl) ?_
  refine U.k rfl rfl (.inl rfl) (S.load rfl (L 0 rfl rfl) Tryd.underlying3 rfl ((ow36.own (k := 1) rfl).cell rfl)) nd ?_
  refine U.p rfl rfl (.inl rfl) (S.eqlI rfl (L 0 rfl rfl) K) ?_
  refine U.done (nr rfl) ?_
  refine WP.cond _ (L 0 rfl rfl) rfl (fun c37 => ?_) (fun c37 => ?_)
  ·have h38 := ifT c37 h23
   refine WP.usreg rfl ?_
   refine U.p (v := .agg (([.string str41, .string str42, .string str43, .string str44, .string str45, .string str46] : List Value)).toArray) rfl rfl (.inl rfl) (S.buildA (vs := [.string str41, .string str42, .string str43, .string str44, .string str45, .string str46]) rfl ti68 rfl Tryd.underlying68 ti9 (aC K (aC K (aC K (aC K (aC K (aC K aN)))))) (allC (by simp [topV]) (allC (by simp [topV]) (allC (by simp [topV]) (allC (by simp [topV]) (allC (by simp [topV]) (allC (by simp [topV]) allN)))))) (fill1 rfl rfl (nr rfl) (fill1 rfl rfl (nr rfl) (fill1 rfl rfl (nr rfl) (fill1 rfl rfl (nr rfl) (fill1 rfl rfl (nr rfl) (fill1 rfl rfl (nr rfl) rfl))))))) ?_
   refine U.p (v := .pointer (some ⟨b1, 2, none⟩)) rfl rfl (.inl rfl) (S.fieldAddr rfl (L 16 rfl rfl) Tryd.underlying25 rfl ti3 rfl rfl) ?_
   refine U.k rfl rfl (.inl rfl) (S.load rfl (L 0 rfl rfl) Tryd.underlying3 rfl ((ow36.own (k := 1) rfl).cell rfl)) nd ?_
   refine U.p (v := .pointer (some ⟨b1, 1, none⟩)) rfl rfl (.inl rfl) (S.fieldAddr rfl (L 18 rfl rfl) Tryd.underlying25 rfl ti3 rfl rfl) ?_
   refine U.k rfl rfl (.inl rfl) (S.load rfl (L 0 rfl rfl) Tryd.underlying3 rfl ((ow36.own (k := 1) rfl).cell rfl)) nd ?_
   obtain ⟨x39, hx40, h41⟩ := bindS h38
   refine U.p rfl rfl (.inl rfl) (S.quo hx40 rfl (L 0 rfl rfl) K) ?_
   refine U.p rfl rfl (.inl rfl) (S.mul rfl K (L 0 rfl rfl)) ?_
   refine U.p rfl rfl (.inl rfl) (S.add rfl (L 4 rfl rfl) (L 0 rfl rfl)) ?_
   obtain ⟨x42, hx43, h44⟩ := bindS h41
   refine O.indexV (show Rows RT.str.rel V34 [.string str41, .string str42, .string str43, .string str44, .string str45, .string str46] ([str41, str42, str43, str44, str45, str46] : List ByteArray) from (.cons [_] _ _ _ rfl (.cons [_] _ _ _ rfl (.cons [_] _ _ _ rfl (.cons [_] _ _ _ rfl (.cons [_] _ _ _ rfl (.cons [_] _ _ _ rfl .nil))))))) rfl rfl rfl (.inl rfl) rfl (L 7 rfl rfl) (L 0 rfl rfl) Tryd.underlying68 rfl Tryd.underlying9 rfl ti9 hx43 (fun u45 hr46 => ?_)
   obtain rfl : u45 = .string x42 := (List.cons.inj hr46).1
   refine U.p rfl rfl (.inl rfl) (S.assign rfl (L 0 rfl rfl)) ?_
   refine U.done (nr rfl) ?_
   refine WP.usreg rfl ?_
   refine U.p rfl rfl (.inl rfl) (S.move rfl (L 0 rfl rfl)) ?_
   obtain ⟨x48, hx49, h50⟩ := bindS h44
   refine U.p rfl rfl (.inl rfl) (S.addS hx49 rfl (L 0 rfl rfl) K) ?_
   refine U.p (v := .pointer (some ⟨b1, 4, none⟩)) rfl rfl (.inl rfl) (S.fieldAddr rfl (L 27 rfl rfl) Tryd.underlying25 rfl ti3 rfl rfl) ?_
   refine U.k rfl rfl (.inl rfl) (S.load rfl (L 0 rfl rfl) Tryd.underlying3 rfl ((ow36.own (k := 1) rfl).cell rfl)) nd ?_
   obtain ⟨x51, hx52, h53⟩ := bindS h50
   refine O.call (V := V34) rfl rfl (.inl rfl) rfl en35 (aC (L 0 rfl rfl) aN) (wk_strconv_Itoa V34 _ (gl.up ((((le3.trans le11).trans le26).trans le31).trans le35)) p0.imm ow36 _ hx52) (fun _ _ _ _ => nd) (fun v54 V55 le56 hp57 => ?_)
   obtain ⟨rfl, ow58⟩ := hp57
   obtain ⟨x59, hx60, h61⟩ := bindS h53
   refine U.p rfl rfl (.inl rfl) (S.addS hx60 rfl (L 3 rfl rfl) (L 0 rfl rfl)) ?_
   refine U.p rfl rfl (.inl rfl) (S.assign rfl (L 0 rfl rfl)) ?_
   refine U.done (nr rfl) ?_
   refine WP.ret ?_
   refine sqR ?_
   refine fin.slot (.inr rfl) rfl (L 0 rfl rfl) ⟨V55, rfl, (((((le3.trans le11).trans le26).trans le31).trans le35).trans le56), ?_⟩
   have ow62 := ow58.drop 0 rfl
   have ow63 := ow62.drop 0 rfl
   have e64 := Option.some.inj h61
   subst e64
   exact ⟨rfl, ow63⟩
  ·have h65 := ifF c37 h23
   refine WP.skip ?_
   refine sqN ?_
   refine WP.usreg rfl ?_
   refine U.p rfl rfl (.inl rfl) (S.assign rfl K) ?_
   refine U.done (nr rfl) ?_
   refine WP.seq ?_
   refine WP.usreg rfl ?_
   refine U.p (v := .pointer (some ⟨b1, 1, none⟩)) rfl rfl (.inl rfl) (S.fieldAddr rfl (L 16 rfl rfl) Tryd.underlying25 rfl ti3 rfl rfl) ?_
   refine U.k rfl rfl (.inl rfl) (S.load rfl (L 0 rfl rfl) Tryd.underlying3 rfl ((ow36.own (k := 1) rfl).cell rfl)) nd ?_
   refine U.p (v := .pointer (some ⟨b1, 2, none⟩)) rfl rfl (.inl rfl) (S.fieldAddr rfl (L 18 rfl rfl) Tryd.underlying25 rfl ti3 rfl rfl) ?_
   refine U.k rfl rfl (.inl rfl) (S.load rfl (L 0 rfl rfl) Tryd.underlying3 rfl ((ow36.own (k := 1) rfl).cell rfl)) nd ?_
   refine U.p (v := .pointer (some ⟨b1, 3, none⟩)) rfl rfl (.inl rfl) (S.fieldAddr rfl (L 20 rfl rfl) Tryd.underlying25 rfl ti3 rfl rfl) ?_
   refine U.k rfl rfl (.inl rfl) (S.load rfl (L 0 rfl rfl) Tryd.underlying3 rfl ((ow36.own (k := 1) rfl).cell rfl)) nd ?_
   refine U.p (v := .agg (([.int .i64 p0.d, .int .i64 p0.a, .int .i64 p0.b] : List Value)).toArray) rfl rfl (.inl rfl) (S.buildA (vs := [.int .i64 p0.d, .int .i64 p0.a, .int .i64 p0.b]) rfl ti69 rfl Tryd.underlying69 ti3 (aC (L 4 rfl rfl) (aC (L 2 rfl rfl) (aC (L 0 rfl rfl) aN))) (allC (by simp [topV]) (allC (by simp [topV]) (allC (by simp [topV]) allN))) (fill1 rfl rfl (nr rfl) (fill1 rfl rfl (nr rfl) (fill1 rfl rfl (nr rfl) rfl)))) ?_
   refine U.p rfl rfl (.inl rfl) (S.move rfl K) ?_
   refine U.done (nr rfl) ?_
   refine WP.blk ?_
   have ow68 := ow36.pick 0 rfl
   have ow69 := ow68.pick 1 rfl
   unfold ref02_Text_l1 at h65
   obtain ⟨n71, hn70⟩ := loopO_some.1 h65
   refine WP.loopI2 (fun n l V' => ∃ (x66 : ByteArray) (x67 : Int), l = [(1, .pointer (some ⟨b1, 0, none⟩)), (3, .pointer (some ⟨b29, 0, none⟩)), (6, .string x66), (42, .agg (([.int .i64 p0.d, .int .i64 p0.a, .int .i64 p0.b] : List Value)).toArray), (43, .int .i64 x67)] ∧ V34.le V' ∧ Ow V' (.pt b1 (.cells 0 [.int .i64 p0.op, .int .i64 p0.d, .int .i64 p0.a, .int .i64 p0.b, .int .i64 p0.imm]) :: .pt b29 (.cells 6 [.string x21.1.name, .bool x21.1.d, .bool x21.1.a, .bool x21.1.b, .int .i64 x21.1.imm, .int .u32 x21.1.word]) :: Rs) ∧ itO (fun s => ref02_Text_l1b p0 x21 s.1 s.2) n (x66, x67) = some r) n71 _ ⟨ByteArray.empty, 0, rfl, .refl _, ow69, hn70⟩ (allCons (L 24 rfl rfl) (allCons (L 13 rfl rfl) (allCons (L 8 rfl rfl) (allCons (L 1 rfl rfl) (allCons (L 0 rfl rfl) allNil))))) ?_
   rintro _ _ V72 ⟨x66, x67, rfl, le73, ow74, h78⟩
   obtain ⟨m75, q76, rfl, h79, e77⟩ := itS h78
   replace h79 : ref02_Text_l1b p0 x21 x66 x67 = some q76 := h79
   unfold ref02_Text_l1b at h79
   refine WP.usreg rfl ?_
   refine U.p rfl rfl (.inl rfl) (S.lss rfl (L 4 rfl rfl) K) ?_
   refine U.done (nr rfl) ?_
   refine WP.seq ?_
   refine WP.cond _ (L 0 rfl rfl) rfl (fun c80 => ?_) (fun c80 => ?_)
   ·have h81 := ifT c80 h79
    refine WP.skip ?_
    refine sqN ?_
    refine WP.seqI (fun l V' => ∃ (x82 : ByteArray), l = [(1, .pointer (some ⟨b1, 0, none⟩)), (3, .pointer (some ⟨b29, 0, none⟩)), (6, .string x82), (42, .agg (([.int .i64 p0.d, .int .i64 p0.a, .int .i64 p0.b] : List Value)).toArray), (43, .int .i64 x67)] ∧ V72.le V' ∧ Ow V' (.pt b1 (.cells 0 [.int .i64 p0.op, .int .i64 p0.d, .int .i64 p0.a, .int .i64 p0.b, .int .i64 p0.imm]) :: .pt b29 (.cells 6 [.string x21.1.name, .bool x21.1.d, .bool x21.1.a, .bool x21.1.b, .int .i64 x21.1.imm, .int .u32 x21.1.word]) :: Rs) ∧ ref02_Text_k1 x67 x82 = some q76) ?_ ?_
    ·rintro _ V83 ⟨x82, rfl, le84, ow85, h86⟩
     unfold ref02_Text_k1 at h86
     refine WP.ureg rfl ?_
     refine U.p rfl rfl (.inl rfl) (S.add rfl (L 4 rfl rfl) K) ?_
     refine U.p rfl rfl (.inl rfl) (S.move rfl (L 0 rfl rfl)) ?_
     refine U.done (nr rfl) ?_
     refine sqN ?_
     exact ⟨_, V83, rfl, ⟨m75, Nat.lt_succ_self _, x82, w64 (x67 + 1), rfl, (le73.trans le84), ow85, backS h86 e77⟩, (allCons (L 2 rfl rfl) (allCons (L 3 rfl rfl) (allCons (L 4 rfl rfl) (allCons (L 5 rfl rfl) (allCons (L 0 rfl rfl) allNil)))))⟩
    ·skip
     refine WP.blk ?_
     refine WP.usreg rfl ?_
     refine U.p rfl rfl (.inl rfl) (S.move rfl (L 5 rfl rfl)) ?_
     obtain ⟨x87, hx88, h89⟩ := bindS h81
     refine O.indexV (show Rows (RT.int .i64).rel V34 [.int .i64 p0.d, .int .i64 p0.a, .int .i64 p0.b] ([p0.d, p0.a, p0.b] : List Int) from (.cons [_] _ _ _ rfl (.cons [_] _ _ _ rfl (.cons [_] _ _ _ rfl .nil)))) rfl rfl rfl (.inl rfl) rfl (L 5 rfl rfl) (L 6 rfl rfl) Tryd.underlying69 rfl Tryd.underlying3 rfl ti3 hx88 (fun u90 hr91 => ?_)
     obtain rfl : u90 = .int .i64 x87 := (List.cons.inj hr91).1
     refine U.p rfl rfl (.inl rfl) (S.assign rfl (L 1 rfl rfl)) ?_
     refine U.p rfl rfl (.inl rfl) (S.assign rfl (L 1 rfl rfl)) ?_
     refine U.done (nr rfl) ?_
     refine WP.usreg rfl ?_
     refine U.p (v := .pointer (some ⟨b29, 1, none⟩)) rfl rfl (.inl rfl) (S.fieldAddr rfl (L 6 rfl rfl) Tryd.underlying37 rfl ti4 rfl rfl) ?_
     refine U.k rfl rfl (.inl rfl) (S.load rfl (L 0 rfl rfl) Tryd.underlying4 rfl ((ow74.own (k := 1) rfl).cell rfl)) nd ?_
     refine U.p (v := .pointer (some ⟨b29, 2, none⟩)) rfl rfl (.inl rfl) (S.fieldAddr rfl (L 8 rfl rfl) Tryd.underlying37 rfl ti4 rfl rfl) ?_
     refine U.k rfl rfl (.inl rfl) (S.load rfl (L 0 rfl rfl) Tryd.underlying4 rfl ((ow74.own (k := 1) rfl).cell rfl)) nd ?_
     refine U.p (v := .pointer (some ⟨b29, 3, none⟩)) rfl rfl (.inl rfl) (S.fieldAddr rfl (L 10 rfl rfl) Tryd.underlying37 rfl ti4 rfl rfl) ?_
     refine U.k rfl rfl (.inl rfl) (S.load rfl (L 0 rfl rfl) Tryd.underlying4 rfl ((ow74.own (k := 1) rfl).cell rfl)) nd ?_
     refine U.p (v := .agg (([.bool x21.1.d, .bool x21.1.a, .bool x21.1.b] : List Value)).toArray) rfl rfl (.inl rfl) (S.buildA (vs := [.bool x21.1.d, .bool x21.1.a, .bool x21.1.b]) rfl ti70 rfl Tryd.underlying70 ti4 (aC (L 4 rfl rfl) (aC (L 2 rfl rfl) (aC (L 0 rfl rfl) aN))) (allC (by simp [topV]) (allC (by simp [topV]) (allC (by simp [topV]) allN))) (fill1 rfl rfl (nr rfl) (fill1 rfl rfl (nr rfl) (fill1 rfl rfl (nr rfl) rfl)))) ?_
     refine U.p rfl rfl (.inl rfl) (S.move rfl (L 8 rfl rfl)) ?_
     obtain ⟨x93, hx94, h95⟩ := bindS h89
     refine O.indexV (show Rows RT.bool.rel V72 [.bool x21.1.d, .bool x21.1.a, .bool x21.1.b] ([x21.1.d, x21.1.a, x21.1.b] : List Bool) from (.cons [_] _ _ _ rfl (.cons [_] _ _ _ rfl (.cons [_] _ _ _ rfl .nil)))) rfl rfl rfl (.inl rfl) rfl (L 1 rfl rfl) (L 0 rfl rfl) Tryd.underlying70 rfl Tryd.underlying4 rfl ti4 hx94 (fun u96 hr97 => ?_)
     obtain rfl : u96 = .bool x93 := (List.cons.inj hr97).1
     refine U.done (nr rfl) ?_
     refine WP.cond _ (L 0 rfl rfl) rfl (fun c99 => ?_) (fun c99 => ?_)
     ·have h100 := ifT c99 h95
      refine WP.ureg rfl ?_
      refine U.p rfl rfl (.inl rfl) (S.move rfl (L 16 rfl rfl)) ?_
      obtain ⟨x101, hx102, h103⟩ := bindS h100
      refine U.p rfl rfl (.inl rfl) (S.addS hx102 rfl (L 0 rfl rfl) K) ?_
      refine U.p rfl rfl (.inl rfl) (S.move rfl (L 11 rfl rfl)) ?_
      obtain ⟨x104, hx105, h106⟩ := bindS h103
      refine O.call (V := V72) rfl rfl (.inl rfl) rfl en35 (aC (L 0 rfl rfl) aN) (wk_strconv_Itoa V72 _ (gl.up (((((le3.trans le11).trans le26).trans le31).trans le35).trans le73)) x87 ow74 _ hx105) (fun _ _ _ _ => nd) (fun v107 V108 le109 hp110 => ?_)
      obtain ⟨rfl, ow111⟩ := hp110
      obtain ⟨x112, hx113, h114⟩ := bindS h106
      refine U.p rfl rfl (.inl rfl) (S.addS hx113 rfl (L 2 rfl rfl) (L 0 rfl rfl)) ?_
      refine U.p rfl rfl (.inl rfl) (S.assign rfl (L 0 rfl rfl)) ?_
      refine U.done (nr rfl) ?_
      refine blkN (sqN ?_)
      exact ⟨_, V108, rfl, ⟨x112, rfl, le109, ow111, h114⟩, (allCons (L 20 rfl rfl) (allCons (L 21 rfl rfl) (allCons (L 0 rfl rfl) (allCons (L 23 rfl rfl) (allCons (L 24 rfl rfl) allNil)))))⟩
     ·have h115 := ifF c99 h95
      refine WP.skip ?_
      refine blkN (sqN ?_)
      exact ⟨_, V72, rfl, ⟨x66, rfl, (.refl _), ow74, h115⟩, (allCons (L 14 rfl rfl) (allCons (L 15 rfl rfl) (allCons (L 16 rfl rfl) (allCons (L 17 rfl rfl) (allCons (L 18 rfl rfl) allNil)))))⟩
   ·have h116 := ifF c80 h79
    refine WP.exit ?_
    refine sqE (sqE (blkE (sqN ?_)))
    have h117 := exitS h116 e77
    refine WP.seqI (fun l V' => ∃ (x118 : ByteArray), l = [(3, .pointer (some ⟨b29, 0, none⟩)), (6, .string x118)] ∧ V72.le V' ∧ Ow V' (.pt b29 (.cells 6 [.string x21.1.name, .bool x21.1.d, .bool x21.1.a, .bool x21.1.b, .int .i64 x21.1.imm, .int .u32 x21.1.word]) :: Rs) ∧ ref02_Text_k2 x21 x118 = some r) ?_ ?_
    ·rintro _ V119 ⟨x118, rfl, le120, ow121, h122⟩
     unfold ref02_Text_k2 at h122
     refine WP.seq ?_
     refine WP.usreg rfl ?_
     refine U.p rfl rfl (.inl rfl) (S.move rfl (L 1 rfl rfl)) ?_
     refine U.p rfl rfl (.inl rfl) (S.eqlS rfl (L 0 rfl rfl) K) ?_
     refine U.done (nr rfl) ?_
     refine WP.cond _ (L 0 rfl rfl) rfl (fun c123 => ?_) (fun c123 => ?_)
     ·have h124 := ifT c123 h122
      refine WP.usreg rfl ?_
      refine U.p (v := .pointer (some ⟨b29, 0, none⟩)) rfl rfl (.inl rfl) (S.fieldAddr rfl (L 2 rfl rfl) Tryd.underlying37 rfl ti9 rfl rfl) ?_
      refine U.k rfl rfl (.inl rfl) (S.load rfl (L 0 rfl rfl) Tryd.underlying9 rfl ((ow121.own (k := 0) rfl).cell rfl)) nd ?_
      refine U.p rfl rfl (.inl rfl) (S.assign rfl (L 0 rfl rfl)) ?_
      refine U.done (nr rfl) ?_
      refine WP.ret ?_
      refine sqR ?_
      refine fin.slot (.inr rfl) rfl (L 0 rfl rfl) ⟨V119, rfl, ((((((le3.trans le11).trans le26).trans le31).trans le35).trans le73).trans le120), ?_⟩
      have ow125 := ow121.drop 0 rfl
      have e126 := Option.some.inj h124
      subst e126
      exact ⟨rfl, ow125⟩
     ·have h127 := ifF c123 h122
      refine WP.skip ?_
      refine sqN ?_
      refine WP.usdreg rfl rfl rfl ?_
      refine U.p (v := .pointer (some ⟨b29, 0, none⟩)) rfl rfl (.inl rfl) (S.fieldAddr rfl (L 2 rfl rfl) Tryd.underlying37 rfl ti9 rfl rfl) ?_
      refine U.k rfl rfl (.inl rfl) (S.load rfl (L 0 rfl rfl) Tryd.underlying9 rfl ((ow121.own (k := 0) rfl).cell rfl)) (fun _ => (okH.nil (fun r h => by cases h; exact (ow121.own (k := 0) rfl).lt))) ?_
      refine U.p rfl rfl (.inl rfl) (S.move rfl (L 5 rfl rfl)) ?_
      obtain ⟨sx128, hx129, h130⟩ := bindS h127
      refine U.p rfl rfl (.inl rfl) (S.sliceStr hx129 rfl (L 0 rfl rfl) Tryd.underlying9 ⟨.inr ⟨_, _, rfl, K⟩, .inl ⟨rfl, rfl⟩, .inl rfl⟩ rfl) ?_
      obtain ⟨x131, hx132, h133⟩ := bindS h130
      refine U.p rfl rfl (.inl rfl) (S.addS hx132 rfl (L 2 rfl rfl) (L 0 rfl rfl)) ?_
      refine U.p rfl rfl (.inl rfl) (S.assign rfl (L 0 rfl rfl)) ?_
      refine U.done (nr rfl) ?_
      refine WP.ret ?_
      refine fin.slot (.inr rfl) rfl (L 0 rfl rfl) ⟨V119, rfl, ((((((le3.trans le11).trans le26).trans le31).trans le35).trans le73).trans le120), ?_⟩
      have ow134 := ow121.drop 0 rfl
      have e135 := Option.some.inj h133
      subst e135
      exact ⟨rfl, ow134⟩
    ·skip
     refine WP.usreg rfl ?_
     refine U.p (v := .pointer (some ⟨b29, 4, none⟩)) rfl rfl (.inl rfl) (S.fieldAddr rfl (L 2 rfl rfl) Tryd.underlying37 rfl ti3 rfl rfl) ?_
     refine U.k rfl rfl (.inl rfl) (S.load rfl (L 0 rfl rfl) Tryd.underlying3 rfl ((ow74.own (k := 1) rfl).cell rfl)) nd ?_
     refine U.p rfl rfl (.inl rfl) (S.gtr rfl (L 0 rfl rfl) K) ?_
     refine U.done (nr rfl) ?_
     refine WP.cond _ (L 0 rfl rfl) rfl (fun c136 => ?_) (fun c136 => ?_)
     ·have h137 := ifT c136 h117
      refine WP.ureg rfl ?_
      refine U.p rfl rfl (.inl rfl) (S.move rfl (L 6 rfl rfl)) ?_
      obtain ⟨x138, hx139, h140⟩ := bindS h137
      refine U.p rfl rfl (.inl rfl) (S.addS hx139 rfl (L 0 rfl rfl) K) ?_
      refine U.p (v := .pointer (some ⟨b1, 4, none⟩)) rfl rfl (.inl rfl) (S.fieldAddr rfl (L 6 rfl rfl) Tryd.underlying25 rfl ti3 rfl rfl) ?_
      refine U.k rfl rfl (.inl rfl) (S.load rfl (L 0 rfl rfl) Tryd.underlying3 rfl ((ow74.own (k := 0) rfl).cell rfl)) nd ?_
      obtain ⟨x141, hx142, h143⟩ := bindS h140
      refine O.call (V := V72) rfl rfl (.inl rfl) rfl en35 (aC (L 0 rfl rfl) aN) (wk_strconv_Itoa V72 _ (gl.up (((((le3.trans le11).trans le26).trans le31).trans le35).trans le73)) p0.imm ow74 _ hx142) (fun _ _ _ _ => nd) (fun v144 V145 le146 hp147 => ?_)
      obtain ⟨rfl, ow148⟩ := hp147
      obtain ⟨x149, hx150, h151⟩ := bindS h143
      refine U.p rfl rfl (.inl rfl) (S.addS hx150 rfl (L 3 rfl rfl) (L 0 rfl rfl)) ?_
      refine U.p rfl rfl (.inl rfl) (S.assign rfl (L 0 rfl rfl)) ?_
      refine U.done (nr rfl) ?_
      refine sqN ?_
      have ow152 := ow148.drop 0 rfl
      exact ⟨_, V145, rfl, ⟨x149, rfl, le146, ow152, h151⟩, (allCons (L 12 rfl rfl) (allCons (L 0 rfl rfl) allNil))⟩
     ·have h153 := ifF c136 h117
      refine WP.skip ?_
      refine sqN ?_
      have ow154 := ow74.drop 0 rfl
      exact ⟨_, V72, rfl, ⟨x66, rfl, (.refl _), ow154, h153⟩, (allCons (L 5 rfl rfl) (allCons (L 6 rfl rfl) allNil))⟩
set_option maxHeartbeats 4000000 in
set_option maxRecDepth 10000 in
theorem wk_law02_IsaWrites (V : Vw) (Rs : List At) (gl : Glb V) (p0 : TInst) (ow : Ow V (Rs)) (r : Bool) (h : law02_IsaWrites p0 = some r) : ∃ v V', Cl Tryd.prog NG 7 #[.agg #[.int .i64 p0.op, .int .i64 p0.d, .int .i64 p0.a, .int .i64 p0.b, .int .i64 p0.imm]] V.H v V'.H ∧ V.le V' ∧ (v = .bool r ∧ Ow V' (Rs)) := by
 refine Ct.of gl.lo Tryd.func7 rfl (nr rfl) ?_
 unfold law02_IsaWrites at h
 refine WP.usreg rfl ?_
 refine O.box ow rfl rfl (.inl rfl) rfl (L 0 rfl rfl) (by simp [topV]) rfl nd (fun b1 V2 le3 ow4 => ?_)
 refine U.p rfl rfl (.inl rfl) (S.assign rfl K) ?_
 refine U.done (nr rfl) ?_
 refine WP.seq ?_
 refine WP.usreg rfl ?_
 obtain ⟨x6, hx7, h8⟩ := bindS h
 refine O.call (V := V2) rfl rfl (.inl rfl) rfl en10 aN (wk_law02_alive V2 _ (gl.up le3) ow4 _ hx7) (fun _ _ _ _ => nd) (fun v9 V10 le11 hp12 => ?_)
 obtain ⟨rfl, ow13⟩ := hp12
 refine U.p rfl rfl (.inl rfl) (S.not rfl (L 0 rfl rfl)) ?_
 refine U.done (nr rfl) ?_
 refine WP.cond _ (L 0 rfl rfl) rfl (fun c14 => ?_) (fun c14 => ?_)
 ·have h15 := ifT c14 h8
  have k16 : x6 = false := nT c14
  refine WP.usreg rfl ?_
  refine U.p rfl rfl (.inl rfl) (S.assign rfl K) ?_
  refine U.done (nr rfl) ?_
  refine WP.ret ?_
  refine sqR ?_
  refine fin.slot (.inr rfl) rfl (L 0 rfl rfl) ⟨V10, rfl, (le3.trans le11), ?_⟩
  have ow17 := ow13.drop 0 rfl
  have e18 := Option.some.inj h15
  subst e18
  exact ⟨rfl, ow17⟩
 ·have h19 := ifF c14 h8
  have k20 : x6 = true := nF c14
  refine WP.skip ?_
  refine sqN ?_
  refine WP.usreg rfl ?_
  refine U.k rfl rfl (.inl rfl) (S.loadB rfl (L 3 rfl rfl) Tryd.underlying25 rfl ti25 (ow13.own (k := 0) rfl).get rfl) nd ?_
  obtain ⟨x21, hx22, h23⟩ := bindS h19
  refine O.call (V := V10) rfl rfl (.inl rfl) rfl en16 (aC (L 0 rfl rfl) aN) (wk_ref02_Good V10 _ (gl.up (le3.trans le11)) p0 ow13 _ hx22) (fun _ _ _ _ => nd) (fun v24 V25 le26 hp27 => ?_)
  obtain ⟨rfl, ow28⟩ := hp27
  refine U.p rfl rfl (.inl rfl) (S.assign rfl (L 0 rfl rfl)) ?_
  refine U.done (nr rfl) ?_
  refine WP.usreg rfl ?_
  refine U.k rfl rfl (.inl rfl) (S.loadB rfl (L 6 rfl rfl) Tryd.underlying25 rfl ti25 (ow28.own (k := 0) rfl).get rfl) nd ?_
  obtain ⟨x29, hx30, h31⟩ := bindS h23
  refine O.call (V := V25) rfl rfl (.inl rfl) rfl en13 (aC (L 0 rfl rfl) aN) (wk_isa_Encode V25 _ (gl.up ((le3.trans le11).trans le26)) p0 ow28 _ hx30) (fun _ _ _ _ => nd) (fun v32 V33 le34 hp35 => ?_)
  obtain ⟨rfl, ow36⟩ := hp35
  refine U.p rfl rfl (.inl rfl) (S.move rfl (L 0 rfl rfl)) ?_
  refine U.p rfl rfl (.inl rfl) (S.extract rfl (L 0 rfl rfl) rfl (nr rfl)) ?_
  refine U.p rfl rfl (.inl rfl) (S.extract rfl (L 1 rfl rfl) rfl (nr rfl)) ?_
  refine U.p rfl rfl (.inl rfl) (S.assign rfl (L 1 rfl rfl)) ?_
  refine U.p rfl rfl (.inl rfl) (S.assign rfl (L 1 rfl rfl)) ?_
  refine U.done (nr rfl) ?_
  refine WP.seq ?_
  refine WP.seqI (fun l V' => ∃ (x37 : Bool), l = [(1, .pointer (some ⟨b1, 0, none⟩)), (3, .bool x21), (4, .int .u32 x29.1), (5, .int .i64 x29.2), (31, .bool x37)] ∧ V33.le V' ∧ Ow V' (.pt b1 (.cells 0 [.int .i64 p0.op, .int .i64 p0.d, .int .i64 p0.a, .int .i64 p0.b, .int .i64 p0.imm]) :: Rs) ∧ law02_IsaWrites_k1 p0 x21 x29 x37 = some r) ?_ ?_
  ·rintro _ V38 ⟨x37, rfl, le39, ow40, h41⟩
   unfold law02_IsaWrites_k1 at h41
   refine WP.cond _ (L 4 rfl rfl) rfl (fun c42 => ?_) (fun c42 => ?_)
   ·have h43 := ifT c42 h41
    refine WP.usreg rfl ?_
    refine U.p rfl rfl (.inl rfl) (S.assign rfl K) ?_
    refine U.done (nr rfl) ?_
    refine WP.ret ?_
    refine sqR ?_
    refine fin.slot (.inr rfl) rfl (L 0 rfl rfl) ⟨V38, rfl, ((((le3.trans le11).trans le26).trans le34).trans le39), ?_⟩
    have ow44 := ow40.drop 0 rfl
    have e45 := Option.some.inj h43
    subst e45
    exact ⟨rfl, ow44⟩
   ·have h46 := ifF c42 h41
    refine WP.skip ?_
    refine sqN ?_
    refine WP.usreg rfl ?_
    refine U.p rfl rfl (.inl rfl) (S.move rfl (L 1 rfl rfl)) ?_
    refine U.p rfl rfl (.inl rfl) (S.move rfl (L 0 rfl rfl)) ?_
    obtain ⟨y47, hy48, h49⟩ := bindS h46
    refine U.joinX 7 (fun e H => ∃ (u50 u51 u52 u53 : Value), ∃ V' : Vw, H = V'.H ∧ V38.le V' ∧ e = [(38, .bool y47), (37, u50), (36, u51), (35, u52), (34, u53)] ∧ Ow V' (.pt b1 (.cells 0 [.int .i64 p0.op, .int .i64 p0.d, .int .i64 p0.a, .int .i64 p0.b, .int .i64 p0.imm]) :: Rs)) ?_ ?_
    ·rintro _ _ ⟨u50, u51, u52, u53, V54, rfl, le55, rfl, ow56⟩
     refine U.p rfl rfl (.inl rfl) (S.move rfl (L 0 rfl rfl)) ?_
     refine U.joinX 19 (fun e H => ∃ (u57 u58 u59 u60 u61 u62 u63 u64 u65 u66 : Value), H = V54.H ∧ e = [(50, .bool (y47 || (((!x21) && (decide (x29.2 = 1))) && (decide (x29.1 = 0))))), (49, u57), (48, u58), (47, u59), (46, u60), (45, u61), (44, u62), (43, u63), (42, u64), (41, u65), (40, u66)]) ?_ ?_
     ·rintro _ _ ⟨u57, u58, u59, u60, u61, u62, u63, u64, u65, u66, rfl, rfl⟩
      refine U.p rfl rfl (.inl rfl) (S.assign rfl (L 0 rfl rfl)) ?_
      refine U.done (nr rfl) ?_
      refine WP.ret ?_
      refine fin.slot (.inr rfl) rfl (L 0 rfl rfl) ⟨V54, rfl, (((((le3.trans le11).trans le26).trans le34).trans le39).trans le55), ?_⟩
      have ow70 := ow56.drop 0 rfl
      have e71 := Option.some.inj h49
      subst e71
      exact ⟨rfl, ow70⟩
     ·intro kk
      refine bcase (b := y47) (fun g72 => ?_) (fun g72 => ?_)
      ·skip
       refine U.x rfl rfl rfl rfl ((L 0 rfl rfl).trans (congrArg Value.bool g72)) (by decide) ?_
       refine U.x rfl rfl rfl rfl ((L 1 rfl rfl).trans (congrArg Value.bool g72)) (by decide) ?_
       refine U.x rfl rfl rfl rfl ((L 2 rfl rfl).trans (congrArg Value.bool g72)) (by decide) ?_
       refine U.z rfl rfl rfl rfl (L 0 rfl rfl) ?_
       refine U.z rfl rfl rfl rfl (L 1 rfl rfl) ?_
       refine U.x rfl rfl rfl rfl ((L 5 rfl rfl).trans (congrArg Value.bool g72)) (by decide) ?_
       refine U.x rfl rfl rfl rfl ((L 6 rfl rfl).trans (congrArg Value.bool g72)) (by decide) ?_
       refine U.z rfl rfl rfl rfl (L 0 rfl rfl) ?_
       refine U.z rfl rfl rfl rfl (L 1 rfl rfl) ?_
       refine U.x rfl rfl rfl rfl ((L 9 rfl rfl).trans (congrArg Value.bool g72)) (by decide) ?_
       refine U.p rfl rfl (.inl rfl) (S.pickT rfl ((L 10 rfl rfl).trans (congrArg Value.bool g72)) K) ?_
       exact kk [(50, .bool true), (49, .tuple #[]), (48, .tuple #[]), (47, .tuple #[]), (46, .tuple #[]), (45, .tuple #[]), (44, .tuple #[]), (43, .tuple #[]), (42, .tuple #[]), (41, .tuple #[]), (40, .tuple #[])] _ ⟨.tuple #[], .tuple #[], .tuple #[], .tuple #[], .tuple #[], .tuple #[], .tuple #[], .tuple #[], .tuple #[], .tuple #[], rfl, (by rw [g72, Bool.true_or])⟩
      ·skip
       refine U.p rfl rfl (.inr ⟨_, _, _, rfl, rfl, ((L 0 rfl rfl).trans (congrArg Value.bool g72))⟩) (S.move rfl (L 9 rfl rfl)) ?_
       refine U.p rfl rfl (.inr ⟨_, _, _, rfl, rfl, ((L 1 rfl rfl).trans (congrArg Value.bool g72))⟩) (S.not rfl (L 0 rfl rfl)) ?_
       refine U.p rfl rfl (.inr ⟨_, _, _, rfl, rfl, ((L 2 rfl rfl).trans (congrArg Value.bool g72))⟩) (S.move rfl (L 0 rfl rfl)) ?_
       refine U.joinX 14 (fun e H => ∃ (u73 u74 : Value), H = V54.H ∧ e = [(45, .bool ((!x21) && (decide (x29.2 = 1)))), (44, u73), (43, u74)]) ?_ ?_
       ·rintro _ _ ⟨u73, u74, rfl, rfl⟩
        refine U.p rfl rfl (.inr ⟨_, _, _, rfl, rfl, ((L 6 rfl rfl).trans (congrArg Value.bool g72))⟩) (S.move rfl (L 0 rfl rfl)) ?_
        refine U.joinX 18 (fun e H => ∃ (u78 u79 : Value), H = V54.H ∧ e = [(49, .bool (((!x21) && (decide (x29.2 = 1))) && (decide (x29.1 = 0)))), (48, u78), (47, u79)]) ?_ ?_
        ·rintro _ _ ⟨u78, u79, rfl, rfl⟩
         refine U.p rfl rfl (.inl rfl) (S.pickF rfl ((L 10 rfl rfl).trans (congrArg Value.bool g72)) (L 0 rfl rfl)) ?_
         exact kk [(50, .bool (((!x21) && (decide (x29.2 = 1))) && (decide (x29.1 = 0)))), (49, .bool (((!x21) && (decide (x29.2 = 1))) && (decide (x29.1 = 0)))), (48, u78), (47, u79), (46, .bool ((!x21) && (decide (x29.2 = 1)))), (45, .bool ((!x21) && (decide (x29.2 = 1)))), (44, u73), (43, u74), (42, .bool (!x21)), (41, .bool (!x21)), (40, .bool x21)] _ ⟨.bool (((!x21) && (decide (x29.2 = 1))) && (decide (x29.1 = 0))), u78, u79, .bool ((!x21) && (decide (x29.2 = 1))), .bool ((!x21) && (decide (x29.2 = 1))), u73, u74, .bool (!x21), .bool (!x21), .bool x21, rfl, (by rw [g72, Bool.false_or])⟩
        ·intro kk
         refine bcase (b := (!x21) && (decide (x29.2 = 1))) (fun g83 => ?_) (fun g83 => ?_)
         ·skip
          refine U.p rfl rfl (.inr ⟨_, _, _, rfl, rfl, ((L 0 rfl rfl).trans (congrArg Value.bool g83))⟩) (S.move rfl (L 17 rfl rfl)) ?_
          refine U.p rfl rfl (.inr ⟨_, _, _, rfl, rfl, ((L 1 rfl rfl).trans (congrArg Value.bool g83))⟩) (S.eqlI rfl (L 0 rfl rfl) K) ?_
          refine U.p rfl rfl (.inr ⟨_, _, _, rfl, rfl, ((L 9 rfl rfl).trans (congrArg Value.bool g72))⟩) (S.pickT rfl ((L 2 rfl rfl).trans (congrArg Value.bool g83)) (L 0 rfl rfl)) ?_
          exact kk [(49, .bool (decide (x29.1 = 0))), (48, .bool (decide (x29.1 = 0))), (47, .int .u32 x29.1)] _ ⟨.bool (decide (x29.1 = 0)), .int .u32 x29.1, rfl, (by rw [g83, Bool.true_and])⟩
         ·skip
          refine U.x rfl rfl rfl rfl ((L 0 rfl rfl).trans (congrArg Value.bool g83)) (by decide) ?_
          refine U.x rfl rfl rfl rfl ((L 1 rfl rfl).trans (congrArg Value.bool g83)) (by decide) ?_
          refine U.p rfl rfl (.inr ⟨_, _, _, rfl, rfl, ((L 9 rfl rfl).trans (congrArg Value.bool g72))⟩) (S.pickF rfl ((L 2 rfl rfl).trans (congrArg Value.bool g83)) K) ?_
          exact kk [(49, .bool false), (48, .tuple #[]), (47, .tuple #[])] _ ⟨.tuple #[], .tuple #[], rfl, (by rw [g83, Bool.false_and])⟩
       ·intro kk
        refine bcase (b := !x21) (fun g84 => ?_) (fun g84 => ?_)
        ·skip
         have k85 : x21 = false := nT g84
         refine U.p rfl rfl (.inr ⟨_, _, _, rfl, rfl, ((L 0 rfl rfl).trans (congrArg Value.bool g84))⟩) (S.move rfl (L 14 rfl rfl)) ?_
         refine U.p rfl rfl (.inr ⟨_, _, _, rfl, rfl, ((L 1 rfl rfl).trans (congrArg Value.bool g84))⟩) (S.eqlI rfl (L 0 rfl rfl) K) ?_
         refine U.p rfl rfl (.inr ⟨_, _, _, rfl, rfl, ((L 5 rfl rfl).trans (congrArg Value.bool g72))⟩) (S.pickT rfl ((L 2 rfl rfl).trans (congrArg Value.bool g84)) (L 0 rfl rfl)) ?_
         exact kk [(45, .bool (decide (x29.2 = 1))), (44, .bool (decide (x29.2 = 1))), (43, .int .i64 x29.2)] _ ⟨.bool (decide (x29.2 = 1)), .int .i64 x29.2, rfl, (by rw [g84, Bool.true_and])⟩
        ·skip
         have k86 : x21 = true := nF g84
         refine U.x rfl rfl rfl rfl ((L 0 rfl rfl).trans (congrArg Value.bool g84)) (by decide) ?_
         refine U.x rfl rfl rfl rfl ((L 1 rfl rfl).trans (congrArg Value.bool g84)) (by decide) ?_
         refine U.p rfl rfl (.inr ⟨_, _, _, rfl, rfl, ((L 5 rfl rfl).trans (congrArg Value.bool g72))⟩) (S.pickF rfl ((L 2 rfl rfl).trans (congrArg Value.bool g84)) K) ?_
         exact kk [(45, .bool false), (44, .tuple #[]), (43, .tuple #[])] _ ⟨.tuple #[], .tuple #[], rfl, (by rw [g84, Bool.false_and])⟩
    ·intro kk
     refine bcase (b := x21) (fun g87 => ?_) (fun g87 => ?_)
     ·have h88 := ifT g87 hy48
      refine U.p rfl rfl (.inr ⟨_, _, _, rfl, rfl, ((L 0 rfl rfl).trans (congrArg Value.bool g87))⟩) (S.move rfl (L 4 rfl rfl)) ?_
      refine U.k rfl rfl (.inr ⟨_, _, _, rfl, rfl, ((L 1 rfl rfl).trans (congrArg Value.bool g87))⟩) (S.loadB rfl (L 3 rfl rfl) Tryd.underlying25 rfl ti25 (ow40.own (k := 0) rfl).get rfl) nd ?_
      obtain ⟨x89, hx90, h91⟩ := bindS h88
      refine O.call (V := V38) rfl rfl (.inr ⟨_, _, _, rfl, rfl, ((L 2 rfl rfl).trans (congrArg Value.bool g87))⟩) rfl en23 (aC (L 0 rfl rfl) aN) (wk_ref02_Encode V38 _ (gl.up ((((le3.trans le11).trans le26).trans le34).trans le39)) p0 ow40 _ hx90) (fun _ _ _ _ => nd) (fun v92 V93 le94 hp95 => ?_)
      obtain ⟨rfl, ow96⟩ := hp95
      refine U.p rfl rfl (.inr ⟨_, _, _, rfl, rfl, ((L 3 rfl rfl).trans (congrArg Value.bool g87))⟩) (S.eqlI rfl (L 2 rfl rfl) (L 0 rfl rfl)) ?_
      refine U.p rfl rfl (.inl rfl) (S.pickT rfl ((L 4 rfl rfl).trans (congrArg Value.bool g87)) (L 0 rfl rfl)) ?_
      have e97 := Option.some.inj h91
      subst e97
      exact kk [(38, .bool (decide (x29.1 = x89))), (37, .bool (decide (x29.1 = x89))), (36, .int .u32 x89), (35, .agg #[.int .i64 p0.op, .int .i64 p0.d, .int .i64 p0.a, .int .i64 p0.b, .int .i64 p0.imm]), (34, .int .u32 x29.1)] _ ⟨.bool (decide (x29.1 = x89)), .int .u32 x89, .agg #[.int .i64 p0.op, .int .i64 p0.d, .int .i64 p0.a, .int .i64 p0.b, .int .i64 p0.imm], .int .u32 x29.1, V93, rfl, le94, rfl, ow96⟩
     ·have h98 := ifF g87 hy48
      refine U.x rfl rfl rfl rfl ((L 0 rfl rfl).trans (congrArg Value.bool g87)) (by decide) ?_
      refine U.x rfl rfl rfl rfl ((L 1 rfl rfl).trans (congrArg Value.bool g87)) (by decide) ?_
      refine U.x rfl rfl rfl rfl ((L 2 rfl rfl).trans (congrArg Value.bool g87)) (by decide) ?_
      refine U.x rfl rfl rfl rfl ((L 3 rfl rfl).trans (congrArg Value.bool g87)) (by decide) ?_
      refine U.p rfl rfl (.inl rfl) (S.pickF rfl ((L 4 rfl rfl).trans (congrArg Value.bool g87)) K) ?_
      have e99 := Option.some.inj h98
      subst e99
      exact kk [(38, .bool false), (37, .tuple #[]), (36, .tuple #[]), (35, .tuple #[]), (34, .tuple #[])] _ ⟨.tuple #[], .tuple #[], .tuple #[], .tuple #[], V38, rfl, (.refl _), rfl, ow40⟩
  ·skip
   refine WP.udreg rfl rfl rfl ?_
   refine U.k rfl rfl (.inl rfl) (S.loadB rfl (L 13 rfl rfl) Tryd.underlying25 rfl ti25 (ow36.own (k := 0) rfl).get rfl) (fun _ => (okH.nil (fun r h => by cases h; exact (ow36.own (k := 0) rfl).lt))) ?_
   obtain ⟨x100, hx101, h102⟩ := bindS h31
   refine O.call (V := V33) rfl rfl (.inl rfl) rfl en14 (aC (L 0 rfl rfl) aN) (wk_isa_Good V33 _ (gl.up (((le3.trans le11).trans le26).trans le34)) p0 ow36 _ hx101) (fun v103 V104 le105 hp106 => by obtain ⟨rfl, ow107⟩ := hp106; exact (fun _ => (okH.cons (Or.inl rfl) (okH.nil (fun r h => nomatch h))))) (fun v103 V104 le105 hp106 => ?_)
   obtain ⟨rfl, ow107⟩ := hp106
   refine U.p rfl rfl (.inl rfl) (S.move rfl (L 9 rfl rfl)) ?_
   refine U.p rfl rfl (.inl rfl) (S.neqB rfl (L 1 rfl rfl) (L 0 rfl rfl) Tryd.underlying4) ?_
   refine U.p rfl rfl (.inl rfl) (S.move rfl (L 0 rfl rfl)) ?_
   refine bcase (b := !(x100 == x21)) (fun g108 => ?_) (fun g108 => ?_)
   ·have h109 := ifT g108 h102
    have k110 : (x100 == x21) = false := nT g108
    refine U.x rfl rfl rfl rfl ((L 0 rfl rfl).trans (congrArg Value.bool g108)) (by decide) ?_
    refine U.x rfl rfl rfl rfl ((L 1 rfl rfl).trans (congrArg Value.bool g108)) (by decide) ?_
    refine U.x rfl rfl rfl rfl ((L 2 rfl rfl).trans (congrArg Value.bool g108)) (by decide) ?_
    refine U.x rfl rfl rfl rfl ((L 3 rfl rfl).trans (congrArg Value.bool g108)) (by decide) ?_
    refine U.x rfl rfl rfl rfl ((L 4 rfl rfl).trans (congrArg Value.bool g108)) (by decide) ?_
    refine U.p rfl rfl (.inl rfl) (S.pickT rfl ((L 5 rfl rfl).trans (congrArg Value.bool g108)) K) ?_
    refine U.p rfl rfl (.inl rfl) (S.move rfl (L 0 rfl rfl)) ?_
    refine U.x rfl rfl rfl rfl (L 0 rfl rfl) (by decide) ?_
    refine U.x rfl rfl rfl rfl (L 1 rfl rfl) (by decide) ?_
    refine U.x rfl rfl rfl rfl (L 2 rfl rfl) (by decide) ?_
    refine U.x rfl rfl rfl rfl (L 3 rfl rfl) (by decide) ?_
    refine U.p rfl rfl (.inl rfl) (S.pickT rfl (L 4 rfl rfl) K) ?_
    refine U.done (nr rfl) ?_
    refine sqN ?_
    exact ⟨_, V104, rfl, ⟨true, rfl, le105, ow107, h109⟩, (allCons (L 30 rfl rfl) (allCons (L 24 rfl rfl) (allCons (L 18 rfl rfl) (allCons (L 17 rfl rfl) (allCons (L 0 rfl rfl) allNil)))))⟩
   ·have h111 := ifF g108 h102
    have k112 : (x100 == x21) = true := nF g108
    refine U.k rfl rfl (.inr ⟨_, _, _, rfl, rfl, ((L 0 rfl rfl).trans (congrArg Value.bool g108))⟩) (S.loadB rfl (L 18 rfl rfl) Tryd.underlying25 rfl ti25 (ow107.own (k := 0) rfl).get rfl) (fun _ => (okH.cons (Or.inl rfl) (okH.cons trivial (okH.nil (fun r h => by cases h; exact (ow107.own (k := 0) rfl).lt))))) ?_
    obtain ⟨x113, hx114, h115⟩ := bindS h111
    refine O.call (V := V104) rfl rfl (.inr ⟨_, _, _, rfl, rfl, ((L 1 rfl rfl).trans (congrArg Value.bool g108))⟩) rfl en21 (aC (L 0 rfl rfl) aN) (wk_isa_Text V104 _ (gl.up ((((le3.trans le11).trans le26).trans le34).trans le105)) p0 ow107 _ hx114) (fun v116 V117 le118 hp119 => by obtain ⟨rfl, ow120⟩ := hp119; exact (fun _ => (okH.cons (Or.inl rfl) (okH.cons rfl (okH.cons (Or.inl rfl) (okH.nil (fun r h => nomatch h))))))) (fun v116 V117 le118 hp119 => ?_)
    obtain ⟨rfl, ow120⟩ := hp119
    refine U.k rfl rfl (.inr ⟨_, _, _, rfl, rfl, ((L 2 rfl rfl).trans (congrArg Value.bool g108))⟩) (S.loadB rfl (L 20 rfl rfl) Tryd.underlying25 rfl ti25 (ow120.own (k := 0) rfl).get rfl) (fun _ => (okH.cons (Or.inr (Or.inl ((ow120.own (k := 0) rfl).get.trans (ow107.own (k := 0) rfl).get.symm))) (okH.cons trivial (okH.cons (Or.inl rfl) (okH.cons trivial (okH.nil (fun r h => by cases h; exact (ow120.own (k := 0) rfl).lt))))))) ?_
    obtain ⟨x121, hx122, h123⟩ := bindS h115
    refine O.call (V := V117) rfl rfl (.inr ⟨_, _, _, rfl, rfl, ((L 3 rfl rfl).trans (congrArg Value.bool g108))⟩) rfl en22 (aC (L 0 rfl rfl) aN) (wk_ref02_Text V117 _ (gl.up (((((le3.trans le11).trans le26).trans le34).trans le105).trans le118)) p0 ow120 _ hx122) (fun v124 V125 le126 hp127 => by obtain ⟨rfl, ow128⟩ := hp127; exact (fun _ => (okH.cons (Or.inl rfl) (okH.cons rfl (okH.cons (Or.inl rfl) (okH.cons rfl (okH.cons (Or.inl rfl) (okH.nil (fun r h => nomatch h))))))))) (fun v124 V125 le126 hp127 => ?_)
    obtain ⟨rfl, ow128⟩ := hp127
    refine U.p rfl rfl (.inr ⟨_, _, _, rfl, rfl, ((L 4 rfl rfl).trans (congrArg Value.bool g108))⟩) (S.neqS rfl (L 2 rfl rfl) (L 0 rfl rfl)) ?_
    refine U.p rfl rfl (.inl rfl) (S.pickF rfl ((L 5 rfl rfl).trans (congrArg Value.bool g108)) (L 0 rfl rfl)) ?_
    refine U.p rfl rfl (.inl rfl) (S.move rfl (L 0 rfl rfl)) ?_
    refine U.joinX 17 (fun e H => ∃ (u129 u130 u131 u132 : Value), H = V125.H ∧ e = [(31, .bool ((decide (x113 ≠ x121)) || (!((decide (x29.2 = 0)) == x21)))), (30, u129), (29, u130), (28, u131), (27, u132)]) ?_ ?_
    ·rintro _ _ ⟨u129, u130, u131, u132, rfl, rfl⟩
     refine U.done (nr rfl) ?_
     refine sqN ?_
     exact ⟨_, V125, rfl, ⟨(decide (x113 ≠ x121)) || (!((decide (x29.2 = 0)) == x21)), rfl, ((le105.trans le118).trans le126), ow128, h123⟩, (allCons (L 30 rfl rfl) (allCons (L 24 rfl rfl) (allCons (L 18 rfl rfl) (allCons (L 17 rfl rfl) (allCons (L 0 rfl rfl) allNil)))))⟩
    ·intro kk
     refine bcase (b := decide (x113 ≠ x121)) (fun g136 => ?_) (fun g136 => ?_)
     ·skip
      refine U.x rfl rfl rfl rfl ((L 0 rfl rfl).trans (congrArg Value.bool g136)) (by decide) ?_
      refine U.x rfl rfl rfl rfl ((L 1 rfl rfl).trans (congrArg Value.bool g136)) (by decide) ?_
      refine U.x rfl rfl rfl rfl ((L 2 rfl rfl).trans (congrArg Value.bool g136)) (by decide) ?_
      refine U.x rfl rfl rfl rfl ((L 3 rfl rfl).trans (congrArg Value.bool g136)) (by decide) ?_
      refine U.p rfl rfl (.inl rfl) (S.pickT rfl ((L 4 rfl rfl).trans (congrArg Value.bool g136)) K) ?_
      exact kk [(31, .bool true), (30, .tuple #[]), (29, .tuple #[]), (28, .tuple #[]), (27, .tuple #[])] _ ⟨.tuple #[], .tuple #[], .tuple #[], .tuple #[], rfl, (by rw [g136, Bool.true_or])⟩
     ·skip
      refine U.p rfl rfl (.inr ⟨_, _, _, rfl, rfl, ((L 0 rfl rfl).trans (congrArg Value.bool g136))⟩) (S.move rfl (L 12 rfl rfl)) ?_
      refine U.p rfl rfl (.inr ⟨_, _, _, rfl, rfl, ((L 1 rfl rfl).trans (congrArg Value.bool g136))⟩) (S.eqlI rfl (L 0 rfl rfl) K) ?_
      refine U.p rfl rfl (.inr ⟨_, _, _, rfl, rfl, ((L 2 rfl rfl).trans (congrArg Value.bool g136))⟩) (S.move rfl (L 21 rfl rfl)) ?_
      refine U.p rfl rfl (.inr ⟨_, _, _, rfl, rfl, ((L 3 rfl rfl).trans (congrArg Value.bool g136))⟩) (S.neqB rfl (L 1 rfl rfl) (L 0 rfl rfl) Tryd.underlying4) ?_
      refine U.p rfl rfl (.inl rfl) (S.pickF rfl ((L 4 rfl rfl).trans (congrArg Value.bool g136)) (L 0 rfl rfl)) ?_
      exact kk [(31, .bool (!((decide (x29.2 = 0)) == x21))), (30, .bool (!((decide (x29.2 = 0)) == x21))), (29, .bool x21), (28, .bool (decide (x29.2 = 0))), (27, .int .i64 x29.2)] _ ⟨.bool (!((decide (x29.2 = 0)) == x21)), .bool x21, .bool (decide (x29.2 = 0)), .int .i64 x29.2, rfl, (by rw [g136, Bool.false_or])⟩
set_option maxHeartbeats 4000000 in
set_option maxRecDepth 10000 in
theorem wk_law02_IsaTexts (V : Vw) (Rs : List At) (gl : Glb V) (p0 : TInst) (p1 : TInst) (ow : Ow V (Rs)) (r : Bool) (h : law02_IsaTexts p0 p1 = some r) : ∃ v V', Cl Tryd.prog NG 8 #[.agg #[.int .i64 p0.op, .int .i64 p0.d, .int .i64 p0.a, .int .i64 p0.b, .int .i64 p0.imm], .agg #[.int .i64 p1.op, .int .i64 p1.d, .int .i64 p1.a, .int .i64 p1.b, .int .i64 p1.imm]] V.H v V'.H ∧ V.le V' ∧ (v = .bool r ∧ Ow V' (Rs)) := by
 refine Ct.of gl.lo Tryd.func8 rfl (nr rfl) ?_
 unfold law02_IsaTexts at h
 refine WP.usreg rfl ?_
 refine O.box ow rfl rfl (.inl rfl) rfl (L 0 rfl rfl) (by simp [topV]) rfl nd (fun b1 V2 le3 ow4 => ?_)
 refine O.box ow4 rfl rfl (.inl rfl) rfl (L 2 rfl rfl) (by simp [topV]) rfl nd (fun b6 V7 le8 ow9 => ?_)
 refine U.p rfl rfl (.inl rfl) (S.assign rfl K) ?_
 refine U.done (nr rfl) ?_
 refine WP.seq ?_
 refine WP.usreg rfl ?_
 obtain ⟨x11, hx12, h13⟩ := bindS h
 refine O.call (V := V7) rfl rfl (.inl rfl) rfl en10 aN (wk_law02_alive V7 _ (gl.up (le3.trans le8)) ow9 _ hx12) (fun _ _ _ _ => nd) (fun v14 V15 le16 hp17 => ?_)
 obtain ⟨rfl, ow18⟩ := hp17
 refine U.p rfl rfl (.inl rfl) (S.not rfl (L 0 rfl rfl)) ?_
 refine U.done (nr rfl) ?_
 refine WP.cond _ (L 0 rfl rfl) rfl (fun c19 => ?_) (fun c19 => ?_)
 ·have h20 := ifT c19 h13
  have k21 : x11 = false := nT c19
  refine WP.usreg rfl ?_
  refine U.p rfl rfl (.inl rfl) (S.assign rfl K) ?_
  refine U.done (nr rfl) ?_
  refine WP.ret ?_
  refine sqR ?_
  refine fin.slot (.inr rfl) rfl (L 0 rfl rfl) ⟨V15, rfl, ((le3.trans le8).trans le16), ?_⟩
  have ow22 := ow18.drop 0 rfl
  have ow23 := ow22.drop 0 rfl
  have e24 := Option.some.inj h20
  subst e24
  exact ⟨rfl, ow23⟩
 ·have h25 := ifF c19 h13
  have k26 : x11 = true := nF c19
  refine WP.skip ?_
  refine sqN ?_
  refine WP.usdreg rfl rfl rfl ?_
  refine U.k rfl rfl (.inl rfl) (S.loadB rfl (L 4 rfl rfl) Tryd.underlying25 rfl ti25 (ow18.own (k := 1) rfl).get rfl) (fun _ => (okH.nil (fun r h => by cases h; exact (ow18.own (k := 1) rfl).lt))) ?_
  obtain ⟨x27, hx28, h29⟩ := bindS h25
  refine O.call (V := V15) rfl rfl (.inl rfl) rfl en21 (aC (L 0 rfl rfl) aN) (wk_isa_Text V15 _ (gl.up ((le3.trans le8).trans le16)) p0 ow18 _ hx28) (fun v30 V31 le32 hp33 => by obtain ⟨rfl, ow34⟩ := hp33; exact (fun _ => (okH.cons (Or.inl rfl) (okH.nil (fun r h => nomatch h))))) (fun v30 V31 le32 hp33 => ?_)
  obtain ⟨rfl, ow34⟩ := hp33
  refine U.k rfl rfl (.inl rfl) (S.loadB rfl (L 5 rfl rfl) Tryd.underlying25 rfl ti25 (ow34.own (k := 0) rfl).get rfl) (fun _ => (okH.cons (Or.inr (Or.inl ((ow34.own (k := 0) rfl).get.trans (ow18.own (k := 0) rfl).get.symm))) (okH.cons trivial (okH.nil (fun r h => by cases h; exact (ow34.own (k := 0) rfl).lt))))) ?_
  obtain ⟨x35, hx36, h37⟩ := bindS h29
  refine O.call (V := V31) rfl rfl (.inl rfl) rfl en21 (aC (L 0 rfl rfl) aN) (wk_isa_Text V31 _ (gl.up (((le3.trans le8).trans le16).trans le32)) p1 ow34 _ hx36) (fun v38 V39 le40 hp41 => by obtain ⟨rfl, ow42⟩ := hp41; exact (fun _ => (okH.cons (Or.inl rfl) (okH.cons rfl (okH.cons (Or.inl rfl) (okH.nil (fun r h => nomatch h))))))) (fun v38 V39 le40 hp41 => ?_)
  obtain ⟨rfl, ow42⟩ := hp41
  refine U.p rfl rfl (.inl rfl) (S.assign rfl (L 2 rfl rfl)) ?_
  refine U.p rfl rfl (.inl rfl) (S.assign rfl (L 1 rfl rfl)) ?_
  refine U.done (nr rfl) ?_
  refine WP.seq ?_
  refine WP.usreg rfl ?_
  refine U.p rfl rfl (.inl rfl) (S.move rfl (L 1 rfl rfl)) ?_
  refine U.p rfl rfl (.inl rfl) (S.eqlS rfl (L 0 rfl rfl) K) ?_
  refine U.k rfl rfl (.inl rfl) (S.loadB rfl (L 12 rfl rfl) Tryd.underlying25 rfl ti25 (ow42.own (k := 1) rfl).get rfl) nd ?_
  obtain ⟨x43, hx44, h45⟩ := bindS h37
  refine O.call (V := V39) rfl rfl (.inl rfl) rfl en16 (aC (L 0 rfl rfl) aN) (wk_ref02_Good V39 _ (gl.up ((((le3.trans le8).trans le16).trans le32).trans le40)) p0 ow42 _ hx44) (fun _ _ _ _ => nd) (fun v46 V47 le48 hp49 => ?_)
  obtain ⟨rfl, ow50⟩ := hp49
  refine U.p rfl rfl (.inl rfl) (S.eqlB rfl (L 2 rfl rfl) (L 0 rfl rfl) Tryd.underlying4) ?_
  refine U.done (nr rfl) ?_
  refine WP.cond _ (L 0 rfl rfl) rfl (fun c51 => ?_) (fun c51 => ?_)
  ·have h52 := ifT c51 h45
   refine WP.usreg rfl ?_
   refine U.p rfl rfl (.inl rfl) (S.assign rfl K) ?_
   refine U.done (nr rfl) ?_
   refine WP.ret ?_
   refine sqR ?_
   refine fin.slot (.inr rfl) rfl (L 0 rfl rfl) ⟨V47, rfl, (((((le3.trans le8).trans le16).trans le32).trans le40).trans le48), ?_⟩
   have ow53 := ow50.drop 0 rfl
   have ow54 := ow53.drop 0 rfl
   have e55 := Option.some.inj h52
   subst e55
   exact ⟨rfl, ow54⟩
  ·have h56 := ifF c51 h45
   refine WP.skip ?_
   refine sqN ?_
   refine WP.usreg rfl ?_
   refine U.k rfl rfl (.inl rfl) (S.loadB rfl (L 15 rfl rfl) Tryd.underlying25 rfl ti25 (ow50.own (k := 1) rfl).get rfl) nd ?_
   obtain ⟨x57, hx58, h59⟩ := bindS h56
   refine O.call (V := V47) rfl rfl (.inl rfl) rfl en16 (aC (L 0 rfl rfl) aN) (wk_ref02_Good V47 _ (gl.up (((((le3.trans le8).trans le16).trans le32).trans le40).trans le48)) p0 ow50 _ hx58) (fun _ _ _ _ => nd) (fun v60 V61 le62 hp63 => ?_)
   obtain ⟨rfl, ow64⟩ := hp63
   refine U.p rfl rfl (.inl rfl) (S.not rfl (L 0 rfl rfl)) ?_
   refine U.p rfl rfl (.inl rfl) (S.move rfl (L 0 rfl rfl)) ?_
   obtain ⟨y65, hy66, h67⟩ := bindS h59
   refine U.joinX 8 (fun e H => ∃ (u68 u69 u70 : Value), ∃ V' : Vw, H = V'.H ∧ V61.le V' ∧ e = [(25, .bool y65), (24, u68), (23, u69), (22, u70)] ∧ Ow V' (.pt b6 (.cells 0 [.int .i64 p1.op, .int .i64 p1.d, .int .i64 p1.a, .int .i64 p1.b, .int .i64 p1.imm]) :: .pt b1 (.cells 0 [.int .i64 p0.op, .int .i64 p0.d, .int .i64 p0.a, .int .i64 p0.b, .int .i64 p0.imm]) :: Rs)) ?_ ?_
   ·rintro _ _ ⟨u68, u69, u70, V71, rfl, le72, rfl, ow73⟩
    refine U.p rfl rfl (.inl rfl) (S.move rfl (L 0 rfl rfl)) ?_
    refine U.joinX 17 (fun e H => ∃ (u74 u75 u76 u77 u78 u79 u80 : Value), H = V71.H ∧ e = [(34, .bool (y65 || ((decide (x27 = x35)) == ((decide (p0.op = p1.op)) && ((decide (p0.d = p1.d)) && ((decide (p0.a = p1.a)) && ((decide (p0.b = p1.b)) && ((decide (p0.imm = p1.imm)) && true)))))))), (33, u74), (32, u75), (31, u76), (30, u77), (29, u78), (28, u79), (27, u80)]) ?_ ?_
    ·rintro _ _ ⟨u74, u75, u76, u77, u78, u79, u80, rfl, rfl⟩
     refine U.p rfl rfl (.inl rfl) (S.assign rfl (L 0 rfl rfl)) ?_
     refine U.done (nr rfl) ?_
     refine WP.ret ?_
     refine fin.slot (.inr rfl) rfl (L 0 rfl rfl) ⟨V71, rfl, (((((((le3.trans le8).trans le16).trans le32).trans le40).trans le48).trans le62).trans le72), ?_⟩
     have ow84 := ow73.drop 0 rfl
     have ow85 := ow84.drop 0 rfl
     have e86 := Option.some.inj h67
     subst e86
     exact ⟨rfl, ow85⟩
    ·intro kk
     refine bcase (b := y65) (fun g87 => ?_) (fun g87 => ?_)
     ·skip
      refine U.x rfl rfl rfl rfl ((L 0 rfl rfl).trans (congrArg Value.bool g87)) (by decide) ?_
      refine U.x rfl rfl rfl rfl ((L 1 rfl rfl).trans (congrArg Value.bool g87)) (by decide) ?_
      refine U.x rfl rfl rfl rfl ((L 2 rfl rfl).trans (congrArg Value.bool g87)) (by decide) ?_
      refine U.x rfl rfl rfl rfl ((L 3 rfl rfl).trans (congrArg Value.bool g87)) (by decide) ?_
      refine U.x rfl rfl rfl rfl ((L 4 rfl rfl).trans (congrArg Value.bool g87)) (by decide) ?_
      refine U.x rfl rfl rfl rfl ((L 5 rfl rfl).trans (congrArg Value.bool g87)) (by decide) ?_
      refine U.x rfl rfl rfl rfl ((L 6 rfl rfl).trans (congrArg Value.bool g87)) (by decide) ?_
      refine U.p rfl rfl (.inl rfl) (S.pickT rfl ((L 7 rfl rfl).trans (congrArg Value.bool g87)) K) ?_
      exact kk [(34, .bool true), (33, .tuple #[]), (32, .tuple #[]), (31, .tuple #[]), (30, .tuple #[]), (29, .tuple #[]), (28, .tuple #[]), (27, .tuple #[])] _ ⟨.tuple #[], .tuple #[], .tuple #[], .tuple #[], .tuple #[], .tuple #[], .tuple #[], rfl, (by rw [g87, Bool.true_or])⟩
     ·skip
      refine U.p rfl rfl (.inr ⟨_, _, _, rfl, rfl, ((L 0 rfl rfl).trans (congrArg Value.bool g87))⟩) (S.move rfl (L 15 rfl rfl)) ?_
      refine U.p rfl rfl (.inr ⟨_, _, _, rfl, rfl, ((L 1 rfl rfl).trans (congrArg Value.bool g87))⟩) (S.move rfl (L 15 rfl rfl)) ?_
      refine U.p rfl rfl (.inr ⟨_, _, _, rfl, rfl, ((L 2 rfl rfl).trans (congrArg Value.bool g87))⟩) (S.eqlS rfl (L 1 rfl rfl) (L 0 rfl rfl)) ?_
      refine U.k rfl rfl (.inr ⟨_, _, _, rfl, rfl, ((L 3 rfl rfl).trans (congrArg Value.bool g87))⟩) (S.loadB rfl (L 27 rfl rfl) Tryd.underlying25 rfl ti25 (ow73.own (k := 1) rfl).get rfl) nd ?_
      refine U.k rfl rfl (.inr ⟨_, _, _, rfl, rfl, ((L 4 rfl rfl).trans (congrArg Value.bool g87))⟩) (S.loadB rfl (L 27 rfl rfl) Tryd.underlying25 rfl ti25 (ow73.own (k := 0) rfl).get rfl) nd ?_
      refine U.p rfl rfl (.inr ⟨_, _, _, rfl, rfl, ((L 5 rfl rfl).trans (congrArg Value.bool g87))⟩) (S.eqlT (flA (flC (.int _ _) (flC (.int _ _) (flC (.int _ _) (flC (.int _ _) (flC (.int _ _) flN)))))) (flA (flC (.int _ _) (flC (.int _ _) (flC (.int _ _) (flC (.int _ _) (flC (.int _ _) flN)))))) rfl (L 1 rfl rfl) (L 0 rfl rfl) Tryd.underlying25 (by kernel_rfl) (by kernel_rfl) (.cons _ _ _ _ _ _ (by decide) (part_cell Tryd.underlying3 rfl rfl) (part_cell Tryd.underlying3 rfl rfl) (eqIn_int Tryd.underlying3 9998) (.cons _ _ _ _ _ _ (by decide) (part_cell Tryd.underlying3 rfl rfl) (part_cell Tryd.underlying3 rfl rfl) (eqIn_int Tryd.underlying3 9998) (.cons _ _ _ _ _ _ (by decide) (part_cell Tryd.underlying3 rfl rfl) (part_cell Tryd.underlying3 rfl rfl) (eqIn_int Tryd.underlying3 9998) (.cons _ _ _ _ _ _ (by decide) (part_cell Tryd.underlying3 rfl rfl) (part_cell Tryd.underlying3 rfl rfl) (eqIn_int Tryd.underlying3 9998) (.cons _ _ _ _ _ _ (by decide) (part_cell Tryd.underlying3 rfl rfl) (part_cell Tryd.underlying3 rfl rfl) (eqIn_int Tryd.underlying3 9998) .nil)))))) ?_
      refine U.p rfl rfl (.inr ⟨_, _, _, rfl, rfl, ((L 6 rfl rfl).trans (congrArg Value.bool g87))⟩) (S.eqlB rfl (L 3 rfl rfl) (L 0 rfl rfl) Tryd.underlying4) ?_
      refine U.p rfl rfl (.inl rfl) (S.pickF rfl ((L 7 rfl rfl).trans (congrArg Value.bool g87)) (L 0 rfl rfl)) ?_
      exact kk [(34, .bool ((decide (x27 = x35)) == ((decide (p0.op = p1.op)) && ((decide (p0.d = p1.d)) && ((decide (p0.a = p1.a)) && ((decide (p0.b = p1.b)) && ((decide (p0.imm = p1.imm)) && true))))))), (33, .bool ((decide (x27 = x35)) == ((decide (p0.op = p1.op)) && ((decide (p0.d = p1.d)) && ((decide (p0.a = p1.a)) && ((decide (p0.b = p1.b)) && ((decide (p0.imm = p1.imm)) && true))))))), (32, .bool ((decide (p0.op = p1.op)) && ((decide (p0.d = p1.d)) && ((decide (p0.a = p1.a)) && ((decide (p0.b = p1.b)) && ((decide (p0.imm = p1.imm)) && true)))))), (31, .agg #[.int .i64 p1.op, .int .i64 p1.d, .int .i64 p1.a, .int .i64 p1.b, .int .i64 p1.imm]), (30, .agg #[.int .i64 p0.op, .int .i64 p0.d, .int .i64 p0.a, .int .i64 p0.b, .int .i64 p0.imm]), (29, .bool (decide (x27 = x35))), (28, .string x35), (27, .string x27)] _ ⟨.bool ((decide (x27 = x35)) == ((decide (p0.op = p1.op)) && ((decide (p0.d = p1.d)) && ((decide (p0.a = p1.a)) && ((decide (p0.b = p1.b)) && ((decide (p0.imm = p1.imm)) && true)))))), .bool ((decide (p0.op = p1.op)) && ((decide (p0.d = p1.d)) && ((decide (p0.a = p1.a)) && ((decide (p0.b = p1.b)) && ((decide (p0.imm = p1.imm)) && true))))), .agg #[.int .i64 p1.op, .int .i64 p1.d, .int .i64 p1.a, .int .i64 p1.b, .int .i64 p1.imm], .agg #[.int .i64 p0.op, .int .i64 p0.d, .int .i64 p0.a, .int .i64 p0.b, .int .i64 p0.imm], .bool (decide (x27 = x35)), .string x35, .string x27, rfl, (by rw [g87, Bool.false_or])⟩
   ·intro kk
    refine bcase (b := !x57) (fun g88 => ?_) (fun g88 => ?_)
    ·have h89 := ifT g88 hy66
     have k90 : x57 = false := nT g88
     refine U.x rfl rfl rfl rfl ((L 0 rfl rfl).trans (congrArg Value.bool g88)) (by decide) ?_
     refine U.x rfl rfl rfl rfl ((L 1 rfl rfl).trans (congrArg Value.bool g88)) (by decide) ?_
     refine U.x rfl rfl rfl rfl ((L 2 rfl rfl).trans (congrArg Value.bool g88)) (by decide) ?_
     refine U.p rfl rfl (.inl rfl) (S.pickT rfl ((L 3 rfl rfl).trans (congrArg Value.bool g88)) K) ?_
     have e91 := Option.some.inj h89
     subst e91
     exact kk [(25, .bool true), (24, .tuple #[]), (23, .tuple #[]), (22, .tuple #[])] _ ⟨.tuple #[], .tuple #[], .tuple #[], V61, rfl, (.refl _), rfl, ow64⟩
    ·have h92 := ifF g88 hy66
     have k93 : x57 = true := nF g88
     refine U.k rfl rfl (.inr ⟨_, _, _, rfl, rfl, ((L 0 rfl rfl).trans (congrArg Value.bool g88))⟩) (S.loadB rfl (L 18 rfl rfl) Tryd.underlying25 rfl ti25 (ow64.own (k := 0) rfl).get rfl) nd ?_
     obtain ⟨x94, hx95, h96⟩ := bindS h92
     refine O.call (V := V61) rfl rfl (.inr ⟨_, _, _, rfl, rfl, ((L 1 rfl rfl).trans (congrArg Value.bool g88))⟩) rfl en16 (aC (L 0 rfl rfl) aN) (wk_ref02_Good V61 _ (gl.up ((((((le3.trans le8).trans le16).trans le32).trans le40).trans le48).trans le62)) p1 ow64 _ hx95) (fun _ _ _ _ => nd) (fun v97 V98 le99 hp100 => ?_)
     obtain ⟨rfl, ow101⟩ := hp100
     refine U.p rfl rfl (.inr ⟨_, _, _, rfl, rfl, ((L 2 rfl rfl).trans (congrArg Value.bool g88))⟩) (S.not rfl (L 0 rfl rfl)) ?_
     refine U.p rfl rfl (.inl rfl) (S.pickF rfl ((L 3 rfl rfl).trans (congrArg Value.bool g88)) (L 0 rfl rfl)) ?_
     have e102 := Option.some.inj h96
     subst e102
     exact kk [(25, .bool (!x94)), (24, .bool (!x94)), (23, .bool x94), (22, .agg #[.int .i64 p1.op, .int .i64 p1.d, .int .i64 p1.a, .int .i64 p1.b, .int .i64 p1.imm])] _ ⟨.bool (!x94), .bool x94, .agg #[.int .i64 p1.op, .int .i64 p1.d, .int .i64 p1.a, .int .i64 p1.b, .int .i64 p1.imm], V98, rfl, le99, rfl, ow101⟩
set_option maxHeartbeats 4000000 in
set_option maxRecDepth 10000 in
theorem wk_law02_IsaNear (V : Vw) (Rs : List At) (gl : Glb V) (p0 : Int) (p1 : Int) (ow : Ow V (Rs)) (r : Bool) (h : law02_IsaNear p0 p1 = some r) : ∃ v V', Cl Tryd.prog NG 9 #[.int .u32 p0, .int .i64 p1] V.H v V'.H ∧ V.le V' ∧ (v = .bool r ∧ Ow V' (Rs)) := by
 refine Ct.of gl.lo Tryd.func9 rfl (nr rfl) ?_
 unfold law02_IsaNear at h
 refine WP.usreg rfl ?_
 refine U.p rfl rfl (.inl rfl) (S.assign rfl K) ?_
 refine U.done (nr rfl) ?_
 refine WP.seq ?_
 refine WP.usreg rfl ?_
 obtain ⟨x1, hx2, h3⟩ := bindS h
 refine O.call (V := V) rfl rfl (.inl rfl) rfl en10 aN (wk_law02_alive V _ gl ow _ hx2) (fun _ _ _ _ => nd) (fun v4 V5 le6 hp7 => ?_)
 obtain ⟨rfl, ow8⟩ := hp7
 refine U.p rfl rfl (.inl rfl) (S.not rfl (L 0 rfl rfl)) ?_
 refine U.done (nr rfl) ?_
 refine WP.cond _ (L 0 rfl rfl) rfl (fun c9 => ?_) (fun c9 => ?_)
 ·have h10 := ifT c9 h3
  have k11 : x1 = false := nT c9
  refine WP.usreg rfl ?_
  refine U.p rfl rfl (.inl rfl) (S.assign rfl K) ?_
  refine U.done (nr rfl) ?_
  refine WP.ret ?_
  refine sqR ?_
  refine fin.slot (.inr rfl) rfl (L 0 rfl rfl) ⟨V5, rfl, le6, ?_⟩
  have e12 := Option.some.inj h10
  subst e12
  exact ⟨rfl, ow8⟩
 ·have h13 := ifF c9 h3
  have k14 : x1 = true := nF c9
  refine WP.skip ?_
  refine sqN ?_
  refine WP.seq ?_
  refine WP.usreg rfl ?_
  refine U.p rfl rfl (.inl rfl) (S.move rfl (L 4 rfl rfl)) ?_
  refine U.p rfl rfl (.inl rfl) (S.lss rfl (L 0 rfl rfl) K) ?_
  refine U.p rfl rfl (.inl rfl) (S.move rfl (L 0 rfl rfl)) ?_
  refine U.joinX 6 (fun e H => ∃ (u15 u16 : Value), H = V5.H ∧ e = [(16, .bool ((decide (p1 < 0)) || (decide (31 < p1)))), (15, u15), (14, u16)]) ?_ ?_
  ·rintro _ _ ⟨u15, u16, rfl, rfl⟩
   refine U.done (nr rfl) ?_
   refine WP.cond _ (L 0 rfl rfl) rfl (fun c20 => ?_) (fun c20 => ?_)
   ·have h21 := ifT c20 h13
    refine WP.usreg rfl ?_
    refine U.p rfl rfl (.inl rfl) (S.assign rfl K) ?_
    refine U.done (nr rfl) ?_
    refine WP.ret ?_
    refine sqR ?_
    refine fin.slot (.inr rfl) rfl (L 0 rfl rfl) ⟨V5, rfl, le6, ?_⟩
    have e22 := Option.some.inj h21
    subst e22
    exact ⟨rfl, ow8⟩
   ·have h23 := ifF c20 h13
    refine WP.skip ?_
    refine sqN ?_
    refine WP.usreg rfl ?_
    refine U.p rfl rfl (.inl rfl) (S.move rfl (L 9 rfl rfl)) ?_
    obtain ⟨x24, hx25, h26⟩ := bindS h23
    refine O.call (V := V5) rfl rfl (.inl rfl) rfl en11 (aC (L 0 rfl rfl) aN) (wk_isa_Decode V5 _ (gl.up le6) p0 ow8 _ hx25) (fun _ _ _ _ => nd) (fun v27 V28 le29 hp30 => ?_)
    obtain ⟨rfl, ow31⟩ := hp30
    refine U.p rfl rfl (.inl rfl) (S.move rfl (L 0 rfl rfl)) ?_
    refine U.p rfl rfl (.inl rfl) (S.extract rfl (L 0 rfl rfl) rfl (nr rfl)) ?_
    refine U.p rfl rfl (.inl rfl) (S.extract rfl (L 1 rfl rfl) rfl (nr rfl)) ?_
    refine O.alloc ow31 rfl rfl (.inl rfl) rfl ti25 rfl rfl nd (fun b32 V33 le34 ow35 => ?_)
    refine O.store (k := 0) (cs := [.int .i64 x24.1.op, .int .i64 x24.1.d, .int .i64 x24.1.a, .int .i64 x24.1.b, .int .i64 x24.1.imm]) (c' := [.int .i64 x24.1.op, .int .i64 x24.1.d, .int .i64 x24.1.a, .int .i64 x24.1.b, .int .i64 x24.1.imm]) ow35 rfl rfl rfl (.inl rfl) rfl (L 0 rfl rfl) (L 2 rfl rfl) ti25 (by simp [topV]) rfl rfl (nr rfl) rfl rfl nd (fun V37 le38 ow39 => ?_)
    refine U.p rfl rfl (.inl rfl) (S.assign rfl (L 1 rfl rfl)) ?_
    refine U.done (nr rfl) ?_
    refine WP.usreg rfl ?_
    refine U.p rfl rfl (.inl rfl) (S.move rfl (L 16 rfl rfl)) ?_
    refine U.p rfl rfl (.inl rfl) (S.move rfl (L 18 rfl rfl)) ?_
    refine U.p rfl rfl (.inl rfl) (S.conv rfl (L 0 rfl rfl) Tryd.underlying3 Tryd.underlying40) ?_
    obtain ⟨x40, hx41, h42⟩ := bindS h26
    refine U.p rfl rfl (.inl rfl) (S.shl hx41 rfl K (L 0 rfl rfl)) ?_
    refine U.p rfl rfl (.inl rfl) (S.xorI rfl (L 3 rfl rfl) (L 0 rfl rfl)) ?_
    obtain ⟨x43, hx44, h45⟩ := bindS h42
    refine O.call (V := V37) rfl rfl (.inl rfl) rfl en11 (aC (L 0 rfl rfl) aN) (wk_isa_Decode V37 _ (gl.up (((le6.trans le29).trans le34).trans le38)) (xorB .u32 p0 x40) ow39 _ hx44) (fun _ _ _ _ => nd) (fun v46 V47 le48 hp49 => ?_)
    obtain ⟨rfl, ow50⟩ := hp49
    refine U.p rfl rfl (.inl rfl) (S.move rfl (L 0 rfl rfl)) ?_
    refine U.p rfl rfl (.inl rfl) (S.extract rfl (L 0 rfl rfl) rfl (nr rfl)) ?_
    refine U.p rfl rfl (.inl rfl) (S.extract rfl (L 1 rfl rfl) rfl (nr rfl)) ?_
    refine O.alloc ow50 rfl rfl (.inl rfl) rfl ti25 rfl rfl nd (fun b51 V52 le53 ow54 => ?_)
    refine O.store (k := 0) (cs := [.int .i64 x43.1.op, .int .i64 x43.1.d, .int .i64 x43.1.a, .int .i64 x43.1.b, .int .i64 x43.1.imm]) (c' := [.int .i64 x43.1.op, .int .i64 x43.1.d, .int .i64 x43.1.a, .int .i64 x43.1.b, .int .i64 x43.1.imm]) ow54 rfl rfl rfl (.inl rfl) rfl (L 0 rfl rfl) (L 2 rfl rfl) ti25 (by simp [topV]) rfl rfl (nr rfl) rfl rfl nd (fun V56 le57 ow58 => ?_)
    refine U.p rfl rfl (.inl rfl) (S.assign rfl (L 1 rfl rfl)) ?_
    refine U.done (nr rfl) ?_
    refine WP.seq ?_
    refine WP.usreg rfl ?_
    refine U.p rfl rfl (.inl rfl) (S.move rfl (L 11 rfl rfl)) ?_
    refine U.p rfl rfl (.inl rfl) (S.eqlI rfl (L 0 rfl rfl) K) ?_
    refine U.p rfl rfl (.inl rfl) (S.move rfl (L 0 rfl rfl)) ?_
    obtain ⟨y59, hy60, h61⟩ := bindS h45
    refine U.joinX 7 (fun e H => ∃ (u62 u63 u64 : Value), ∃ V' : Vw, H = V'.H ∧ V56.le V' ∧ e = [(37, .bool y59), (36, u62), (35, u63), (34, u64)] ∧ Ow V' (.pt b51 (.cells 5 [.int .i64 x43.1.op, .int .i64 x43.1.d, .int .i64 x43.1.a, .int .i64 x43.1.b, .int .i64 x43.1.imm]) :: .pt b32 (.cells 5 [.int .i64 x24.1.op, .int .i64 x24.1.d, .int .i64 x24.1.a, .int .i64 x24.1.b, .int .i64 x24.1.imm]) :: Rs)) ?_ ?_
    ·rintro _ _ ⟨u62, u63, u64, V65, rfl, le66, rfl, ow67⟩
     refine U.p rfl rfl (.inl rfl) (S.move rfl (L 0 rfl rfl)) ?_
     obtain ⟨y68, hy69, h70⟩ := bindS h61
     refine U.joinX 16 (fun e H => ∃ (u71 u72 u73 u74 u75 u76 u77 : Value), ∃ V' : Vw, H = V'.H ∧ V65.le V' ∧ e = [(46, .bool y68), (45, u71), (44, u72), (43, u73), (42, u74), (41, u75), (40, u76), (39, u77)] ∧ Ow V' (.pt b51 (.cells 5 [.int .i64 x43.1.op, .int .i64 x43.1.d, .int .i64 x43.1.a, .int .i64 x43.1.b, .int .i64 x43.1.imm]) :: .pt b32 (.cells 5 [.int .i64 x24.1.op, .int .i64 x24.1.d, .int .i64 x24.1.a, .int .i64 x24.1.b, .int .i64 x24.1.imm]) :: Rs)) ?_ ?_
     ·rintro _ _ ⟨u71, u72, u73, u74, u75, u76, u77, V78, rfl, le79, rfl, ow80⟩
      refine U.done (nr rfl) ?_
      refine WP.cond _ (L 0 rfl rfl) rfl (fun c81 => ?_) (fun c81 => ?_)
      ·have h82 := ifT c81 h70
       refine WP.usreg rfl ?_
       refine U.p rfl rfl (.inl rfl) (S.assign rfl K) ?_
       refine U.done (nr rfl) ?_
       refine WP.ret ?_
       refine sqR ?_
       refine fin.slot (.inr rfl) rfl (L 0 rfl rfl) ⟨V78, rfl, ((((((((le6.trans le29).trans le34).trans le38).trans le48).trans le53).trans le57).trans le66).trans le79), ?_⟩
       have ow83 := ow80.drop 0 rfl
       have ow84 := ow83.drop 0 rfl
       have e85 := Option.some.inj h82
       subst e85
       exact ⟨rfl, ow84⟩
      ·have h86 := ifF c81 h70
       refine WP.skip ?_
       refine sqN ?_
       refine WP.usreg rfl ?_
       refine U.p rfl rfl (.inl rfl) (S.move rfl (L 27 rfl rfl)) ?_
       refine U.p rfl rfl (.inl rfl) (S.neqI rfl (L 0 rfl rfl) K) ?_
       refine U.p rfl rfl (.inl rfl) (S.move rfl (L 0 rfl rfl)) ?_
       refine U.joinX 6 (fun e H => ∃ (u87 u88 : Value), H = V78.H ∧ e = [(52, .bool ((decide (x24.2 ≠ 0)) || (decide (x43.2 ≠ 0)))), (51, u87), (50, u88)]) ?_ ?_
       ·rintro _ _ ⟨u87, u88, rfl, rfl⟩
        refine U.p rfl rfl (.inl rfl) (S.move rfl (L 0 rfl rfl)) ?_
        refine U.joinX 11 (fun e H => ∃ (u92 u93 u94 : Value), H = V78.H ∧ e = [(57, .bool (((decide (x24.2 ≠ 0)) || (decide (x43.2 ≠ 0))) || (!((decide (x24.1.op = x43.1.op)) && ((decide (x24.1.d = x43.1.d)) && ((decide (x24.1.a = x43.1.a)) && ((decide (x24.1.b = x43.1.b)) && ((decide (x24.1.imm = x43.1.imm)) && true)))))))), (56, u92), (55, u93), (54, u94)]) ?_ ?_
        ·rintro _ _ ⟨u92, u93, u94, rfl, rfl⟩
         refine U.p rfl rfl (.inl rfl) (S.assign rfl (L 0 rfl rfl)) ?_
         refine U.done (nr rfl) ?_
         refine WP.ret ?_
         refine fin.slot (.inr rfl) rfl (L 0 rfl rfl) ⟨V78, rfl, ((((((((le6.trans le29).trans le34).trans le38).trans le48).trans le53).trans le57).trans le66).trans le79), ?_⟩
         have ow98 := ow80.drop 0 rfl
         have ow99 := ow98.drop 0 rfl
         have e100 := Option.some.inj h86
         subst e100
         exact ⟨rfl, ow99⟩
        ·intro kk
         refine bcase (b := (decide (x24.2 ≠ 0)) || (decide (x43.2 ≠ 0))) (fun g101 => ?_) (fun g101 => ?_)
         ·skip
          refine U.x rfl rfl rfl rfl ((L 0 rfl rfl).trans (congrArg Value.bool g101)) (by decide) ?_
          refine U.x rfl rfl rfl rfl ((L 1 rfl rfl).trans (congrArg Value.bool g101)) (by decide) ?_
          refine U.x rfl rfl rfl rfl ((L 2 rfl rfl).trans (congrArg Value.bool g101)) (by decide) ?_
          refine U.p rfl rfl (.inl rfl) (S.pickT rfl ((L 3 rfl rfl).trans (congrArg Value.bool g101)) K) ?_
          exact kk [(57, .bool true), (56, .tuple #[]), (55, .tuple #[]), (54, .tuple #[])] _ ⟨.tuple #[], .tuple #[], .tuple #[], rfl, (by rw [g101, Bool.true_or])⟩
         ·skip
          refine U.k rfl rfl (.inr ⟨_, _, _, rfl, rfl, ((L 0 rfl rfl).trans (congrArg Value.bool g101))⟩) (S.loadB rfl (L 35 rfl rfl) Tryd.underlying25 rfl ti25 (ow80.own (k := 1) rfl).get rfl) nd ?_
          refine U.k rfl rfl (.inr ⟨_, _, _, rfl, rfl, ((L 1 rfl rfl).trans (congrArg Value.bool g101))⟩) (S.loadB rfl (L 25 rfl rfl) Tryd.underlying25 rfl ti25 (ow80.own (k := 0) rfl).get rfl) nd ?_
          refine U.p rfl rfl (.inr ⟨_, _, _, rfl, rfl, ((L 2 rfl rfl).trans (congrArg Value.bool g101))⟩) (S.neqT (flA (flC (.int _ _) (flC (.int _ _) (flC (.int _ _) (flC (.int _ _) (flC (.int _ _) flN)))))) (flA (flC (.int _ _) (flC (.int _ _) (flC (.int _ _) (flC (.int _ _) (flC (.int _ _) flN)))))) rfl (L 1 rfl rfl) (L 0 rfl rfl) Tryd.underlying25 (by kernel_rfl) (by kernel_rfl) (.cons _ _ _ _ _ _ (by decide) (part_cell Tryd.underlying3 rfl rfl) (part_cell Tryd.underlying3 rfl rfl) (eqIn_int Tryd.underlying3 9998) (.cons _ _ _ _ _ _ (by decide) (part_cell Tryd.underlying3 rfl rfl) (part_cell Tryd.underlying3 rfl rfl) (eqIn_int Tryd.underlying3 9998) (.cons _ _ _ _ _ _ (by decide) (part_cell Tryd.underlying3 rfl rfl) (part_cell Tryd.underlying3 rfl rfl) (eqIn_int Tryd.underlying3 9998) (.cons _ _ _ _ _ _ (by decide) (part_cell Tryd.underlying3 rfl rfl) (part_cell Tryd.underlying3 rfl rfl) (eqIn_int Tryd.underlying3 9998) (.cons _ _ _ _ _ _ (by decide) (part_cell Tryd.underlying3 rfl rfl) (part_cell Tryd.underlying3 rfl rfl) (eqIn_int Tryd.underlying3 9998) .nil)))))) ?_
          refine U.p rfl rfl (.inl rfl) (S.pickF rfl ((L 3 rfl rfl).trans (congrArg Value.bool g101)) (L 0 rfl rfl)) ?_
          exact kk [(57, .bool (!((decide (x24.1.op = x43.1.op)) && ((decide (x24.1.d = x43.1.d)) && ((decide (x24.1.a = x43.1.a)) && ((decide (x24.1.b = x43.1.b)) && ((decide (x24.1.imm = x43.1.imm)) && true))))))), (56, .bool (!((decide (x24.1.op = x43.1.op)) && ((decide (x24.1.d = x43.1.d)) && ((decide (x24.1.a = x43.1.a)) && ((decide (x24.1.b = x43.1.b)) && ((decide (x24.1.imm = x43.1.imm)) && true))))))), (55, .agg #[.int .i64 x43.1.op, .int .i64 x43.1.d, .int .i64 x43.1.a, .int .i64 x43.1.b, .int .i64 x43.1.imm]), (54, .agg #[.int .i64 x24.1.op, .int .i64 x24.1.d, .int .i64 x24.1.a, .int .i64 x24.1.b, .int .i64 x24.1.imm])] _ ⟨.bool (!((decide (x24.1.op = x43.1.op)) && ((decide (x24.1.d = x43.1.d)) && ((decide (x24.1.a = x43.1.a)) && ((decide (x24.1.b = x43.1.b)) && ((decide (x24.1.imm = x43.1.imm)) && true)))))), .agg #[.int .i64 x43.1.op, .int .i64 x43.1.d, .int .i64 x43.1.a, .int .i64 x43.1.b, .int .i64 x43.1.imm], .agg #[.int .i64 x24.1.op, .int .i64 x24.1.d, .int .i64 x24.1.a, .int .i64 x24.1.b, .int .i64 x24.1.imm], rfl, (by rw [g101, Bool.false_or])⟩
       ·intro kk
        refine bcase (b := decide (x24.2 ≠ 0)) (fun g102 => ?_) (fun g102 => ?_)
        ·skip
         refine U.x rfl rfl rfl rfl ((L 0 rfl rfl).trans (congrArg Value.bool g102)) (by decide) ?_
         refine U.x rfl rfl rfl rfl ((L 1 rfl rfl).trans (congrArg Value.bool g102)) (by decide) ?_
         refine U.p rfl rfl (.inl rfl) (S.pickT rfl ((L 2 rfl rfl).trans (congrArg Value.bool g102)) K) ?_
         exact kk [(52, .bool true), (51, .tuple #[]), (50, .tuple #[])] _ ⟨.tuple #[], .tuple #[], rfl, (by rw [g102, Bool.true_or])⟩
        ·skip
         refine U.p rfl rfl (.inr ⟨_, _, _, rfl, rfl, ((L 0 rfl rfl).trans (congrArg Value.bool g102))⟩) (S.move rfl (L 19 rfl rfl)) ?_
         refine U.p rfl rfl (.inr ⟨_, _, _, rfl, rfl, ((L 1 rfl rfl).trans (congrArg Value.bool g102))⟩) (S.neqI rfl (L 0 rfl rfl) K) ?_
         refine U.p rfl rfl (.inl rfl) (S.pickF rfl ((L 2 rfl rfl).trans (congrArg Value.bool g102)) (L 0 rfl rfl)) ?_
         exact kk [(52, .bool (decide (x43.2 ≠ 0))), (51, .bool (decide (x43.2 ≠ 0))), (50, .int .i64 x43.2)] _ ⟨.bool (decide (x43.2 ≠ 0)), .int .i64 x43.2, rfl, (by rw [g102, Bool.false_or])⟩
     ·intro kk
      refine bcase (b := y59) (fun g103 => ?_) (fun g103 => ?_)
      ·have h104 := ifT g103 hy69
       refine U.x rfl rfl rfl rfl ((L 0 rfl rfl).trans (congrArg Value.bool g103)) (by decide) ?_
       refine U.x rfl rfl rfl rfl ((L 1 rfl rfl).trans (congrArg Value.bool g103)) (by decide) ?_
       refine U.x rfl rfl rfl rfl ((L 2 rfl rfl).trans (congrArg Value.bool g103)) (by decide) ?_
       refine U.z rfl rfl rfl rfl (L 0 rfl rfl) ?_
       refine U.z rfl rfl rfl rfl (L 1 rfl rfl) ?_
       refine U.z rfl rfl rfl rfl (L 2 rfl rfl) ?_
       refine U.x rfl rfl rfl rfl ((L 6 rfl rfl).trans (congrArg Value.bool g103)) (by decide) ?_
       refine U.p rfl rfl (.inl rfl) (S.pickT rfl ((L 7 rfl rfl).trans (congrArg Value.bool g103)) K) ?_
       have e105 := Option.some.inj h104
       subst e105
       exact kk [(46, .bool true), (45, .tuple #[]), (44, .tuple #[]), (43, .tuple #[]), (42, .tuple #[]), (41, .tuple #[]), (40, .tuple #[]), (39, .tuple #[])] _ ⟨.tuple #[], .tuple #[], .tuple #[], .tuple #[], .tuple #[], .tuple #[], .tuple #[], V65, rfl, (.refl _), rfl, ow67⟩
      ·have h106 := ifF g103 hy69
       refine U.p rfl rfl (.inr ⟨_, _, _, rfl, rfl, ((L 0 rfl rfl).trans (congrArg Value.bool g103))⟩) (S.move rfl (L 8 rfl rfl)) ?_
       refine U.p rfl rfl (.inr ⟨_, _, _, rfl, rfl, ((L 1 rfl rfl).trans (congrArg Value.bool g103))⟩) (S.eqlI rfl (L 0 rfl rfl) K) ?_
       refine U.p rfl rfl (.inr ⟨_, _, _, rfl, rfl, ((L 2 rfl rfl).trans (congrArg Value.bool g103))⟩) (S.move rfl (L 0 rfl rfl)) ?_
       obtain ⟨y107, hy108, h109⟩ := bindS h106
       refine U.joinX 15 (fun e H => ∃ (u110 u111 u112 : Value), ∃ V' : Vw, H = V'.H ∧ V65.le V' ∧ e = [(45, .bool y107), (44, u110), (43, u111), (42, u112)] ∧ Ow V' (.pt b51 (.cells 5 [.int .i64 x43.1.op, .int .i64 x43.1.d, .int .i64 x43.1.a, .int .i64 x43.1.b, .int .i64 x43.1.imm]) :: .pt b32 (.cells 5 [.int .i64 x24.1.op, .int .i64 x24.1.d, .int .i64 x24.1.a, .int .i64 x24.1.b, .int .i64 x24.1.imm]) :: Rs)) ?_ ?_
       ·rintro _ _ ⟨u110, u111, u112, V113, rfl, le114, rfl, ow115⟩
        refine U.p rfl rfl (.inl rfl) (S.pickF rfl ((L 7 rfl rfl).trans (congrArg Value.bool g103)) (L 0 rfl rfl)) ?_
        have e116 := Option.some.inj h109
        subst e116
        exact kk [(46, .bool y107), (45, .bool y107), (44, u110), (43, u111), (42, u112), (41, .bool (decide (x43.2 = 0))), (40, .bool (decide (x43.2 = 0))), (39, .int .i64 x43.2)] _ ⟨.bool y107, u110, u111, u112, .bool (decide (x43.2 = 0)), .bool (decide (x43.2 = 0)), .int .i64 x43.2, V113, rfl, le114, rfl, ow115⟩
       ·intro kk
        refine bcase (b := decide (x43.2 = 0)) (fun g117 => ?_) (fun g117 => ?_)
        ·have h118 := ifT g117 hy108
         refine U.k rfl rfl (.inr ⟨_, _, _, rfl, rfl, ((L 0 rfl rfl).trans (congrArg Value.bool g117))⟩) (S.loadB rfl (L 12 rfl rfl) Tryd.underlying25 rfl ti25 (ow67.own (k := 0) rfl).get rfl) nd ?_
         obtain ⟨x119, hx120, h121⟩ := bindS h118
         refine O.call (V := V65) rfl rfl (.inr ⟨_, _, _, rfl, rfl, ((L 1 rfl rfl).trans (congrArg Value.bool g117))⟩) rfl en21 (aC (L 0 rfl rfl) aN) (wk_isa_Text V65 _ (gl.up (((((((le6.trans le29).trans le34).trans le38).trans le48).trans le53).trans le57).trans le66)) x43.1 ow67 _ hx120) (fun _ _ _ _ => nd) (fun v122 V123 le124 hp125 => ?_)
         obtain ⟨rfl, ow126⟩ := hp125
         refine U.p rfl rfl (.inr ⟨_, _, _, rfl, rfl, ((L 2 rfl rfl).trans (congrArg Value.bool g117))⟩) (S.eqlS rfl (L 0 rfl rfl) K) ?_
         refine U.p rfl rfl (.inr ⟨_, _, _, rfl, rfl, ((L 6 rfl rfl).trans (congrArg Value.bool g103))⟩) (S.pickT rfl ((L 3 rfl rfl).trans (congrArg Value.bool g117)) (L 0 rfl rfl)) ?_
         have e127 := Option.some.inj h121
         subst e127
         exact kk [(45, .bool (decide (x119 = ByteArray.empty))), (44, .bool (decide (x119 = ByteArray.empty))), (43, .string x119), (42, .agg #[.int .i64 x43.1.op, .int .i64 x43.1.d, .int .i64 x43.1.a, .int .i64 x43.1.b, .int .i64 x43.1.imm])] _ ⟨.bool (decide (x119 = ByteArray.empty)), .string x119, .agg #[.int .i64 x43.1.op, .int .i64 x43.1.d, .int .i64 x43.1.a, .int .i64 x43.1.b, .int .i64 x43.1.imm], V123, rfl, le124, rfl, ow126⟩
        ·have h128 := ifF g117 hy108
         refine U.x rfl rfl rfl rfl ((L 0 rfl rfl).trans (congrArg Value.bool g117)) (by decide) ?_
         refine U.x rfl rfl rfl rfl ((L 1 rfl rfl).trans (congrArg Value.bool g117)) (by decide) ?_
         refine U.x rfl rfl rfl rfl ((L 2 rfl rfl).trans (congrArg Value.bool g117)) (by decide) ?_
         refine U.p rfl rfl (.inr ⟨_, _, _, rfl, rfl, ((L 6 rfl rfl).trans (congrArg Value.bool g103))⟩) (S.pickF rfl ((L 3 rfl rfl).trans (congrArg Value.bool g117)) K) ?_
         have e129 := Option.some.inj h128
         subst e129
         exact kk [(45, .bool false), (44, .tuple #[]), (43, .tuple #[]), (42, .tuple #[])] _ ⟨.tuple #[], .tuple #[], .tuple #[], V65, rfl, (.refl _), rfl, ow67⟩
    ·intro kk
     refine bcase (b := decide (x24.2 = 0)) (fun g130 => ?_) (fun g130 => ?_)
     ·have h131 := ifT g130 hy60
      refine U.k rfl rfl (.inr ⟨_, _, _, rfl, rfl, ((L 0 rfl rfl).trans (congrArg Value.bool g130))⟩) (S.loadB rfl (L 15 rfl rfl) Tryd.underlying25 rfl ti25 (ow58.own (k := 1) rfl).get rfl) nd ?_
      obtain ⟨x132, hx133, h134⟩ := bindS h131
      refine O.call (V := V56) rfl rfl (.inr ⟨_, _, _, rfl, rfl, ((L 1 rfl rfl).trans (congrArg Value.bool g130))⟩) rfl en21 (aC (L 0 rfl rfl) aN) (wk_isa_Text V56 _ (gl.up ((((((le6.trans le29).trans le34).trans le38).trans le48).trans le53).trans le57)) x24.1 ow58 _ hx133) (fun _ _ _ _ => nd) (fun v135 V136 le137 hp138 => ?_)
      obtain ⟨rfl, ow139⟩ := hp138
      refine U.p rfl rfl (.inr ⟨_, _, _, rfl, rfl, ((L 2 rfl rfl).trans (congrArg Value.bool g130))⟩) (S.eqlS rfl (L 0 rfl rfl) K) ?_
      refine U.p rfl rfl (.inl rfl) (S.pickT rfl ((L 3 rfl rfl).trans (congrArg Value.bool g130)) (L 0 rfl rfl)) ?_
      have e140 := Option.some.inj h134
      subst e140
      exact kk [(37, .bool (decide (x132 = ByteArray.empty))), (36, .bool (decide (x132 = ByteArray.empty))), (35, .string x132), (34, .agg #[.int .i64 x24.1.op, .int .i64 x24.1.d, .int .i64 x24.1.a, .int .i64 x24.1.b, .int .i64 x24.1.imm])] _ ⟨.bool (decide (x132 = ByteArray.empty)), .string x132, .agg #[.int .i64 x24.1.op, .int .i64 x24.1.d, .int .i64 x24.1.a, .int .i64 x24.1.b, .int .i64 x24.1.imm], V136, rfl, le137, rfl, ow139⟩
     ·have h141 := ifF g130 hy60
      refine U.x rfl rfl rfl rfl ((L 0 rfl rfl).trans (congrArg Value.bool g130)) (by decide) ?_
      refine U.x rfl rfl rfl rfl ((L 1 rfl rfl).trans (congrArg Value.bool g130)) (by decide) ?_
      refine U.x rfl rfl rfl rfl ((L 2 rfl rfl).trans (congrArg Value.bool g130)) (by decide) ?_
      refine U.p rfl rfl (.inl rfl) (S.pickF rfl ((L 3 rfl rfl).trans (congrArg Value.bool g130)) K) ?_
      have e142 := Option.some.inj h141
      subst e142
      exact kk [(37, .bool false), (36, .tuple #[]), (35, .tuple #[]), (34, .tuple #[])] _ ⟨.tuple #[], .tuple #[], .tuple #[], V56, rfl, (.refl _), rfl, ow58⟩
  ·intro kk
   refine bcase (b := decide (p1 < 0)) (fun g143 => ?_) (fun g143 => ?_)
   ·skip
    refine U.x rfl rfl rfl rfl ((L 0 rfl rfl).trans (congrArg Value.bool g143)) (by decide) ?_
    refine U.x rfl rfl rfl rfl ((L 1 rfl rfl).trans (congrArg Value.bool g143)) (by decide) ?_
    refine U.p rfl rfl (.inl rfl) (S.pickT rfl ((L 2 rfl rfl).trans (congrArg Value.bool g143)) K) ?_
    exact kk [(16, .bool true), (15, .tuple #[]), (14, .tuple #[])] _ ⟨.tuple #[], .tuple #[], rfl, (by rw [g143, Bool.true_or])⟩
   ·skip
    refine U.p rfl rfl (.inr ⟨_, _, _, rfl, rfl, ((L 0 rfl rfl).trans (congrArg Value.bool g143))⟩) (S.move rfl (L 7 rfl rfl)) ?_
    refine U.p rfl rfl (.inr ⟨_, _, _, rfl, rfl, ((L 1 rfl rfl).trans (congrArg Value.bool g143))⟩) (S.gtr rfl (L 0 rfl rfl) K) ?_
    refine U.p rfl rfl (.inl rfl) (S.pickF rfl ((L 2 rfl rfl).trans (congrArg Value.bool g143)) (L 0 rfl rfl)) ?_
    exact kk [(16, .bool (decide (31 < p1))), (15, .bool (decide (31 < p1))), (14, .int .i64 p1)] _ ⟨.bool (decide (31 < p1)), .int .i64 p1, rfl, (by rw [g143, Bool.false_or])⟩
end Go.Vm.G02
