/-
  What the functions compute is what the plain ones say, for all inputs at which those answer.
-/
import Derived.Test.YtcacllfgnjlhiaaEWG11b
set_option linter.unusedSimpArgs false
set_option linter.unusedVariables false
namespace Go.Vm.G11
open Go Go.Proofs
set_option maxHeartbeats 4000000 in
set_option maxRecDepth 10000 in
theorem wk_ref11_Same (V : Vw) (Rs : List At) (p0 : TFunc) (p1 : TFunc) (v1 : Value) (v3 : Value) (f2 : Fz RT_TIns V v1 p0.code) (f4 : Fz RT_TIns V v3 p1.code) (ow : Ow V (Rs)) (r : Bool) (h : ref11_Same p0 p1 = some r) : ∃ v V', Cl Try.prog 0 12 #[.agg #[.string p0.name, .int .i64 p0.params, .int .i64 p0.regs, v1], .agg #[.string p1.name, .int .i64 p1.params, .int .i64 p1.regs, v3]] V.H v V'.H ∧ V.le V' ∧ (v = .bool r ∧ Ow V' (Rs)) := by
 refine Ct.of (Nat.zero_le _) Try.func12 rfl (nr rfl) ?_
 unfold ref11_Same at h
 refine WP.usreg rfl ?_
 refine O.box ow rfl rfl (.inl rfl) rfl (L 0 rfl rfl) (by simp [topV]) rfl nd (fun b5 V6 le7 ow8 => ?_)
 refine O.box ow8 rfl rfl (.inl rfl) rfl (L 2 rfl rfl) (by simp [topV]) rfl nd (fun b10 V11 le12 ow13 => ?_)
 refine U.p rfl rfl (.inl rfl) (S.assign rfl K) ?_
 refine U.done (nr rfl) ?_
 refine WP.seq ?_
 refine WP.usreg rfl ?_
 refine U.p (v := .pointer (some ⟨b5, 0, none⟩)) rfl rfl (.inl rfl) (S.fieldAddr rfl (L 2 rfl rfl) Try.underlying38 rfl ti9 rfl rfl) ?_
 refine U.k rfl rfl (.inl rfl) (S.load rfl (L 0 rfl rfl) Try.underlying9 rfl ((ow13.own (k := 1) rfl).cell rfl)) nd ?_
 refine U.p (v := .pointer (some ⟨b10, 0, none⟩)) rfl rfl (.inl rfl) (S.fieldAddr rfl (L 3 rfl rfl) Try.underlying38 rfl ti9 rfl rfl) ?_
 refine U.k rfl rfl (.inl rfl) (S.load rfl (L 0 rfl rfl) Try.underlying9 rfl ((ow13.own (k := 0) rfl).cell rfl)) nd ?_
 refine U.p rfl rfl (.inl rfl) (S.neqS rfl (L 2 rfl rfl) (L 0 rfl rfl)) ?_
 refine U.p rfl rfl (.inl rfl) (S.move rfl (L 0 rfl rfl)) ?_
 refine U.joinX 12 (fun e H => ∃ (u15 u16 u17 u18 u19 : Value), H = V11.H ∧ e = [(20, .bool ((decide (p0.name ≠ p1.name)) || (decide (p0.params ≠ p1.params)))), (19, u15), (18, u16), (17, u17), (16, u18), (15, u19)]) ?_ ?_
 ·rintro _ _ ⟨u15, u16, u17, u18, u19, rfl, rfl⟩
  refine U.p rfl rfl (.inl rfl) (S.move rfl (L 0 rfl rfl)) ?_
  refine U.joinX 19 (fun e H => ∃ (u23 u24 u25 u26 u27 : Value), H = V11.H ∧ e = [(27, .bool (((decide (p0.name ≠ p1.name)) || (decide (p0.params ≠ p1.params))) || (decide (p0.regs ≠ p1.regs)))), (26, u23), (25, u24), (24, u25), (23, u26), (22, u27)]) ?_ ?_
  ·rintro _ _ ⟨u23, u24, u25, u26, u27, rfl, rfl⟩
   refine U.p rfl rfl (.inl rfl) (S.move rfl (L 0 rfl rfl)) ?_
   refine U.joinX 28 (fun e H => ∃ (u31 u32 u33 u34 u35 u36 u37 : Value), H = V11.H ∧ e = [(36, .bool ((((decide (p0.name ≠ p1.name)) || (decide (p0.params ≠ p1.params))) || (decide (p0.regs ≠ p1.regs))) || (decide ((p0.code.length : Int) ≠ (p1.code.length : Int))))), (35, u31), (34, u32), (33, u33), (32, u34), (31, u35), (30, u36), (29, u37)]) ?_ ?_
   ·rintro _ _ ⟨u31, u32, u33, u34, u35, u36, u37, rfl, rfl⟩
    refine U.done (nr rfl) ?_
    refine WP.cond _ (L 0 rfl rfl) rfl (fun c41 => ?_) (fun c41 => ?_)
    ·have h42 := ifT c41 h
     refine WP.usreg rfl ?_
     refine U.p rfl rfl (.inl rfl) (S.assign rfl K) ?_
     refine U.done (nr rfl) ?_
     refine WP.ret ?_
     refine sqR ?_
     refine fin.slot (.inr rfl) rfl (L 0 rfl rfl) ⟨V11, rfl, (le7.trans le12), ?_⟩
     have ow43 := ow13.drop 0 rfl
     have ow44 := ow43.drop 0 rfl
     have e45 := Option.some.inj h42
     subst e45
     exact ⟨rfl, ow44⟩
    ·have h46 := ifF c41 h
     refine WP.skip ?_
     refine sqN ?_
     refine WP.seq ?_
     refine WP.usreg rfl ?_
     refine U.p (v := .pointer (some ⟨b5, 3, none⟩)) rfl rfl (.inl rfl) (S.fieldAddr rfl (L 30 rfl rfl) Try.underlying38 rfl ti36 rfl rfl) ?_
     refine U.k rfl rfl (.inl rfl) (S.load rfl (L 0 rfl rfl) Try.underlying36 rfl ((ow13.own (k := 1) rfl).cell rfl)) nd ?_
     refine U.p rfl rfl (.inl rfl) (f2.1.len rfl (L 0 rfl rfl) Try.underlying36) ?_
     refine U.p rfl rfl (.inl rfl) (S.move rfl K) ?_
     refine U.done (nr rfl) ?_
     refine WP.blk ?_
     have ow48 := ow13.drop 1 rfl
     unfold ref11_Same_l1 at h46
     obtain ⟨n50, hn49⟩ := loopO_some.1 h46
     refine WP.loopI2 (fun n l V' => ∃ (x47 : Int), l = [(3, .pointer (some ⟨b10, 0, none⟩)), (38, v1), (39, .int .i64 (p0.code.length : Int)), (40, .int .i64 x47)] ∧ V11.le V' ∧ Ow V' (.pt b10 (.cells 0 [.string p1.name, .int .i64 p1.params, .int .i64 p1.regs, v3]) :: Rs) ∧ itO (fun s => ref11_Same_l1b p0 p1 s) n x47 = some r) n50 _ ⟨0, rfl, .refl _, ow48, hn49⟩ (allCons (L 33 rfl rfl) (allCons (L 2 rfl rfl) (allCons (L 1 rfl rfl) (allCons (L 0 rfl rfl) allNil)))) ?_
     rintro _ _ V51 ⟨x47, rfl, le52, ow53, h57⟩
     obtain ⟨m54, q55, rfl, h58, e56⟩ := itS h57
     replace h58 : ref11_Same_l1b p0 p1 x47 = some q55 := h58
     unfold ref11_Same_l1b at h58
     refine WP.usreg rfl ?_
     refine U.p rfl rfl (.inl rfl) (S.lss rfl (L 3 rfl rfl) (L 2 rfl rfl)) ?_
     refine U.done (nr rfl) ?_
     refine WP.seq ?_
     refine WP.cond _ (L 0 rfl rfl) rfl (fun c59 => ?_) (fun c59 => ?_)
     ·have h60 := ifT c59 h58
      refine WP.skip ?_
      refine sqN ?_
      refine WP.seq ?_
      refine WP.blk ?_
      refine WP.usreg rfl ?_
      refine U.p rfl rfl (.inl rfl) (S.move rfl (L 4 rfl rfl)) ?_
      obtain ⟨x61, hx62, h63⟩ := bindS h60
      obtain ⟨b64, o65, c66, cs67, hv68, hf69, hr70, hc71⟩ := f2.at hx62
      obtain ⟨v72, rfl, f73⟩ := hr70
      refine U.p rfl rfl (.inl rfl) (S.index rfl ((L 3 rfl rfl).trans hv68) (L 5 rfl rfl) Try.underlying36 ti44 (ix_ge hx62) (ix_lt hx62)) ?_
      refine U.k rfl rfl (.inl rfl) (S.loadN (cs := [.int .i64 x61.op, .int .i64 x61.d, .int .i64 x61.a, .int .i64 x61.b, .int .i64 x61.imm, v72, .int .i64 x61.what, .bool x61.volatile, .bool x61.final]) rfl (L 0 rfl rfl) Try.underlying44 rfl ti44 rfl (fun j v hj => ((le7.trans le12).trans le52).cell hf69 (hc71 j v hj))) nd ?_
      refine O.alloc ow53 rfl rfl (.inl rfl) rfl ti44 rfl rfl nd (fun b74 V75 le76 ow77 => ?_)
      refine U.p rfl rfl (.inl rfl) (S.assign rfl (L 3 rfl rfl)) ?_
      refine O.store (k := 0) (cs := [.int .i64 x61.op, .int .i64 x61.d, .int .i64 x61.a, .int .i64 x61.b, .int .i64 x61.imm, v72, .int .i64 x61.what, .bool x61.volatile, .bool x61.final]) (c' := [.int .i64 x61.op, .int .i64 x61.d, .int .i64 x61.a, .int .i64 x61.b, .int .i64 x61.imm, v72, .int .i64 x61.what, .bool x61.volatile, .bool x61.final]) ow77 rfl rfl rfl (.inl rfl) rfl (L 1 rfl rfl) (L 2 rfl rfl) ti44 (by simp [topV]) rfl rfl (nr rfl) (by have q0 := f73.one; simp only [List.all_cons, List.all_nil, q0]; rfl) rfl nd (fun V79 le80 ow81 => ?_)
      refine U.done (nr rfl) ?_
      refine WP.usreg rfl ?_
      refine U.p (v := .pointer (some ⟨b10, 3, none⟩)) rfl rfl (.inl rfl) (S.fieldAddr rfl (L 6 rfl rfl) Try.underlying38 rfl ti36 rfl rfl) ?_
      refine U.k rfl rfl (.inl rfl) (S.load rfl (L 0 rfl rfl) Try.underlying36 rfl ((ow81.own (k := 1) rfl).cell rfl)) nd ?_
      refine U.p rfl rfl (.inl rfl) (S.move rfl (L 2 rfl rfl)) ?_
      obtain ⟨x82, hx83, h84⟩ := bindS h63
      obtain ⟨b85, o86, c87, cs88, hv89, hf90, hr91, hc92⟩ := f4.at hx83
      obtain ⟨v93, rfl, f94⟩ := hr91
      refine U.p rfl rfl (.inl rfl) (S.index rfl ((L 1 rfl rfl).trans hv89) (L 0 rfl rfl) Try.underlying36 ti44 (ix_ge hx83) (ix_lt hx83)) ?_
      refine U.k rfl rfl (.inl rfl) (S.loadN (cs := [.int .i64 x82.op, .int .i64 x82.d, .int .i64 x82.a, .int .i64 x82.b, .int .i64 x82.imm, v93, .int .i64 x82.what, .bool x82.volatile, .bool x82.final]) rfl (L 0 rfl rfl) Try.underlying44 rfl ti44 rfl (fun j v hj => ((((le7.trans le12).trans le52).trans le76).trans le80).cell hf90 (hc92 j v hj))) nd ?_
      refine O.alloc ow81 rfl rfl (.inl rfl) rfl ti44 rfl rfl nd (fun b95 V96 le97 ow98 => ?_)
      refine O.store (k := 0) (cs := [.int .i64 x82.op, .int .i64 x82.d, .int .i64 x82.a, .int .i64 x82.b, .int .i64 x82.imm, v93, .int .i64 x82.what, .bool x82.volatile, .bool x82.final]) (c' := [.int .i64 x82.op, .int .i64 x82.d, .int .i64 x82.a, .int .i64 x82.b, .int .i64 x82.imm, v93, .int .i64 x82.what, .bool x82.volatile, .bool x82.final]) ow98 rfl rfl rfl (.inl rfl) rfl (L 0 rfl rfl) (L 1 rfl rfl) ti44 (by simp [topV]) rfl rfl (nr rfl) (by have q0 := f94.one; simp only [List.all_cons, List.all_nil, q0]; rfl) rfl nd (fun V100 le101 ow102 => ?_)
      refine U.done (nr rfl) ?_
      refine WP.seq ?_
      refine WP.usreg rfl ?_
      refine U.p (v := .pointer (some ⟨b74, 0, none⟩)) rfl rfl (.inl rfl) (S.fieldAddr rfl (L 7 rfl rfl) Try.underlying44 rfl ti3 rfl rfl) ?_
      refine U.k rfl rfl (.inl rfl) (S.load rfl (L 0 rfl rfl) Try.underlying3 rfl ((ow102.own (k := 1) rfl).cell rfl)) nd ?_
      refine U.p (v := .pointer (some ⟨b95, 0, none⟩)) rfl rfl (.inl rfl) (S.fieldAddr rfl (L 2 rfl rfl) Try.underlying44 rfl ti3 rfl rfl) ?_
      refine U.k rfl rfl (.inl rfl) (S.load rfl (L 0 rfl rfl) Try.underlying3 rfl ((ow102.own (k := 0) rfl).cell rfl)) nd ?_
      refine U.p rfl rfl (.inl rfl) (S.neqI rfl (L 2 rfl rfl) (L 0 rfl rfl)) ?_
      refine U.p rfl rfl (.inl rfl) (S.move rfl (L 0 rfl rfl)) ?_
      refine U.joinX 12 (fun e H => ∃ (u103 u104 u105 u106 u107 : Value), H = V100.H ∧ e = [(61, .bool ((decide (x61.op ≠ x82.op)) || (decide (x61.d ≠ x82.d)))), (60, u103), (59, u104), (58, u105), (57, u106), (56, u107)]) ?_ ?_
      ·rintro _ _ ⟨u103, u104, u105, u106, u107, rfl, rfl⟩
       refine U.p rfl rfl (.inl rfl) (S.move rfl (L 0 rfl rfl)) ?_
       refine U.joinX 19 (fun e H => ∃ (u111 u112 u113 u114 u115 : Value), H = V100.H ∧ e = [(68, .bool (((decide (x61.op ≠ x82.op)) || (decide (x61.d ≠ x82.d))) || (decide (x61.a ≠ x82.a)))), (67, u111), (66, u112), (65, u113), (64, u114), (63, u115)]) ?_ ?_
       ·rintro _ _ ⟨u111, u112, u113, u114, u115, rfl, rfl⟩
        refine U.p rfl rfl (.inl rfl) (S.move rfl (L 0 rfl rfl)) ?_
        refine U.joinX 26 (fun e H => ∃ (u119 u120 u121 u122 u123 : Value), H = V100.H ∧ e = [(75, .bool ((((decide (x61.op ≠ x82.op)) || (decide (x61.d ≠ x82.d))) || (decide (x61.a ≠ x82.a))) || (decide (x61.b ≠ x82.b)))), (74, u119), (73, u120), (72, u121), (71, u122), (70, u123)]) ?_ ?_
        ·rintro _ _ ⟨u119, u120, u121, u122, u123, rfl, rfl⟩
         refine U.p rfl rfl (.inl rfl) (S.move rfl (L 0 rfl rfl)) ?_
         refine U.joinX 33 (fun e H => ∃ (u127 u128 u129 u130 u131 : Value), H = V100.H ∧ e = [(82, .bool (((((decide (x61.op ≠ x82.op)) || (decide (x61.d ≠ x82.d))) || (decide (x61.a ≠ x82.a))) || (decide (x61.b ≠ x82.b))) || (decide (x61.imm ≠ x82.imm)))), (81, u127), (80, u128), (79, u129), (78, u130), (77, u131)]) ?_ ?_
         ·rintro _ _ ⟨u127, u128, u129, u130, u131, rfl, rfl⟩
          refine U.p rfl rfl (.inl rfl) (S.move rfl (L 0 rfl rfl)) ?_
          refine U.joinX 40 (fun e H => ∃ (u135 u136 u137 u138 u139 : Value), H = V100.H ∧ e = [(89, .bool ((((((decide (x61.op ≠ x82.op)) || (decide (x61.d ≠ x82.d))) || (decide (x61.a ≠ x82.a))) || (decide (x61.b ≠ x82.b))) || (decide (x61.imm ≠ x82.imm))) || (decide (x61.what ≠ x82.what)))), (88, u135), (87, u136), (86, u137), (85, u138), (84, u139)]) ?_ ?_
          ·rintro _ _ ⟨u135, u136, u137, u138, u139, rfl, rfl⟩
           refine U.p rfl rfl (.inl rfl) (S.move rfl (L 0 rfl rfl)) ?_
           refine U.joinX 47 (fun e H => ∃ (u143 u144 u145 u146 u147 : Value), H = V100.H ∧ e = [(96, .bool (((((((decide (x61.op ≠ x82.op)) || (decide (x61.d ≠ x82.d))) || (decide (x61.a ≠ x82.a))) || (decide (x61.b ≠ x82.b))) || (decide (x61.imm ≠ x82.imm))) || (decide (x61.what ≠ x82.what))) || (!(x61.volatile == x82.volatile)))), (95, u143), (94, u144), (93, u145), (92, u146), (91, u147)]) ?_ ?_
           ·rintro _ _ ⟨u143, u144, u145, u146, u147, rfl, rfl⟩
            refine U.p rfl rfl (.inl rfl) (S.move rfl (L 0 rfl rfl)) ?_
            refine U.joinX 54 (fun e H => ∃ (u151 u152 u153 u154 u155 : Value), H = V100.H ∧ e = [(103, .bool ((((((((decide (x61.op ≠ x82.op)) || (decide (x61.d ≠ x82.d))) || (decide (x61.a ≠ x82.a))) || (decide (x61.b ≠ x82.b))) || (decide (x61.imm ≠ x82.imm))) || (decide (x61.what ≠ x82.what))) || (!(x61.volatile == x82.volatile))) || (!(x61.final == x82.final)))), (102, u151), (101, u152), (100, u153), (99, u154), (98, u155)]) ?_ ?_
            ·rintro _ _ ⟨u151, u152, u153, u154, u155, rfl, rfl⟩
             refine U.p rfl rfl (.inl rfl) (S.move rfl (L 0 rfl rfl)) ?_
             refine U.joinX 63 (fun e H => ∃ (u159 u160 u161 u162 u163 u164 u165 : Value), H = V100.H ∧ e = [(112, .bool (((((((((decide (x61.op ≠ x82.op)) || (decide (x61.d ≠ x82.d))) || (decide (x61.a ≠ x82.a))) || (decide (x61.b ≠ x82.b))) || (decide (x61.imm ≠ x82.imm))) || (decide (x61.what ≠ x82.what))) || (!(x61.volatile == x82.volatile))) || (!(x61.final == x82.final))) || (decide ((x61.args.length : Int) ≠ (x82.args.length : Int))))), (111, u159), (110, u160), (109, u161), (108, u162), (107, u163), (106, u164), (105, u165)]) ?_ ?_
             ·rintro _ _ ⟨u159, u160, u161, u162, u163, u164, u165, rfl, rfl⟩
              refine U.done (nr rfl) ?_
              refine WP.cond _ (L 0 rfl rfl) rfl (fun c169 => ?_) (fun c169 => ?_)
              ·have h170 := ifT c169 h84
               refine WP.usreg rfl ?_
               refine U.p rfl rfl (.inl rfl) (S.assign rfl K) ?_
               refine U.done (nr rfl) ?_
               refine WP.ret ?_
               refine sqR (blkR (sqR (sqR (blkR (sqR ?_)))))
               have h171 := exitS h170 e56
               refine fin.slot (.inr rfl) rfl (L 0 rfl rfl) ⟨V100, rfl, ((((((le7.trans le12).trans le52).trans le76).trans le80).trans le97).trans le101), ?_⟩
               have ow172 := ow102.drop 0 rfl
               have ow173 := ow172.drop 0 rfl
               have ow174 := ow173.drop 0 rfl
               have e175 := Option.some.inj h171
               subst e175
               exact ⟨rfl, ow174⟩
              ·have h176 := ifF c169 h84
               refine WP.skip ?_
               refine sqN ?_
               refine WP.usreg rfl ?_
               refine U.p (v := .pointer (some ⟨b74, 5, none⟩)) rfl rfl (.inl rfl) (S.fieldAddr rfl (L 70 rfl rfl) Try.underlying44 rfl ti23 rfl rfl) ?_
               refine U.k rfl rfl (.inl rfl) (S.load rfl (L 0 rfl rfl) Try.underlying23 rfl ((ow102.own (k := 1) rfl).cell rfl)) nd ?_
               refine U.p rfl rfl (.inl rfl) (f73.1.len rfl (L 0 rfl rfl) Try.underlying23) ?_
               refine U.p rfl rfl (.inl rfl) (S.move rfl K) ?_
               refine U.done (nr rfl) ?_
               refine WP.blk ?_
               have ow178 := ow102.pick 0 rfl
               have ow179 := ow178.pick 1 rfl
               have ow180 := ow179.pick 2 rfl
               unfold ref11_Same_l2 at h176
               obtain ⟨n182, hn181⟩ := loopO_some.1 h176
               refine WP.loopI2 (fun n l V' => ∃ (x177 : Int), l = [(3, .pointer (some ⟨b10, 0, none⟩)), (6, .pointer (some ⟨b74, 0, none⟩)), (7, .pointer (some ⟨b95, 0, none⟩)), (38, v1), (39, .int .i64 (p0.code.length : Int)), (40, .int .i64 x47), (115, .int .i64 (x61.args.length : Int)), (116, .int .i64 x177)] ∧ V100.le V' ∧ Ow V' (.pt b10 (.cells 0 [.string p1.name, .int .i64 p1.params, .int .i64 p1.regs, v3]) :: .pt b74 (.cells 9 [.int .i64 x61.op, .int .i64 x61.d, .int .i64 x61.a, .int .i64 x61.b, .int .i64 x61.imm, v72, .int .i64 x61.what, .bool x61.volatile, .bool x61.final]) :: .pt b95 (.cells 9 [.int .i64 x82.op, .int .i64 x82.d, .int .i64 x82.a, .int .i64 x82.b, .int .i64 x82.imm, v93, .int .i64 x82.what, .bool x82.volatile, .bool x82.final]) :: Rs) ∧ itO (fun s => ref11_Same_l2b x47 x61 x82 s) n x177 = some q55) n182 _ ⟨0, rfl, .refl _, ow180, hn181⟩ (allCons (L 79 rfl rfl) (allCons (L 74 rfl rfl) (allCons (L 67 rfl rfl) (allCons (L 80 rfl rfl) (allCons (L 81 rfl rfl) (allCons (L 82 rfl rfl) (allCons (L 1 rfl rfl) (allCons (L 0 rfl rfl) allNil)))))))) ?_
               rintro _ _ V183 ⟨x177, rfl, le184, ow185, h189⟩
               obtain ⟨m186, q187, rfl, h190, e188⟩ := itS h189
               replace h190 : ref11_Same_l2b x47 x61 x82 x177 = some q187 := h190
               unfold ref11_Same_l2b at h190
               refine WP.usreg rfl ?_
               refine U.p rfl rfl (.inl rfl) (S.lss rfl (L 7 rfl rfl) (L 6 rfl rfl)) ?_
               refine U.done (nr rfl) ?_
               refine WP.seq ?_
               refine WP.cond _ (L 0 rfl rfl) rfl (fun c191 => ?_) (fun c191 => ?_)
               ·have h192 := ifT c191 h190
                refine WP.skip ?_
                refine sqN ?_
                refine WP.seq ?_
                refine WP.blk ?_
                refine WP.usreg rfl ?_
                refine U.p rfl rfl (.inl rfl) (S.move rfl (L 8 rfl rfl)) ?_
                refine U.p rfl rfl (.inl rfl) (S.assign rfl (L 0 rfl rfl)) ?_
                refine U.done (nr rfl) ?_
                refine WP.usdreg rfl rfl rfl ?_
                refine U.p (v := .pointer (some ⟨b74, 5, none⟩)) rfl rfl (.inl rfl) (S.fieldAddr rfl (L 4 rfl rfl) Try.underlying44 rfl ti23 rfl rfl) ?_
                refine U.k rfl rfl (.inl rfl) (S.load rfl (L 0 rfl rfl) Try.underlying23 rfl ((ow185.own (k := 1) rfl).cell rfl)) (fun _ => (okH.nil (fun r h => by cases h; exact (ow185.own (k := 1) rfl).lt))) ?_
                refine U.p rfl rfl (.inl rfl) (S.move rfl (L 2 rfl rfl)) ?_
                obtain ⟨x193, hx194, h195⟩ := bindS h192
                obtain ⟨b196, o197, c198, cs199, hv200, hf201, hr202, hc203⟩ := f73.at hx194
                obtain rfl : cs199 = [.int .i64 x193] := hr202
                refine U.p rfl rfl (.inl rfl) (S.index rfl ((L 1 rfl rfl).trans hv200) (L 0 rfl rfl) Try.underlying23 ti3 (ix_ge hx194) (ix_lt hx194)) ?_
                refine U.k rfl rfl (.inl rfl) (S.load rfl (L 0 rfl rfl) Try.underlying3 rfl ((((((((le7.trans le12).trans le52).trans le76).trans le80).trans le97).trans le101).trans le184).cell hf201 (hc203 0 _ rfl))) (fun _ => (okH.cons trivial (okH.nil (fun r h => by cases h; exact (V183.wf _ ((((((((le7.trans le12).trans le52).trans le76).trans le80).trans le97).trans le101).trans le184).sub _ hf201)))))) ?_
                refine U.p (v := .pointer (some ⟨b95, 5, none⟩)) rfl rfl (.inl rfl) (S.fieldAddr rfl (L 10 rfl rfl) Try.underlying44 rfl ti23 rfl rfl) ?_
                refine U.k rfl rfl (.inl rfl) (S.load rfl (L 0 rfl rfl) Try.underlying23 rfl ((ow185.own (k := 2) rfl).cell rfl)) (fun _ => (okH.cons trivial (okH.cons trivial (okH.nil (fun r h => by cases h; exact (ow185.own (k := 2) rfl).lt))))) ?_
                refine U.p rfl rfl (.inl rfl) (S.move rfl (L 7 rfl rfl)) ?_
                obtain ⟨x204, hx205, h206⟩ := bindS h195
                obtain ⟨b207, o208, c209, cs210, hv211, hf212, hr213, hc214⟩ := f94.at hx205
                obtain rfl : cs210 = [.int .i64 x204] := hr213
                refine U.p rfl rfl (.inl rfl) (S.index rfl ((L 1 rfl rfl).trans hv211) (L 0 rfl rfl) Try.underlying23 ti3 (ix_ge hx205) (ix_lt hx205)) ?_
                refine U.k rfl rfl (.inl rfl) (S.load rfl (L 0 rfl rfl) Try.underlying3 rfl ((((((((le7.trans le12).trans le52).trans le76).trans le80).trans le97).trans le101).trans le184).cell hf212 (hc214 0 _ rfl))) (fun _ => (okH.cons trivial (okH.cons trivial (okH.cons trivial (okH.nil (fun r h => by cases h; exact (V183.wf _ ((((((((le7.trans le12).trans le52).trans le76).trans le80).trans le97).trans le101).trans le184).sub _ hf212)))))))) ?_
                refine U.p rfl rfl (.inl rfl) (S.neqI rfl (L 5 rfl rfl) (L 0 rfl rfl)) ?_
                refine U.done (nr rfl) ?_
                refine WP.cond _ (L 0 rfl rfl) rfl (fun c215 => ?_) (fun c215 => ?_)
                ·have h216 := ifT c215 h206
                 refine WP.usreg rfl ?_
                 refine U.p rfl rfl (.inl rfl) (S.assign rfl K) ?_
                 refine U.done (nr rfl) ?_
                 refine WP.ret ?_
                 refine blkR (sqR (sqR (blkR (blkR (sqR (sqR (blkR (sqR ?_))))))))
                 have h217 := exitS h216 e188
                 have h218 := exitS h217 e56
                 refine fin.slot (.inr rfl) rfl (L 0 rfl rfl) ⟨V183, rfl, (((((((le7.trans le12).trans le52).trans le76).trans le80).trans le97).trans le101).trans le184), ?_⟩
                 have ow219 := ow185.drop 0 rfl
                 have ow220 := ow219.drop 0 rfl
                 have ow221 := ow220.drop 0 rfl
                 have e222 := Option.some.inj h218
                 subst e222
                 exact ⟨rfl, ow221⟩
                ·have h223 := ifF c215 h206
                 refine WP.skip ?_
                 refine blkN (sqN ?_)
                 refine WP.ureg rfl ?_
                 refine U.p rfl rfl (.inl rfl) (S.add rfl (L 21 rfl rfl) K) ?_
                 refine U.p rfl rfl (.inl rfl) (S.move rfl (L 0 rfl rfl)) ?_
                 refine U.done (nr rfl) ?_
                 refine sqN ?_
                 exact ⟨_, V183, rfl, ⟨m186, Nat.lt_succ_self _, w64 (x177 + 1), rfl, le184, ow185, backS h223 e188⟩, (allCons (L 16 rfl rfl) (allCons (L 17 rfl rfl) (allCons (L 18 rfl rfl) (allCons (L 19 rfl rfl) (allCons (L 20 rfl rfl) (allCons (L 21 rfl rfl) (allCons (L 22 rfl rfl) (allCons (L 0 rfl rfl) allNil))))))))⟩
               ·have h224 := ifF c191 h190
                refine WP.exit ?_
                refine sqE (sqE (blkE (blkN (sqN ?_))))
                have h225 := exitS h224 e188
                refine WP.ureg rfl ?_
                refine U.p rfl rfl (.inl rfl) (S.add rfl (L 6 rfl rfl) K) ?_
                refine U.p rfl rfl (.inl rfl) (S.move rfl (L 0 rfl rfl)) ?_
                refine U.done (nr rfl) ?_
                refine sqN ?_
                have ow226 := ow185.drop 1 rfl
                have ow227 := ow226.drop 1 rfl
                exact ⟨_, V183, rfl, ⟨m54, Nat.lt_succ_self _, w64 (x47 + 1), rfl, (((((le52.trans le76).trans le80).trans le97).trans le101).trans le184), ow227, backS h225 e56⟩, (allCons (L 3 rfl rfl) (allCons (L 6 rfl rfl) (allCons (L 7 rfl rfl) (allCons (L 0 rfl rfl) allNil))))⟩
             ·intro kk
              refine bcase (b := (((((((decide (x61.op ≠ x82.op)) || (decide (x61.d ≠ x82.d))) || (decide (x61.a ≠ x82.a))) || (decide (x61.b ≠ x82.b))) || (decide (x61.imm ≠ x82.imm))) || (decide (x61.what ≠ x82.what))) || (!(x61.volatile == x82.volatile))) || (!(x61.final == x82.final))) (fun g228 => ?_) (fun g228 => ?_)
              ·skip
               refine U.x rfl rfl rfl rfl ((L 0 rfl rfl).trans (congrArg Value.bool g228)) (by decide) ?_
               refine U.x rfl rfl rfl rfl ((L 1 rfl rfl).trans (congrArg Value.bool g228)) (by decide) ?_
               refine U.x rfl rfl rfl rfl ((L 2 rfl rfl).trans (congrArg Value.bool g228)) (by decide) ?_
               refine U.x rfl rfl rfl rfl ((L 3 rfl rfl).trans (congrArg Value.bool g228)) (by decide) ?_
               refine U.x rfl rfl rfl rfl ((L 4 rfl rfl).trans (congrArg Value.bool g228)) (by decide) ?_
               refine U.x rfl rfl rfl rfl ((L 5 rfl rfl).trans (congrArg Value.bool g228)) (by decide) ?_
               refine U.x rfl rfl rfl rfl ((L 6 rfl rfl).trans (congrArg Value.bool g228)) (by decide) ?_
               refine U.p rfl rfl (.inl rfl) (S.pickT rfl ((L 7 rfl rfl).trans (congrArg Value.bool g228)) K) ?_
               exact kk [(112, .bool true), (111, .tuple #[]), (110, .tuple #[]), (109, .tuple #[]), (108, .tuple #[]), (107, .tuple #[]), (106, .tuple #[]), (105, .tuple #[])] _ ⟨.tuple #[], .tuple #[], .tuple #[], .tuple #[], .tuple #[], .tuple #[], .tuple #[], rfl, (by rw [g228, Bool.true_or])⟩
              ·skip
               refine U.p (v := .pointer (some ⟨b74, 5, none⟩)) rfl rfl (.inr ⟨_, _, _, rfl, rfl, ((L 0 rfl rfl).trans (congrArg Value.bool g228))⟩) (S.fieldAddr rfl (L 62 rfl rfl) Try.underlying44 rfl ti23 rfl rfl) ?_
               refine U.k rfl rfl (.inr ⟨_, _, _, rfl, rfl, ((L 1 rfl rfl).trans (congrArg Value.bool g228))⟩) (S.load rfl (L 0 rfl rfl) Try.underlying23 rfl ((ow102.own (k := 1) rfl).cell rfl)) nd ?_
               refine U.p rfl rfl (.inr ⟨_, _, _, rfl, rfl, ((L 2 rfl rfl).trans (congrArg Value.bool g228))⟩) (f73.1.len rfl (L 0 rfl rfl) Try.underlying23) ?_
               refine U.p (v := .pointer (some ⟨b95, 5, none⟩)) rfl rfl (.inr ⟨_, _, _, rfl, rfl, ((L 3 rfl rfl).trans (congrArg Value.bool g228))⟩) (S.fieldAddr rfl (L 58 rfl rfl) Try.underlying44 rfl ti23 rfl rfl) ?_
               refine U.k rfl rfl (.inr ⟨_, _, _, rfl, rfl, ((L 4 rfl rfl).trans (congrArg Value.bool g228))⟩) (S.load rfl (L 0 rfl rfl) Try.underlying23 rfl ((ow102.own (k := 0) rfl).cell rfl)) nd ?_
               refine U.p rfl rfl (.inr ⟨_, _, _, rfl, rfl, ((L 5 rfl rfl).trans (congrArg Value.bool g228))⟩) (f94.1.len rfl (L 0 rfl rfl) Try.underlying23) ?_
               refine U.p rfl rfl (.inr ⟨_, _, _, rfl, rfl, ((L 6 rfl rfl).trans (congrArg Value.bool g228))⟩) (S.neqI rfl (L 3 rfl rfl) (L 0 rfl rfl)) ?_
               refine U.p rfl rfl (.inl rfl) (S.pickF rfl ((L 7 rfl rfl).trans (congrArg Value.bool g228)) (L 0 rfl rfl)) ?_
               exact kk [(112, .bool (decide ((x61.args.length : Int) ≠ (x82.args.length : Int)))), (111, .bool (decide ((x61.args.length : Int) ≠ (x82.args.length : Int)))), (110, .int .i64 (x82.args.length : Int)), (109, v93), (108, .pointer (some ⟨b95, 5, none⟩)), (107, .int .i64 (x61.args.length : Int)), (106, v72), (105, .pointer (some ⟨b74, 5, none⟩))] _ ⟨.bool (decide ((x61.args.length : Int) ≠ (x82.args.length : Int))), .int .i64 (x82.args.length : Int), v93, .pointer (some ⟨b95, 5, none⟩), .int .i64 (x61.args.length : Int), v72, .pointer (some ⟨b74, 5, none⟩), rfl, (by rw [g228, Bool.false_or])⟩
            ·intro kk
             refine bcase (b := ((((((decide (x61.op ≠ x82.op)) || (decide (x61.d ≠ x82.d))) || (decide (x61.a ≠ x82.a))) || (decide (x61.b ≠ x82.b))) || (decide (x61.imm ≠ x82.imm))) || (decide (x61.what ≠ x82.what))) || (!(x61.volatile == x82.volatile))) (fun g229 => ?_) (fun g229 => ?_)
             ·skip
              refine U.x rfl rfl rfl rfl ((L 0 rfl rfl).trans (congrArg Value.bool g229)) (by decide) ?_
              refine U.x rfl rfl rfl rfl ((L 1 rfl rfl).trans (congrArg Value.bool g229)) (by decide) ?_
              refine U.x rfl rfl rfl rfl ((L 2 rfl rfl).trans (congrArg Value.bool g229)) (by decide) ?_
              refine U.x rfl rfl rfl rfl ((L 3 rfl rfl).trans (congrArg Value.bool g229)) (by decide) ?_
              refine U.x rfl rfl rfl rfl ((L 4 rfl rfl).trans (congrArg Value.bool g229)) (by decide) ?_
              refine U.p rfl rfl (.inl rfl) (S.pickT rfl ((L 5 rfl rfl).trans (congrArg Value.bool g229)) K) ?_
              exact kk [(103, .bool true), (102, .tuple #[]), (101, .tuple #[]), (100, .tuple #[]), (99, .tuple #[]), (98, .tuple #[])] _ ⟨.tuple #[], .tuple #[], .tuple #[], .tuple #[], .tuple #[], rfl, (by rw [g229, Bool.true_or])⟩
             ·skip
              refine U.p (v := .pointer (some ⟨b74, 8, none⟩)) rfl rfl (.inr ⟨_, _, _, rfl, rfl, ((L 0 rfl rfl).trans (congrArg Value.bool g229))⟩) (S.fieldAddr rfl (L 55 rfl rfl) Try.underlying44 rfl ti4 rfl rfl) ?_
              refine U.k rfl rfl (.inr ⟨_, _, _, rfl, rfl, ((L 1 rfl rfl).trans (congrArg Value.bool g229))⟩) (S.load rfl (L 0 rfl rfl) Try.underlying4 rfl ((ow102.own (k := 1) rfl).cell rfl)) nd ?_
              refine U.p (v := .pointer (some ⟨b95, 8, none⟩)) rfl rfl (.inr ⟨_, _, _, rfl, rfl, ((L 2 rfl rfl).trans (congrArg Value.bool g229))⟩) (S.fieldAddr rfl (L 50 rfl rfl) Try.underlying44 rfl ti4 rfl rfl) ?_
              refine U.k rfl rfl (.inr ⟨_, _, _, rfl, rfl, ((L 3 rfl rfl).trans (congrArg Value.bool g229))⟩) (S.load rfl (L 0 rfl rfl) Try.underlying4 rfl ((ow102.own (k := 0) rfl).cell rfl)) nd ?_
              refine U.p rfl rfl (.inr ⟨_, _, _, rfl, rfl, ((L 4 rfl rfl).trans (congrArg Value.bool g229))⟩) (S.neqB rfl (L 2 rfl rfl) (L 0 rfl rfl) Try.underlying4) ?_
              refine U.p rfl rfl (.inl rfl) (S.pickF rfl ((L 5 rfl rfl).trans (congrArg Value.bool g229)) (L 0 rfl rfl)) ?_
              exact kk [(103, .bool (!(x61.final == x82.final))), (102, .bool (!(x61.final == x82.final))), (101, .bool x82.final), (100, .pointer (some ⟨b95, 8, none⟩)), (99, .bool x61.final), (98, .pointer (some ⟨b74, 8, none⟩))] _ ⟨.bool (!(x61.final == x82.final)), .bool x82.final, .pointer (some ⟨b95, 8, none⟩), .bool x61.final, .pointer (some ⟨b74, 8, none⟩), rfl, (by rw [g229, Bool.false_or])⟩
           ·intro kk
            refine bcase (b := (((((decide (x61.op ≠ x82.op)) || (decide (x61.d ≠ x82.d))) || (decide (x61.a ≠ x82.a))) || (decide (x61.b ≠ x82.b))) || (decide (x61.imm ≠ x82.imm))) || (decide (x61.what ≠ x82.what))) (fun g230 => ?_) (fun g230 => ?_)
            ·skip
             refine U.x rfl rfl rfl rfl ((L 0 rfl rfl).trans (congrArg Value.bool g230)) (by decide) ?_
             refine U.x rfl rfl rfl rfl ((L 1 rfl rfl).trans (congrArg Value.bool g230)) (by decide) ?_
             refine U.x rfl rfl rfl rfl ((L 2 rfl rfl).trans (congrArg Value.bool g230)) (by decide) ?_
             refine U.x rfl rfl rfl rfl ((L 3 rfl rfl).trans (congrArg Value.bool g230)) (by decide) ?_
             refine U.x rfl rfl rfl rfl ((L 4 rfl rfl).trans (congrArg Value.bool g230)) (by decide) ?_
             refine U.p rfl rfl (.inl rfl) (S.pickT rfl ((L 5 rfl rfl).trans (congrArg Value.bool g230)) K) ?_
             exact kk [(96, .bool true), (95, .tuple #[]), (94, .tuple #[]), (93, .tuple #[]), (92, .tuple #[]), (91, .tuple #[])] _ ⟨.tuple #[], .tuple #[], .tuple #[], .tuple #[], .tuple #[], rfl, (by rw [g230, Bool.true_or])⟩
            ·skip
             refine U.p (v := .pointer (some ⟨b74, 7, none⟩)) rfl rfl (.inr ⟨_, _, _, rfl, rfl, ((L 0 rfl rfl).trans (congrArg Value.bool g230))⟩) (S.fieldAddr rfl (L 48 rfl rfl) Try.underlying44 rfl ti4 rfl rfl) ?_
             refine U.k rfl rfl (.inr ⟨_, _, _, rfl, rfl, ((L 1 rfl rfl).trans (congrArg Value.bool g230))⟩) (S.load rfl (L 0 rfl rfl) Try.underlying4 rfl ((ow102.own (k := 1) rfl).cell rfl)) nd ?_
             refine U.p (v := .pointer (some ⟨b95, 7, none⟩)) rfl rfl (.inr ⟨_, _, _, rfl, rfl, ((L 2 rfl rfl).trans (congrArg Value.bool g230))⟩) (S.fieldAddr rfl (L 43 rfl rfl) Try.underlying44 rfl ti4 rfl rfl) ?_
             refine U.k rfl rfl (.inr ⟨_, _, _, rfl, rfl, ((L 3 rfl rfl).trans (congrArg Value.bool g230))⟩) (S.load rfl (L 0 rfl rfl) Try.underlying4 rfl ((ow102.own (k := 0) rfl).cell rfl)) nd ?_
             refine U.p rfl rfl (.inr ⟨_, _, _, rfl, rfl, ((L 4 rfl rfl).trans (congrArg Value.bool g230))⟩) (S.neqB rfl (L 2 rfl rfl) (L 0 rfl rfl) Try.underlying4) ?_
             refine U.p rfl rfl (.inl rfl) (S.pickF rfl ((L 5 rfl rfl).trans (congrArg Value.bool g230)) (L 0 rfl rfl)) ?_
             exact kk [(96, .bool (!(x61.volatile == x82.volatile))), (95, .bool (!(x61.volatile == x82.volatile))), (94, .bool x82.volatile), (93, .pointer (some ⟨b95, 7, none⟩)), (92, .bool x61.volatile), (91, .pointer (some ⟨b74, 7, none⟩))] _ ⟨.bool (!(x61.volatile == x82.volatile)), .bool x82.volatile, .pointer (some ⟨b95, 7, none⟩), .bool x61.volatile, .pointer (some ⟨b74, 7, none⟩), rfl, (by rw [g230, Bool.false_or])⟩
          ·intro kk
           refine bcase (b := ((((decide (x61.op ≠ x82.op)) || (decide (x61.d ≠ x82.d))) || (decide (x61.a ≠ x82.a))) || (decide (x61.b ≠ x82.b))) || (decide (x61.imm ≠ x82.imm))) (fun g231 => ?_) (fun g231 => ?_)
           ·skip
            refine U.x rfl rfl rfl rfl ((L 0 rfl rfl).trans (congrArg Value.bool g231)) (by decide) ?_
            refine U.x rfl rfl rfl rfl ((L 1 rfl rfl).trans (congrArg Value.bool g231)) (by decide) ?_
            refine U.x rfl rfl rfl rfl ((L 2 rfl rfl).trans (congrArg Value.bool g231)) (by decide) ?_
            refine U.x rfl rfl rfl rfl ((L 3 rfl rfl).trans (congrArg Value.bool g231)) (by decide) ?_
            refine U.x rfl rfl rfl rfl ((L 4 rfl rfl).trans (congrArg Value.bool g231)) (by decide) ?_
            refine U.p rfl rfl (.inl rfl) (S.pickT rfl ((L 5 rfl rfl).trans (congrArg Value.bool g231)) K) ?_
            exact kk [(89, .bool true), (88, .tuple #[]), (87, .tuple #[]), (86, .tuple #[]), (85, .tuple #[]), (84, .tuple #[])] _ ⟨.tuple #[], .tuple #[], .tuple #[], .tuple #[], .tuple #[], rfl, (by rw [g231, Bool.true_or])⟩
           ·skip
            refine U.p (v := .pointer (some ⟨b74, 6, none⟩)) rfl rfl (.inr ⟨_, _, _, rfl, rfl, ((L 0 rfl rfl).trans (congrArg Value.bool g231))⟩) (S.fieldAddr rfl (L 41 rfl rfl) Try.underlying44 rfl ti3 rfl rfl) ?_
            refine U.k rfl rfl (.inr ⟨_, _, _, rfl, rfl, ((L 1 rfl rfl).trans (congrArg Value.bool g231))⟩) (S.load rfl (L 0 rfl rfl) Try.underlying3 rfl ((ow102.own (k := 1) rfl).cell rfl)) nd ?_
            refine U.p (v := .pointer (some ⟨b95, 6, none⟩)) rfl rfl (.inr ⟨_, _, _, rfl, rfl, ((L 2 rfl rfl).trans (congrArg Value.bool g231))⟩) (S.fieldAddr rfl (L 36 rfl rfl) Try.underlying44 rfl ti3 rfl rfl) ?_
            refine U.k rfl rfl (.inr ⟨_, _, _, rfl, rfl, ((L 3 rfl rfl).trans (congrArg Value.bool g231))⟩) (S.load rfl (L 0 rfl rfl) Try.underlying3 rfl ((ow102.own (k := 0) rfl).cell rfl)) nd ?_
            refine U.p rfl rfl (.inr ⟨_, _, _, rfl, rfl, ((L 4 rfl rfl).trans (congrArg Value.bool g231))⟩) (S.neqI rfl (L 2 rfl rfl) (L 0 rfl rfl)) ?_
            refine U.p rfl rfl (.inl rfl) (S.pickF rfl ((L 5 rfl rfl).trans (congrArg Value.bool g231)) (L 0 rfl rfl)) ?_
            exact kk [(89, .bool (decide (x61.what ≠ x82.what))), (88, .bool (decide (x61.what ≠ x82.what))), (87, .int .i64 x82.what), (86, .pointer (some ⟨b95, 6, none⟩)), (85, .int .i64 x61.what), (84, .pointer (some ⟨b74, 6, none⟩))] _ ⟨.bool (decide (x61.what ≠ x82.what)), .int .i64 x82.what, .pointer (some ⟨b95, 6, none⟩), .int .i64 x61.what, .pointer (some ⟨b74, 6, none⟩), rfl, (by rw [g231, Bool.false_or])⟩
         ·intro kk
          refine bcase (b := (((decide (x61.op ≠ x82.op)) || (decide (x61.d ≠ x82.d))) || (decide (x61.a ≠ x82.a))) || (decide (x61.b ≠ x82.b))) (fun g232 => ?_) (fun g232 => ?_)
          ·skip
           refine U.x rfl rfl rfl rfl ((L 0 rfl rfl).trans (congrArg Value.bool g232)) (by decide) ?_
           refine U.x rfl rfl rfl rfl ((L 1 rfl rfl).trans (congrArg Value.bool g232)) (by decide) ?_
           refine U.x rfl rfl rfl rfl ((L 2 rfl rfl).trans (congrArg Value.bool g232)) (by decide) ?_
           refine U.x rfl rfl rfl rfl ((L 3 rfl rfl).trans (congrArg Value.bool g232)) (by decide) ?_
           refine U.x rfl rfl rfl rfl ((L 4 rfl rfl).trans (congrArg Value.bool g232)) (by decide) ?_
           refine U.p rfl rfl (.inl rfl) (S.pickT rfl ((L 5 rfl rfl).trans (congrArg Value.bool g232)) K) ?_
           exact kk [(82, .bool true), (81, .tuple #[]), (80, .tuple #[]), (79, .tuple #[]), (78, .tuple #[]), (77, .tuple #[])] _ ⟨.tuple #[], .tuple #[], .tuple #[], .tuple #[], .tuple #[], rfl, (by rw [g232, Bool.true_or])⟩
          ·skip
           refine U.p (v := .pointer (some ⟨b74, 4, none⟩)) rfl rfl (.inr ⟨_, _, _, rfl, rfl, ((L 0 rfl rfl).trans (congrArg Value.bool g232))⟩) (S.fieldAddr rfl (L 34 rfl rfl) Try.underlying44 rfl ti3 rfl rfl) ?_
           refine U.k rfl rfl (.inr ⟨_, _, _, rfl, rfl, ((L 1 rfl rfl).trans (congrArg Value.bool g232))⟩) (S.load rfl (L 0 rfl rfl) Try.underlying3 rfl ((ow102.own (k := 1) rfl).cell rfl)) nd ?_
           refine U.p (v := .pointer (some ⟨b95, 4, none⟩)) rfl rfl (.inr ⟨_, _, _, rfl, rfl, ((L 2 rfl rfl).trans (congrArg Value.bool g232))⟩) (S.fieldAddr rfl (L 29 rfl rfl) Try.underlying44 rfl ti3 rfl rfl) ?_
           refine U.k rfl rfl (.inr ⟨_, _, _, rfl, rfl, ((L 3 rfl rfl).trans (congrArg Value.bool g232))⟩) (S.load rfl (L 0 rfl rfl) Try.underlying3 rfl ((ow102.own (k := 0) rfl).cell rfl)) nd ?_
           refine U.p rfl rfl (.inr ⟨_, _, _, rfl, rfl, ((L 4 rfl rfl).trans (congrArg Value.bool g232))⟩) (S.neqI rfl (L 2 rfl rfl) (L 0 rfl rfl)) ?_
           refine U.p rfl rfl (.inl rfl) (S.pickF rfl ((L 5 rfl rfl).trans (congrArg Value.bool g232)) (L 0 rfl rfl)) ?_
           exact kk [(82, .bool (decide (x61.imm ≠ x82.imm))), (81, .bool (decide (x61.imm ≠ x82.imm))), (80, .int .i64 x82.imm), (79, .pointer (some ⟨b95, 4, none⟩)), (78, .int .i64 x61.imm), (77, .pointer (some ⟨b74, 4, none⟩))] _ ⟨.bool (decide (x61.imm ≠ x82.imm)), .int .i64 x82.imm, .pointer (some ⟨b95, 4, none⟩), .int .i64 x61.imm, .pointer (some ⟨b74, 4, none⟩), rfl, (by rw [g232, Bool.false_or])⟩
        ·intro kk
         refine bcase (b := ((decide (x61.op ≠ x82.op)) || (decide (x61.d ≠ x82.d))) || (decide (x61.a ≠ x82.a))) (fun g233 => ?_) (fun g233 => ?_)
         ·skip
          refine U.x rfl rfl rfl rfl ((L 0 rfl rfl).trans (congrArg Value.bool g233)) (by decide) ?_
          refine U.x rfl rfl rfl rfl ((L 1 rfl rfl).trans (congrArg Value.bool g233)) (by decide) ?_
          refine U.x rfl rfl rfl rfl ((L 2 rfl rfl).trans (congrArg Value.bool g233)) (by decide) ?_
          refine U.x rfl rfl rfl rfl ((L 3 rfl rfl).trans (congrArg Value.bool g233)) (by decide) ?_
          refine U.x rfl rfl rfl rfl ((L 4 rfl rfl).trans (congrArg Value.bool g233)) (by decide) ?_
          refine U.p rfl rfl (.inl rfl) (S.pickT rfl ((L 5 rfl rfl).trans (congrArg Value.bool g233)) K) ?_
          exact kk [(75, .bool true), (74, .tuple #[]), (73, .tuple #[]), (72, .tuple #[]), (71, .tuple #[]), (70, .tuple #[])] _ ⟨.tuple #[], .tuple #[], .tuple #[], .tuple #[], .tuple #[], rfl, (by rw [g233, Bool.true_or])⟩
         ·skip
          refine U.p (v := .pointer (some ⟨b74, 3, none⟩)) rfl rfl (.inr ⟨_, _, _, rfl, rfl, ((L 0 rfl rfl).trans (congrArg Value.bool g233))⟩) (S.fieldAddr rfl (L 27 rfl rfl) Try.underlying44 rfl ti3 rfl rfl) ?_
          refine U.k rfl rfl (.inr ⟨_, _, _, rfl, rfl, ((L 1 rfl rfl).trans (congrArg Value.bool g233))⟩) (S.load rfl (L 0 rfl rfl) Try.underlying3 rfl ((ow102.own (k := 1) rfl).cell rfl)) nd ?_
          refine U.p (v := .pointer (some ⟨b95, 3, none⟩)) rfl rfl (.inr ⟨_, _, _, rfl, rfl, ((L 2 rfl rfl).trans (congrArg Value.bool g233))⟩) (S.fieldAddr rfl (L 22 rfl rfl) Try.underlying44 rfl ti3 rfl rfl) ?_
          refine U.k rfl rfl (.inr ⟨_, _, _, rfl, rfl, ((L 3 rfl rfl).trans (congrArg Value.bool g233))⟩) (S.load rfl (L 0 rfl rfl) Try.underlying3 rfl ((ow102.own (k := 0) rfl).cell rfl)) nd ?_
          refine U.p rfl rfl (.inr ⟨_, _, _, rfl, rfl, ((L 4 rfl rfl).trans (congrArg Value.bool g233))⟩) (S.neqI rfl (L 2 rfl rfl) (L 0 rfl rfl)) ?_
          refine U.p rfl rfl (.inl rfl) (S.pickF rfl ((L 5 rfl rfl).trans (congrArg Value.bool g233)) (L 0 rfl rfl)) ?_
          exact kk [(75, .bool (decide (x61.b ≠ x82.b))), (74, .bool (decide (x61.b ≠ x82.b))), (73, .int .i64 x82.b), (72, .pointer (some ⟨b95, 3, none⟩)), (71, .int .i64 x61.b), (70, .pointer (some ⟨b74, 3, none⟩))] _ ⟨.bool (decide (x61.b ≠ x82.b)), .int .i64 x82.b, .pointer (some ⟨b95, 3, none⟩), .int .i64 x61.b, .pointer (some ⟨b74, 3, none⟩), rfl, (by rw [g233, Bool.false_or])⟩
       ·intro kk
        refine bcase (b := (decide (x61.op ≠ x82.op)) || (decide (x61.d ≠ x82.d))) (fun g234 => ?_) (fun g234 => ?_)
        ·skip
         refine U.x rfl rfl rfl rfl ((L 0 rfl rfl).trans (congrArg Value.bool g234)) (by decide) ?_
         refine U.x rfl rfl rfl rfl ((L 1 rfl rfl).trans (congrArg Value.bool g234)) (by decide) ?_
         refine U.x rfl rfl rfl rfl ((L 2 rfl rfl).trans (congrArg Value.bool g234)) (by decide) ?_
         refine U.x rfl rfl rfl rfl ((L 3 rfl rfl).trans (congrArg Value.bool g234)) (by decide) ?_
         refine U.x rfl rfl rfl rfl ((L 4 rfl rfl).trans (congrArg Value.bool g234)) (by decide) ?_
         refine U.p rfl rfl (.inl rfl) (S.pickT rfl ((L 5 rfl rfl).trans (congrArg Value.bool g234)) K) ?_
         exact kk [(68, .bool true), (67, .tuple #[]), (66, .tuple #[]), (65, .tuple #[]), (64, .tuple #[]), (63, .tuple #[])] _ ⟨.tuple #[], .tuple #[], .tuple #[], .tuple #[], .tuple #[], rfl, (by rw [g234, Bool.true_or])⟩
        ·skip
         refine U.p (v := .pointer (some ⟨b74, 2, none⟩)) rfl rfl (.inr ⟨_, _, _, rfl, rfl, ((L 0 rfl rfl).trans (congrArg Value.bool g234))⟩) (S.fieldAddr rfl (L 20 rfl rfl) Try.underlying44 rfl ti3 rfl rfl) ?_
         refine U.k rfl rfl (.inr ⟨_, _, _, rfl, rfl, ((L 1 rfl rfl).trans (congrArg Value.bool g234))⟩) (S.load rfl (L 0 rfl rfl) Try.underlying3 rfl ((ow102.own (k := 1) rfl).cell rfl)) nd ?_
         refine U.p (v := .pointer (some ⟨b95, 2, none⟩)) rfl rfl (.inr ⟨_, _, _, rfl, rfl, ((L 2 rfl rfl).trans (congrArg Value.bool g234))⟩) (S.fieldAddr rfl (L 15 rfl rfl) Try.underlying44 rfl ti3 rfl rfl) ?_
         refine U.k rfl rfl (.inr ⟨_, _, _, rfl, rfl, ((L 3 rfl rfl).trans (congrArg Value.bool g234))⟩) (S.load rfl (L 0 rfl rfl) Try.underlying3 rfl ((ow102.own (k := 0) rfl).cell rfl)) nd ?_
         refine U.p rfl rfl (.inr ⟨_, _, _, rfl, rfl, ((L 4 rfl rfl).trans (congrArg Value.bool g234))⟩) (S.neqI rfl (L 2 rfl rfl) (L 0 rfl rfl)) ?_
         refine U.p rfl rfl (.inl rfl) (S.pickF rfl ((L 5 rfl rfl).trans (congrArg Value.bool g234)) (L 0 rfl rfl)) ?_
         exact kk [(68, .bool (decide (x61.a ≠ x82.a))), (67, .bool (decide (x61.a ≠ x82.a))), (66, .int .i64 x82.a), (65, .pointer (some ⟨b95, 2, none⟩)), (64, .int .i64 x61.a), (63, .pointer (some ⟨b74, 2, none⟩))] _ ⟨.bool (decide (x61.a ≠ x82.a)), .int .i64 x82.a, .pointer (some ⟨b95, 2, none⟩), .int .i64 x61.a, .pointer (some ⟨b74, 2, none⟩), rfl, (by rw [g234, Bool.false_or])⟩
      ·intro kk
       refine bcase (b := decide (x61.op ≠ x82.op)) (fun g235 => ?_) (fun g235 => ?_)
       ·skip
        refine U.x rfl rfl rfl rfl ((L 0 rfl rfl).trans (congrArg Value.bool g235)) (by decide) ?_
        refine U.x rfl rfl rfl rfl ((L 1 rfl rfl).trans (congrArg Value.bool g235)) (by decide) ?_
        refine U.x rfl rfl rfl rfl ((L 2 rfl rfl).trans (congrArg Value.bool g235)) (by decide) ?_
        refine U.x rfl rfl rfl rfl ((L 3 rfl rfl).trans (congrArg Value.bool g235)) (by decide) ?_
        refine U.x rfl rfl rfl rfl ((L 4 rfl rfl).trans (congrArg Value.bool g235)) (by decide) ?_
        refine U.p rfl rfl (.inl rfl) (S.pickT rfl ((L 5 rfl rfl).trans (congrArg Value.bool g235)) K) ?_
        exact kk [(61, .bool true), (60, .tuple #[]), (59, .tuple #[]), (58, .tuple #[]), (57, .tuple #[]), (56, .tuple #[])] _ ⟨.tuple #[], .tuple #[], .tuple #[], .tuple #[], .tuple #[], rfl, (by rw [g235, Bool.true_or])⟩
       ·skip
        refine U.p (v := .pointer (some ⟨b74, 1, none⟩)) rfl rfl (.inr ⟨_, _, _, rfl, rfl, ((L 0 rfl rfl).trans (congrArg Value.bool g235))⟩) (S.fieldAddr rfl (L 13 rfl rfl) Try.underlying44 rfl ti3 rfl rfl) ?_
        refine U.k rfl rfl (.inr ⟨_, _, _, rfl, rfl, ((L 1 rfl rfl).trans (congrArg Value.bool g235))⟩) (S.load rfl (L 0 rfl rfl) Try.underlying3 rfl ((ow102.own (k := 1) rfl).cell rfl)) nd ?_
        refine U.p (v := .pointer (some ⟨b95, 1, none⟩)) rfl rfl (.inr ⟨_, _, _, rfl, rfl, ((L 2 rfl rfl).trans (congrArg Value.bool g235))⟩) (S.fieldAddr rfl (L 8 rfl rfl) Try.underlying44 rfl ti3 rfl rfl) ?_
        refine U.k rfl rfl (.inr ⟨_, _, _, rfl, rfl, ((L 3 rfl rfl).trans (congrArg Value.bool g235))⟩) (S.load rfl (L 0 rfl rfl) Try.underlying3 rfl ((ow102.own (k := 0) rfl).cell rfl)) nd ?_
        refine U.p rfl rfl (.inr ⟨_, _, _, rfl, rfl, ((L 4 rfl rfl).trans (congrArg Value.bool g235))⟩) (S.neqI rfl (L 2 rfl rfl) (L 0 rfl rfl)) ?_
        refine U.p rfl rfl (.inl rfl) (S.pickF rfl ((L 5 rfl rfl).trans (congrArg Value.bool g235)) (L 0 rfl rfl)) ?_
        exact kk [(61, .bool (decide (x61.d ≠ x82.d))), (60, .bool (decide (x61.d ≠ x82.d))), (59, .int .i64 x82.d), (58, .pointer (some ⟨b95, 1, none⟩)), (57, .int .i64 x61.d), (56, .pointer (some ⟨b74, 1, none⟩))] _ ⟨.bool (decide (x61.d ≠ x82.d)), .int .i64 x82.d, .pointer (some ⟨b95, 1, none⟩), .int .i64 x61.d, .pointer (some ⟨b74, 1, none⟩), rfl, (by rw [g235, Bool.false_or])⟩
     ·have h236 := ifF c59 h58
      refine WP.exit ?_
      refine sqE (sqE (blkE (sqN ?_)))
      have h237 := exitS h236 e56
      refine WP.usreg rfl ?_
      refine U.p rfl rfl (.inl rfl) (S.assign rfl K) ?_
      refine U.done (nr rfl) ?_
      refine WP.ret ?_
      refine fin.slot (.inr rfl) rfl (L 0 rfl rfl) ⟨V51, rfl, ((le7.trans le12).trans le52), ?_⟩
      have ow238 := ow53.drop 0 rfl
      have e239 := Option.some.inj h237
      subst e239
      exact ⟨rfl, ow238⟩
   ·intro kk
    refine bcase (b := ((decide (p0.name ≠ p1.name)) || (decide (p0.params ≠ p1.params))) || (decide (p0.regs ≠ p1.regs))) (fun g240 => ?_) (fun g240 => ?_)
    ·skip
     refine U.x rfl rfl rfl rfl ((L 0 rfl rfl).trans (congrArg Value.bool g240)) (by decide) ?_
     refine U.x rfl rfl rfl rfl ((L 1 rfl rfl).trans (congrArg Value.bool g240)) (by decide) ?_
     refine U.x rfl rfl rfl rfl ((L 2 rfl rfl).trans (congrArg Value.bool g240)) (by decide) ?_
     refine U.x rfl rfl rfl rfl ((L 3 rfl rfl).trans (congrArg Value.bool g240)) (by decide) ?_
     refine U.x rfl rfl rfl rfl ((L 4 rfl rfl).trans (congrArg Value.bool g240)) (by decide) ?_
     refine U.x rfl rfl rfl rfl ((L 5 rfl rfl).trans (congrArg Value.bool g240)) (by decide) ?_
     refine U.x rfl rfl rfl rfl ((L 6 rfl rfl).trans (congrArg Value.bool g240)) (by decide) ?_
     refine U.p rfl rfl (.inl rfl) (S.pickT rfl ((L 7 rfl rfl).trans (congrArg Value.bool g240)) K) ?_
     exact kk [(36, .bool true), (35, .tuple #[]), (34, .tuple #[]), (33, .tuple #[]), (32, .tuple #[]), (31, .tuple #[]), (30, .tuple #[]), (29, .tuple #[])] _ ⟨.tuple #[], .tuple #[], .tuple #[], .tuple #[], .tuple #[], .tuple #[], .tuple #[], rfl, (by rw [g240, Bool.true_or])⟩
    ·skip
     refine U.p (v := .pointer (some ⟨b5, 3, none⟩)) rfl rfl (.inr ⟨_, _, _, rfl, rfl, ((L 0 rfl rfl).trans (congrArg Value.bool g240))⟩) (S.fieldAddr rfl (L 22 rfl rfl) Try.underlying38 rfl ti36 rfl rfl) ?_
     refine U.k rfl rfl (.inr ⟨_, _, _, rfl, rfl, ((L 1 rfl rfl).trans (congrArg Value.bool g240))⟩) (S.load rfl (L 0 rfl rfl) Try.underlying36 rfl ((ow13.own (k := 1) rfl).cell rfl)) nd ?_
     refine U.p rfl rfl (.inr ⟨_, _, _, rfl, rfl, ((L 2 rfl rfl).trans (congrArg Value.bool g240))⟩) (f2.1.len rfl (L 0 rfl rfl) Try.underlying36) ?_
     refine U.p (v := .pointer (some ⟨b10, 3, none⟩)) rfl rfl (.inr ⟨_, _, _, rfl, rfl, ((L 3 rfl rfl).trans (congrArg Value.bool g240))⟩) (S.fieldAddr rfl (L 24 rfl rfl) Try.underlying38 rfl ti36 rfl rfl) ?_
     refine U.k rfl rfl (.inr ⟨_, _, _, rfl, rfl, ((L 4 rfl rfl).trans (congrArg Value.bool g240))⟩) (S.load rfl (L 0 rfl rfl) Try.underlying36 rfl ((ow13.own (k := 0) rfl).cell rfl)) nd ?_
     refine U.p rfl rfl (.inr ⟨_, _, _, rfl, rfl, ((L 5 rfl rfl).trans (congrArg Value.bool g240))⟩) (f4.1.len rfl (L 0 rfl rfl) Try.underlying36) ?_
     refine U.p rfl rfl (.inr ⟨_, _, _, rfl, rfl, ((L 6 rfl rfl).trans (congrArg Value.bool g240))⟩) (S.neqI rfl (L 3 rfl rfl) (L 0 rfl rfl)) ?_
     refine U.p rfl rfl (.inl rfl) (S.pickF rfl ((L 7 rfl rfl).trans (congrArg Value.bool g240)) (L 0 rfl rfl)) ?_
     exact kk [(36, .bool (decide ((p0.code.length : Int) ≠ (p1.code.length : Int)))), (35, .bool (decide ((p0.code.length : Int) ≠ (p1.code.length : Int)))), (34, .int .i64 (p1.code.length : Int)), (33, v3), (32, .pointer (some ⟨b10, 3, none⟩)), (31, .int .i64 (p0.code.length : Int)), (30, v1), (29, .pointer (some ⟨b5, 3, none⟩))] _ ⟨.bool (decide ((p0.code.length : Int) ≠ (p1.code.length : Int))), .int .i64 (p1.code.length : Int), v3, .pointer (some ⟨b10, 3, none⟩), .int .i64 (p0.code.length : Int), v1, .pointer (some ⟨b5, 3, none⟩), rfl, (by rw [g240, Bool.false_or])⟩
  ·intro kk
   refine bcase (b := (decide (p0.name ≠ p1.name)) || (decide (p0.params ≠ p1.params))) (fun g241 => ?_) (fun g241 => ?_)
   ·skip
    refine U.x rfl rfl rfl rfl ((L 0 rfl rfl).trans (congrArg Value.bool g241)) (by decide) ?_
    refine U.x rfl rfl rfl rfl ((L 1 rfl rfl).trans (congrArg Value.bool g241)) (by decide) ?_
    refine U.x rfl rfl rfl rfl ((L 2 rfl rfl).trans (congrArg Value.bool g241)) (by decide) ?_
    refine U.x rfl rfl rfl rfl ((L 3 rfl rfl).trans (congrArg Value.bool g241)) (by decide) ?_
    refine U.x rfl rfl rfl rfl ((L 4 rfl rfl).trans (congrArg Value.bool g241)) (by decide) ?_
    refine U.p rfl rfl (.inl rfl) (S.pickT rfl ((L 5 rfl rfl).trans (congrArg Value.bool g241)) K) ?_
    exact kk [(27, .bool true), (26, .tuple #[]), (25, .tuple #[]), (24, .tuple #[]), (23, .tuple #[]), (22, .tuple #[])] _ ⟨.tuple #[], .tuple #[], .tuple #[], .tuple #[], .tuple #[], rfl, (by rw [g241, Bool.true_or])⟩
   ·skip
    refine U.p (v := .pointer (some ⟨b5, 2, none⟩)) rfl rfl (.inr ⟨_, _, _, rfl, rfl, ((L 0 rfl rfl).trans (congrArg Value.bool g241))⟩) (S.fieldAddr rfl (L 15 rfl rfl) Try.underlying38 rfl ti3 rfl rfl) ?_
    refine U.k rfl rfl (.inr ⟨_, _, _, rfl, rfl, ((L 1 rfl rfl).trans (congrArg Value.bool g241))⟩) (S.load rfl (L 0 rfl rfl) Try.underlying3 rfl ((ow13.own (k := 1) rfl).cell rfl)) nd ?_
    refine U.p (v := .pointer (some ⟨b10, 2, none⟩)) rfl rfl (.inr ⟨_, _, _, rfl, rfl, ((L 2 rfl rfl).trans (congrArg Value.bool g241))⟩) (S.fieldAddr rfl (L 16 rfl rfl) Try.underlying38 rfl ti3 rfl rfl) ?_
    refine U.k rfl rfl (.inr ⟨_, _, _, rfl, rfl, ((L 3 rfl rfl).trans (congrArg Value.bool g241))⟩) (S.load rfl (L 0 rfl rfl) Try.underlying3 rfl ((ow13.own (k := 0) rfl).cell rfl)) nd ?_
    refine U.p rfl rfl (.inr ⟨_, _, _, rfl, rfl, ((L 4 rfl rfl).trans (congrArg Value.bool g241))⟩) (S.neqI rfl (L 2 rfl rfl) (L 0 rfl rfl)) ?_
    refine U.p rfl rfl (.inl rfl) (S.pickF rfl ((L 5 rfl rfl).trans (congrArg Value.bool g241)) (L 0 rfl rfl)) ?_
    exact kk [(27, .bool (decide (p0.regs ≠ p1.regs))), (26, .bool (decide (p0.regs ≠ p1.regs))), (25, .int .i64 p1.regs), (24, .pointer (some ⟨b10, 2, none⟩)), (23, .int .i64 p0.regs), (22, .pointer (some ⟨b5, 2, none⟩))] _ ⟨.bool (decide (p0.regs ≠ p1.regs)), .int .i64 p1.regs, .pointer (some ⟨b10, 2, none⟩), .int .i64 p0.regs, .pointer (some ⟨b5, 2, none⟩), rfl, (by rw [g241, Bool.false_or])⟩
 ·intro kk
  refine bcase (b := decide (p0.name ≠ p1.name)) (fun g242 => ?_) (fun g242 => ?_)
  ·skip
   refine U.x rfl rfl rfl rfl ((L 0 rfl rfl).trans (congrArg Value.bool g242)) (by decide) ?_
   refine U.x rfl rfl rfl rfl ((L 1 rfl rfl).trans (congrArg Value.bool g242)) (by decide) ?_
   refine U.x rfl rfl rfl rfl ((L 2 rfl rfl).trans (congrArg Value.bool g242)) (by decide) ?_
   refine U.x rfl rfl rfl rfl ((L 3 rfl rfl).trans (congrArg Value.bool g242)) (by decide) ?_
   refine U.x rfl rfl rfl rfl ((L 4 rfl rfl).trans (congrArg Value.bool g242)) (by decide) ?_
   refine U.p rfl rfl (.inl rfl) (S.pickT rfl ((L 5 rfl rfl).trans (congrArg Value.bool g242)) K) ?_
   exact kk [(20, .bool true), (19, .tuple #[]), (18, .tuple #[]), (17, .tuple #[]), (16, .tuple #[]), (15, .tuple #[])] _ ⟨.tuple #[], .tuple #[], .tuple #[], .tuple #[], .tuple #[], rfl, (by rw [g242, Bool.true_or])⟩
  ·skip
   refine U.p (v := .pointer (some ⟨b5, 1, none⟩)) rfl rfl (.inr ⟨_, _, _, rfl, rfl, ((L 0 rfl rfl).trans (congrArg Value.bool g242))⟩) (S.fieldAddr rfl (L 8 rfl rfl) Try.underlying38 rfl ti3 rfl rfl) ?_
   refine U.k rfl rfl (.inr ⟨_, _, _, rfl, rfl, ((L 1 rfl rfl).trans (congrArg Value.bool g242))⟩) (S.load rfl (L 0 rfl rfl) Try.underlying3 rfl ((ow13.own (k := 1) rfl).cell rfl)) nd ?_
   refine U.p (v := .pointer (some ⟨b10, 1, none⟩)) rfl rfl (.inr ⟨_, _, _, rfl, rfl, ((L 2 rfl rfl).trans (congrArg Value.bool g242))⟩) (S.fieldAddr rfl (L 9 rfl rfl) Try.underlying38 rfl ti3 rfl rfl) ?_
   refine U.k rfl rfl (.inr ⟨_, _, _, rfl, rfl, ((L 3 rfl rfl).trans (congrArg Value.bool g242))⟩) (S.load rfl (L 0 rfl rfl) Try.underlying3 rfl ((ow13.own (k := 0) rfl).cell rfl)) nd ?_
   refine U.p rfl rfl (.inr ⟨_, _, _, rfl, rfl, ((L 4 rfl rfl).trans (congrArg Value.bool g242))⟩) (S.neqI rfl (L 2 rfl rfl) (L 0 rfl rfl)) ?_
   refine U.p rfl rfl (.inl rfl) (S.pickF rfl ((L 5 rfl rfl).trans (congrArg Value.bool g242)) (L 0 rfl rfl)) ?_
   exact kk [(20, .bool (decide (p0.params ≠ p1.params))), (19, .bool (decide (p0.params ≠ p1.params))), (18, .int .i64 p1.params), (17, .pointer (some ⟨b10, 1, none⟩)), (16, .int .i64 p0.params), (15, .pointer (some ⟨b5, 1, none⟩))] _ ⟨.bool (decide (p0.params ≠ p1.params)), .int .i64 p1.params, .pointer (some ⟨b10, 1, none⟩), .int .i64 p0.params, .pointer (some ⟨b5, 1, none⟩), rfl, (by rw [g242, Bool.false_or])⟩
set_option maxHeartbeats 4000000 in
set_option maxRecDepth 10000 in
theorem wk_ref11_Acts (V : Vw) (Rs : List At) (p0 : TFunc) (p1 : Int) (v1 : Value) (f2 : Fz RT_TIns V v1 p0.code) (ow : Ow V (Rs)) (r : Int) (h : ref11_Acts p0 p1 = some r) : ∃ v V', Cl Try.prog 0 13 #[.agg #[.string p0.name, .int .i64 p0.params, .int .i64 p0.regs, v1], .int .i64 p1] V.H v V'.H ∧ V.le V' ∧ (v = .int .i64 r ∧ Ow V' (Rs)) := by
 refine Ct.of (Nat.zero_le _) Try.func13 rfl (nr rfl) ?_
 unfold ref11_Acts at h
 refine WP.usreg rfl ?_
 refine O.box ow rfl rfl (.inl rfl) rfl (L 0 rfl rfl) (by simp [topV]) rfl nd (fun b3 V4 le5 ow6 => ?_)
 refine U.p rfl rfl (.inl rfl) (S.assign rfl K) ?_
 refine U.done (nr rfl) ?_
 refine WP.usreg rfl ?_
 refine U.p rfl rfl (.inl rfl) (S.assign rfl K) ?_
 refine U.done (nr rfl) ?_
 refine WP.seq ?_
 refine WP.usreg rfl ?_
 refine U.p (v := .pointer (some ⟨b3, 3, none⟩)) rfl rfl (.inl rfl) (S.fieldAddr rfl (L 2 rfl rfl) Try.underlying38 rfl ti36 rfl rfl) ?_
 refine U.k rfl rfl (.inl rfl) (S.load rfl (L 0 rfl rfl) Try.underlying36 rfl ((ow6.own (k := 0) rfl).cell rfl)) nd ?_
 refine U.p rfl rfl (.inl rfl) (f2.1.len rfl (L 0 rfl rfl) Try.underlying36) ?_
 refine U.p rfl rfl (.inl rfl) (S.move rfl K) ?_
 refine U.done (nr rfl) ?_
 refine WP.blk ?_
 have ow10 := ow6.drop 0 rfl
 unfold ref11_Acts_l1 at h
 obtain ⟨n12, hn11⟩ := loopO_some.1 h
 refine WP.loopI2 (fun n l V' => ∃ (x8 : Int) (x9 : Int), l = [(1, .int .i64 p1), (5, .int .i64 x8), (9, v1), (10, .int .i64 (p0.code.length : Int)), (11, .int .i64 x9)] ∧ V4.le V' ∧ Ow V' (Rs) ∧ itO (fun s => ref11_Acts_l1b p0 p1 s.1 s.2) n (x8, x9) = some r) n12 _ ⟨0, 0, rfl, .refl _, ow10, hn11⟩ (allCons (L 8 rfl rfl) (allCons (L 4 rfl rfl) (allCons (L 2 rfl rfl) (allCons (L 1 rfl rfl) (allCons (L 0 rfl rfl) allNil))))) ?_
 rintro _ _ V13 ⟨x8, x9, rfl, le14, ow15, h19⟩
 obtain ⟨m16, q17, rfl, h20, e18⟩ := itS h19
 replace h20 : ref11_Acts_l1b p0 p1 x8 x9 = some q17 := h20
 unfold ref11_Acts_l1b at h20
 refine WP.usreg rfl ?_
 refine U.p rfl rfl (.inl rfl) (S.lss rfl (L 4 rfl rfl) (L 3 rfl rfl)) ?_
 refine U.done (nr rfl) ?_
 refine WP.seq ?_
 refine WP.cond _ (L 0 rfl rfl) rfl (fun c21 => ?_) (fun c21 => ?_)
 ·have h22 := ifT c21 h20
  refine WP.skip ?_
  refine sqN ?_
  refine WP.seqI (fun l V' => ∃ (x23 : Int), l = [(1, .int .i64 p1), (5, .int .i64 x23), (9, v1), (10, .int .i64 (p0.code.length : Int)), (11, .int .i64 x9)] ∧ V13.le V' ∧ Ow V' (Rs) ∧ ref11_Acts_k1 x9 x23 = some q17) ?_ ?_
  ·rintro _ V24 ⟨x23, rfl, le25, ow26, h27⟩
   unfold ref11_Acts_k1 at h27
   refine WP.ureg rfl ?_
   refine U.p rfl rfl (.inl rfl) (S.add rfl (L 4 rfl rfl) K) ?_
   refine U.p rfl rfl (.inl rfl) (S.move rfl (L 0 rfl rfl)) ?_
   refine U.done (nr rfl) ?_
   refine sqN ?_
   exact ⟨_, V24, rfl, ⟨m16, Nat.lt_succ_self _, x23, w64 (x9 + 1), rfl, (le14.trans le25), ow26, backS h27 e18⟩, (allCons (L 2 rfl rfl) (allCons (L 3 rfl rfl) (allCons (L 4 rfl rfl) (allCons (L 5 rfl rfl) (allCons (L 0 rfl rfl) allNil)))))⟩
  ·skip
   refine WP.blk ?_
   refine WP.usreg rfl ?_
   obtain ⟨x28, hx29, h30⟩ := bindS h22
   obtain ⟨b31, o32, c33, cs34, hv35, hf36, hr37, hc38⟩ := f2.at hx29
   obtain ⟨v39, rfl, f40⟩ := hr37
   refine U.p rfl rfl (.inl rfl) (S.index rfl ((L 3 rfl rfl).trans hv35) (L 5 rfl rfl) Try.underlying36 ti44 (ix_ge hx29) (ix_lt hx29)) ?_
   refine U.k rfl rfl (.inl rfl) (S.loadN (cs := [.int .i64 x28.op, .int .i64 x28.d, .int .i64 x28.a, .int .i64 x28.b, .int .i64 x28.imm, v39, .int .i64 x28.what, .bool x28.volatile, .bool x28.final]) rfl (L 0 rfl rfl) Try.underlying44 rfl ti44 rfl (fun j v hj => (le5.trans le14).cell hf36 (hc38 j v hj))) nd ?_
   refine O.alloc ow15 rfl rfl (.inl rfl) rfl ti44 rfl rfl nd (fun b41 V42 le43 ow44 => ?_)
   refine O.store (k := 0) (cs := [.int .i64 x28.op, .int .i64 x28.d, .int .i64 x28.a, .int .i64 x28.b, .int .i64 x28.imm, v39, .int .i64 x28.what, .bool x28.volatile, .bool x28.final]) (c' := [.int .i64 x28.op, .int .i64 x28.d, .int .i64 x28.a, .int .i64 x28.b, .int .i64 x28.imm, v39, .int .i64 x28.what, .bool x28.volatile, .bool x28.final]) ow44 rfl rfl rfl (.inl rfl) rfl (L 0 rfl rfl) (L 1 rfl rfl) ti44 (by simp [topV]) rfl rfl (nr rfl) (by have q0 := f40.one; simp only [List.all_cons, List.all_nil, q0]; rfl) rfl nd (fun V46 le47 ow48 => ?_)
   refine U.done (nr rfl) ?_
   refine WP.usreg rfl ?_
   refine U.p (v := .pointer (some ⟨b41, 0, none⟩)) rfl rfl (.inl rfl) (S.fieldAddr rfl (L 0 rfl rfl) Try.underlying44 rfl ti3 rfl rfl) ?_
   refine U.k rfl rfl (.inl rfl) (S.load rfl (L 0 rfl rfl) Try.underlying3 rfl ((ow48.own (k := 0) rfl).cell rfl)) nd ?_
   refine U.p rfl rfl (.inl rfl) (S.move rfl (L 6 rfl rfl)) ?_
   refine U.p rfl rfl (.inl rfl) (S.eqlI rfl (L 1 rfl rfl) (L 0 rfl rfl)) ?_
   refine U.done (nr rfl) ?_
   refine WP.cond _ (L 0 rfl rfl) rfl (fun c49 => ?_) (fun c49 => ?_)
   ·have h50 := ifT c49 h30
    refine WP.ureg rfl ?_
    refine U.p rfl rfl (.inl rfl) (S.move rfl (L 9 rfl rfl)) ?_
    refine U.p rfl rfl (.inl rfl) (S.add rfl (L 0 rfl rfl) K) ?_
    refine U.p rfl rfl (.inl rfl) (S.assign rfl (L 0 rfl rfl)) ?_
    refine U.done (nr rfl) ?_
    refine blkN (sqN ?_)
    have ow51 := ow48.drop 0 rfl
    exact ⟨_, V46, rfl, ⟨w64 (x8 + 1), rfl, (le43.trans le47), ow51, h50⟩, (allCons (L 11 rfl rfl) (allCons (L 0 rfl rfl) (allCons (L 13 rfl rfl) (allCons (L 14 rfl rfl) (allCons (L 15 rfl rfl) allNil)))))⟩
   ·have h52 := ifF c49 h30
    refine WP.skip ?_
    refine blkN (sqN ?_)
    have ow53 := ow48.drop 0 rfl
    exact ⟨_, V46, rfl, ⟨x8, rfl, (le43.trans le47), ow53, h52⟩, (allCons (L 8 rfl rfl) (allCons (L 9 rfl rfl) (allCons (L 10 rfl rfl) (allCons (L 11 rfl rfl) (allCons (L 12 rfl rfl) allNil)))))⟩
 ·have h54 := ifF c21 h20
  refine WP.exit ?_
  refine sqE (sqE (blkE (sqN ?_)))
  have h55 := exitS h54 e18
  refine WP.usreg rfl ?_
  refine U.p rfl rfl (.inl rfl) (S.move rfl (L 2 rfl rfl)) ?_
  refine U.p rfl rfl (.inl rfl) (S.assign rfl (L 0 rfl rfl)) ?_
  refine U.done (nr rfl) ?_
  refine WP.ret ?_
  refine fin.slot (.inr rfl) rfl (L 0 rfl rfl) ⟨V13, rfl, (le5.trans le14), ?_⟩
  have e56 := Option.some.inj h55
  subst e56
  exact ⟨rfl, ow15⟩
set_option maxHeartbeats 4000000 in
set_option maxRecDepth 10000 in
theorem wk_law11_TidyLess (V : Vw) (Rs : List At) (p0 : TModule) (p1 : Ttidy_Options) (v1 : Value) (v3 : Value) (f2 : Fz RT_TFunc V v1 p0.funcs) (f4 : Fz (RT.int .i64) V v3 p0.threads) (ow : Ow V (Rs)) (r : Bool) (h : law11_TidyLess p0 p1 = some r) : ∃ v V', Cl Try.prog 0 4 #[.agg #[v1, v3], .agg #[.bool p1.fold, .bool p1.copy, .bool p1.dead]] V.H v V'.H ∧ V.le V' ∧ (v = .bool r ∧ Ow V' (Rs)) := by
 refine Ct.of (Nat.zero_le _) Try.func4 rfl (nr rfl) ?_
 unfold law11_TidyLess at h
 refine WP.usreg rfl ?_
 refine O.box ow rfl rfl (.inl rfl) rfl (L 0 rfl rfl) (by simp [topV]) rfl nd (fun b5 V6 le7 ow8 => ?_)
 refine O.box ow8 rfl rfl (.inl rfl) rfl (L 2 rfl rfl) (by simp [topV]) rfl nd (fun b10 V11 le12 ow13 => ?_)
 refine U.p rfl rfl (.inl rfl) (S.assign rfl K) ?_
 refine U.done (nr rfl) ?_
 refine WP.seq ?_
 refine WP.usreg rfl ?_
 obtain ⟨x15, hx16, h17⟩ := bindS h
 refine O.call (V := V11) rfl rfl (.inl rfl) rfl en6 aN (wk_law11_alive V11 _ ow13 _ hx16) (fun _ _ _ _ => nd) (fun v18 V19 le20 hp21 => ?_)
 obtain ⟨rfl, ow22⟩ := hp21
 refine U.p rfl rfl (.inl rfl) (S.not rfl (L 0 rfl rfl)) ?_
 refine U.done (nr rfl) ?_
 refine WP.cond _ (L 0 rfl rfl) rfl (fun c23 => ?_) (fun c23 => ?_)
 ·have h24 := ifT c23 h17
  have k25 : x15 = false := nT c23
  refine WP.usreg rfl ?_
  refine U.p rfl rfl (.inl rfl) (S.assign rfl K) ?_
  refine U.done (nr rfl) ?_
  refine WP.ret ?_
  refine sqR ?_
  refine fin.slot (.inr rfl) rfl (L 0 rfl rfl) ⟨V19, rfl, ((le7.trans le12).trans le20), ?_⟩
  have ow26 := ow22.drop 0 rfl
  have ow27 := ow26.drop 0 rfl
  have e28 := Option.some.inj h24
  subst e28
  exact ⟨rfl, ow27⟩
 ·have h29 := ifF c23 h17
  have k30 : x15 = true := nF c23
  refine WP.skip ?_
  refine sqN ?_
  refine WP.seq ?_
  refine WP.usreg rfl ?_
  refine U.k rfl rfl (.inl rfl) (S.loadB rfl (L 4 rfl rfl) Try.underlying25 rfl ti25 (ow22.own (k := 1) rfl).get rfl) nd ?_
  have f31 := f2.up ((le7.trans le12).trans le20)
  have f32 := f4.up ((le7.trans le12).trans le20)
  obtain ⟨x33, hx34, h35⟩ := bindS h29
  refine O.call (V := V19) rfl rfl (.inl rfl) rfl en7 (aC (L 0 rfl rfl) aN) (wk_law11_great V19 _ p0 v1 v3 f31 f32 ow22 _ hx34) (fun _ _ _ _ => nd) (fun v36 V37 le38 hp39 => ?_)
  obtain ⟨rfl, ow40⟩ := hp39
  refine U.done (nr rfl) ?_
  refine WP.cond _ (L 0 rfl rfl) rfl (fun c41 => ?_) (fun c41 => ?_)
  ·have h42 := ifT c41 h35
   refine WP.usreg rfl ?_
   refine U.p rfl rfl (.inl rfl) (S.assign rfl K) ?_
   refine U.done (nr rfl) ?_
   refine WP.ret ?_
   refine sqR ?_
   refine fin.slot (.inr rfl) rfl (L 0 rfl rfl) ⟨V37, rfl, (((le7.trans le12).trans le20).trans le38), ?_⟩
   have ow43 := ow40.drop 0 rfl
   have ow44 := ow43.drop 0 rfl
   have e45 := Option.some.inj h42
   subst e45
   exact ⟨rfl, ow44⟩
  ·have h46 := ifF c41 h35
   refine WP.skip ?_
   refine sqN ?_
   refine WP.usdreg rfl rfl rfl ?_
   refine U.k rfl rfl (.inl rfl) (S.loadB rfl (L 6 rfl rfl) Try.underlying25 rfl ti25 (ow40.own (k := 1) rfl).get rfl) (fun _ => (okH.nil (fun r h => by cases h; exact (ow40.own (k := 1) rfl).lt))) ?_
   refine U.k rfl rfl (.inl rfl) (S.loadB rfl (L 6 rfl rfl) Try.underlying27 rfl ti27 (ow40.own (k := 0) rfl).get rfl) (fun _ => (okH.cons trivial (okH.nil (fun r h => by cases h; exact (ow40.own (k := 0) rfl).lt)))) ?_
   have f47 := f31.up le38
   have f48 := f32.up le38
   obtain ⟨x49, hx50, h51⟩ := bindS h46
   refine O.call (V := V37) rfl rfl (.inl rfl) rfl en8 (aC (L 1 rfl rfl) (aC (L 0 rfl rfl) aN)) (wk_tidy_Module V37 _ p0 p1 v1 v3 f47 f48 ow40 _ hx50) (fun v52 V53 le54 hp55 => by obtain ⟨v57, v59, rfl, f58, f60, ow56⟩ := hp55; exact (fun _ => (okH.cons (Or.inl rfl) (okH.cons (Or.inl rfl) (okH.nil (fun r h => nomatch h)))))) (fun v52 V53 le54 hp55 => ?_)
   obtain ⟨v57, v59, rfl, f58, f60, ow56⟩ := hp55
   refine U.k rfl rfl (.inl rfl) (S.loadB rfl (L 9 rfl rfl) Try.underlying25 rfl ti25 (ow56.own (k := 1) rfl).get rfl) (fun _ => (okH.cons (Or.inr (Or.inl ((ow56.own (k := 1) rfl).get.trans (ow40.own (k := 1) rfl).get.symm))) (okH.cons trivial (okH.cons trivial (okH.nil (fun r h => by cases h; exact (ow56.own (k := 1) rfl).lt)))))) ?_
   refine U.p (v := .agg #[.bool false, .bool false, .bool false]) rfl rfl (.inl rfl) (S.build (vs := []) rfl ti27 rfl pl27 aN allN rfl) ?_
   have f61 := f47.up le54
   have f62 := f48.up le54
   obtain ⟨x63, hx64, h65⟩ := bindS h51
   refine O.call (V := V53) rfl rfl (.inl rfl) rfl en8 (aC (L 1 rfl rfl) (aC (L 0 rfl rfl) aN)) (wk_tidy_Module V53 _ p0 (⟨false, false, false⟩ : Ttidy_Options) v1 v3 f61 f62 ow56 _ hx64) (fun v66 V67 le68 hp69 => by obtain ⟨v71, v73, rfl, f72, f74, ow70⟩ := hp69; exact (fun _ => (okH.cons (Or.inl rfl) (okH.cons rfl (okH.cons (Or.inl rfl) (okH.cons (Or.inl rfl) (okH.nil (fun r h => nomatch h)))))))) (fun v66 V67 le68 hp69 => ?_)
   obtain ⟨v71, v73, rfl, f72, f74, ow70⟩ := hp69
   refine O.alloc ow70 rfl rfl (.inl rfl) rfl ti25 rfl rfl (fun _ => (okH.cons trivial (okH.cons trivial (okH.cons trivial (okH.cons trivial (okH.cons trivial (okH.nil (fun r h => nomatch h)))))))) (fun b75 V76 le77 ow78 => ?_)
   refine O.alloc ow78 rfl rfl (.inl rfl) rfl ti25 rfl rfl (fun _ => (okH.cons trivial (okH.cons trivial (okH.cons trivial (okH.cons trivial (okH.cons trivial (okH.cons trivial (okH.nil (fun r h => nomatch h))))))))) (fun b80 V81 le82 ow83 => ?_)
   refine O.store (k := 1) (cs := [v57, v59]) (c' := [v57, v59]) ow83 rfl rfl rfl (.inl rfl) rfl (L 1 rfl rfl) (L 5 rfl rfl) ti25 (by simp [topV]) rfl rfl (nr rfl) (by have q0 := f58.one; have q1 := f60.one; simp only [List.all_cons, List.all_nil, q0, q1]; rfl) rfl (fun _ => (okH.cons (Or.inl rfl) (okH.cons (Or.inl rfl) (okH.cons rfl (okH.cons (Or.inl rfl) (okH.cons rfl (okH.cons (Or.inl rfl) (okH.cons (Or.inl rfl) (okH.nil (fun r h => nomatch h)))))))))) (fun V85 le86 ow87 => ?_)
   refine O.store (k := 0) (cs := [v71, v73]) (c' := [v71, v73]) ow87 rfl rfl rfl (.inl rfl) rfl (L 0 rfl rfl) (L 2 rfl rfl) ti25 (by simp [topV]) rfl rfl (nr rfl) (by have q0 := f72.one; have q1 := f74.one; simp only [List.all_cons, List.all_nil, q0, q1]; rfl) rfl (fun _ => (okH.cons rfl (okH.cons (Or.inl rfl) (okH.cons (Or.inl rfl) (okH.cons rfl (okH.cons (Or.inl rfl) (okH.cons rfl (okH.cons (Or.inl rfl) (okH.cons (Or.inl rfl) (okH.nil (fun r h => nomatch h))))))))))) (fun V88 le89 ow90 => ?_)
   refine U.done (nr rfl) ?_
   refine WP.seq ?_
   refine WP.usreg rfl ?_
   refine U.p (v := .pointer (some ⟨b75, 0, none⟩)) rfl rfl (.inl rfl) (S.fieldAddr rfl (L 1 rfl rfl) Try.underlying25 rfl ti22 rfl rfl) ?_
   refine U.k rfl rfl (.inl rfl) (S.load rfl (L 0 rfl rfl) Try.underlying22 rfl ((ow90.own (k := 1) rfl).cell rfl)) nd ?_
   refine U.p rfl rfl (.inl rfl) (f58.1.len rfl (L 0 rfl rfl) Try.underlying22) ?_
   refine U.p (v := .pointer (some ⟨b5, 0, none⟩)) rfl rfl (.inl rfl) (S.fieldAddr rfl (L 17 rfl rfl) Try.underlying25 rfl ti22 rfl rfl) ?_
   refine U.k rfl rfl (.inl rfl) (S.load rfl (L 0 rfl rfl) Try.underlying22 rfl ((ow90.own (k := 3) rfl).cell rfl)) nd ?_
   refine U.p rfl rfl (.inl rfl) (f61.1.len rfl (L 0 rfl rfl) Try.underlying22) ?_
   refine U.p rfl rfl (.inl rfl) (S.neqI rfl (L 3 rfl rfl) (L 0 rfl rfl)) ?_
   refine U.p rfl rfl (.inl rfl) (S.move rfl (L 0 rfl rfl)) ?_
   refine U.joinX 16 (fun e H => ∃ (u91 u92 u93 u94 u95 u96 u97 : Value), H = V88.H ∧ e = [(37, .bool ((decide ((x49.funcs.length : Int) ≠ (p0.funcs.length : Int))) || (decide ((x49.threads.length : Int) ≠ (p0.threads.length : Int))))), (36, u91), (35, u92), (34, u93), (33, u94), (32, u95), (31, u96), (30, u97)]) ?_ ?_
   ·rintro _ _ ⟨u91, u92, u93, u94, u95, u96, u97, rfl, rfl⟩
    refine U.done (nr rfl) ?_
    refine WP.cond _ (L 0 rfl rfl) rfl (fun c101 => ?_) (fun c101 => ?_)
    ·have h102 := ifT c101 h65
     refine WP.usreg rfl ?_
     refine U.p rfl rfl (.inl rfl) (S.assign rfl K) ?_
     refine U.done (nr rfl) ?_
     refine WP.ret ?_
     refine sqR ?_
     refine fin.slot (.inr rfl) rfl (L 0 rfl rfl) ⟨V88, rfl, (((((((((le7.trans le12).trans le20).trans le38).trans le54).trans le68).trans le77).trans le82).trans le86).trans le89), ?_⟩
     have ow103 := ow90.drop 0 rfl
     have ow104 := ow103.drop 0 rfl
     have ow105 := ow104.drop 0 rfl
     have ow106 := ow105.drop 0 rfl
     have e107 := Option.some.inj h102
     subst e107
     exact ⟨rfl, ow106⟩
    ·have h108 := ifF c101 h65
     refine WP.skip ?_
     refine sqN ?_
     refine WP.seq ?_
     refine WP.usreg rfl ?_
     refine U.p (v := .pointer (some ⟨b5, 0, none⟩)) rfl rfl (.inl rfl) (S.fieldAddr rfl (L 30 rfl rfl) Try.underlying25 rfl ti22 rfl rfl) ?_
     refine U.k rfl rfl (.inl rfl) (S.load rfl (L 0 rfl rfl) Try.underlying22 rfl ((ow90.own (k := 3) rfl).cell rfl)) nd ?_
     refine U.p rfl rfl (.inl rfl) (f61.1.len rfl (L 0 rfl rfl) Try.underlying22) ?_
     refine U.p rfl rfl (.inl rfl) (S.move rfl K) ?_
     refine U.done (nr rfl) ?_
     refine WP.blk ?_
     have ow110 := ow90.drop 3 rfl
     have ow111 := ow110.pick 0 rfl
     have ow112 := ow111.pick 1 rfl
     have ow113 := ow112.pick 2 rfl
     unfold law11_TidyLess_l1 at h108
     obtain ⟨n115, hn114⟩ := loopO_some.1 h108
     refine WP.loopI2 (fun n l V' => ∃ (x109 : Int), l = [(3, .pointer (some ⟨b10, 0, none⟩)), (5, .pointer (some ⟨b75, 0, none⟩)), (6, .pointer (some ⟨b80, 0, none⟩)), (39, v1), (40, .int .i64 (p0.funcs.length : Int)), (41, .int .i64 x109)] ∧ V88.le V' ∧ Ow V' (.pt b10 (.cells 0 [.bool p1.fold, .bool p1.copy, .bool p1.dead]) :: .pt b75 (.cells 2 [v57, v59]) :: .pt b80 (.cells 2 [v71, v73]) :: Rs) ∧ itO (fun s => law11_TidyLess_l1b p0 p1 x49 x63 s) n x109 = some r) n115 _ ⟨0, rfl, .refl _, ow113, hn114⟩ (allCons (L 33 rfl rfl) (allCons (L 21 rfl rfl) (allCons (L 20 rfl rfl) (allCons (L 2 rfl rfl) (allCons (L 1 rfl rfl) (allCons (L 0 rfl rfl) allNil)))))) ?_
     rintro _ _ V116 ⟨x109, rfl, le117, ow118, h122⟩
     obtain ⟨m119, q120, rfl, h123, e121⟩ := itS h122
     replace h123 : law11_TidyLess_l1b p0 p1 x49 x63 x109 = some q120 := h123
     unfold law11_TidyLess_l1b at h123
     refine WP.usreg rfl ?_
     refine U.p rfl rfl (.inl rfl) (S.lss rfl (L 5 rfl rfl) (L 4 rfl rfl)) ?_
     refine U.done (nr rfl) ?_
     refine WP.seq ?_
     refine WP.cond _ (L 0 rfl rfl) rfl (fun c124 => ?_) (fun c124 => ?_)
     ·have h125 := ifT c124 h123
      refine WP.skip ?_
      refine sqN ?_
      refine WP.seq ?_
      refine WP.blk ?_
      refine WP.usreg rfl ?_
      refine U.p rfl rfl (.inl rfl) (S.move rfl (L 6 rfl rfl)) ?_
      obtain ⟨x126, hx127, h128⟩ := bindS h125
      obtain ⟨b129, o130, c131, cs132, hv133, hf134, hr135, hc136⟩ := f61.at hx127
      obtain ⟨v137, rfl, f138⟩ := hr135
      refine U.p rfl rfl (.inl rfl) (S.index rfl ((L 5 rfl rfl).trans hv133) (L 7 rfl rfl) Try.underlying22 ti38 (ix_ge hx127) (ix_lt hx127)) ?_
      refine U.k rfl rfl (.inl rfl) (S.loadN (cs := [.string x126.name, .int .i64 x126.params, .int .i64 x126.regs, v137]) rfl (L 0 rfl rfl) Try.underlying38 rfl ti38 rfl (fun j v hj => (((((le68.trans le77).trans le82).trans le86).trans le89).trans le117).cell hf134 (hc136 j v hj))) nd ?_
      refine O.alloc ow118 rfl rfl (.inl rfl) rfl ti38 rfl rfl nd (fun b139 V140 le141 ow142 => ?_)
      refine U.p rfl rfl (.inl rfl) (S.assign rfl (L 3 rfl rfl)) ?_
      refine O.store (k := 0) (cs := [.string x126.name, .int .i64 x126.params, .int .i64 x126.regs, v137]) (c' := [.string x126.name, .int .i64 x126.params, .int .i64 x126.regs, v137]) ow142 rfl rfl rfl (.inl rfl) rfl (L 1 rfl rfl) (L 2 rfl rfl) ti38 (by simp [topV]) rfl rfl (nr rfl) (by have q0 := f138.one; simp only [List.all_cons, List.all_nil, q0]; rfl) rfl nd (fun V144 le145 ow146 => ?_)
      refine U.done (nr rfl) ?_
      refine WP.usreg rfl ?_
      refine U.p (v := .pointer (some ⟨b75, 0, none⟩)) rfl rfl (.inl rfl) (S.fieldAddr rfl (L 7 rfl rfl) Try.underlying25 rfl ti22 rfl rfl) ?_
      refine U.k rfl rfl (.inl rfl) (S.load rfl (L 0 rfl rfl) Try.underlying22 rfl ((ow146.own (k := 2) rfl).cell rfl)) nd ?_
      refine U.p rfl rfl (.inl rfl) (S.move rfl (L 2 rfl rfl)) ?_
      obtain ⟨x147, hx148, h149⟩ := bindS h128
      obtain ⟨b150, o151, c152, cs153, hv154, hf155, hr156, hc157⟩ := f58.at hx148
      obtain ⟨v158, rfl, f159⟩ := hr156
      refine U.p rfl rfl (.inl rfl) (S.index rfl ((L 1 rfl rfl).trans hv154) (L 0 rfl rfl) Try.underlying22 ti38 (ix_ge hx148) (ix_lt hx148)) ?_
      refine U.k rfl rfl (.inl rfl) (S.loadN (cs := [.string x147.name, .int .i64 x147.params, .int .i64 x147.regs, v158]) rfl (L 0 rfl rfl) Try.underlying38 rfl ti38 rfl (fun j v hj => (((((((le68.trans le77).trans le82).trans le86).trans le89).trans le117).trans le141).trans le145).cell hf155 (hc157 j v hj))) nd ?_
      refine O.alloc ow146 rfl rfl (.inl rfl) rfl ti38 rfl rfl nd (fun b160 V161 le162 ow163 => ?_)
      refine O.store (k := 0) (cs := [.string x147.name, .int .i64 x147.params, .int .i64 x147.regs, v158]) (c' := [.string x147.name, .int .i64 x147.params, .int .i64 x147.regs, v158]) ow163 rfl rfl rfl (.inl rfl) rfl (L 0 rfl rfl) (L 1 rfl rfl) ti38 (by simp [topV]) rfl rfl (nr rfl) (by have q0 := f159.one; simp only [List.all_cons, List.all_nil, q0]; rfl) rfl nd (fun V165 le166 ow167 => ?_)
      refine U.done (nr rfl) ?_
      refine WP.seq ?_
      refine WP.seqI (fun l V' => ∃ (x168 : Bool), l = [(3, .pointer (some ⟨b10, 0, none⟩)), (5, .pointer (some ⟨b75, 0, none⟩)), (6, .pointer (some ⟨b80, 0, none⟩)), (8, .pointer (some ⟨b139, 0, none⟩)), (9, .pointer (some ⟨b160, 0, none⟩)), (39, v1), (40, .int .i64 (p0.funcs.length : Int)), (41, .int .i64 x109), (89, .bool x168)] ∧ V165.le V' ∧ Ow V' (.pt b10 (.cells 0 [.bool p1.fold, .bool p1.copy, .bool p1.dead]) :: .pt b75 (.cells 2 [v57, v59]) :: .pt b80 (.cells 2 [v71, v73]) :: .pt b139 (.cells 4 [.string x126.name, .int .i64 x126.params, .int .i64 x126.regs, v137]) :: .pt b160 (.cells 4 [.string x147.name, .int .i64 x147.params, .int .i64 x147.regs, v158]) :: Rs) ∧ law11_TidyLess_k1 p1 x109 x126 x147 x168 = some q120) ?_ ?_
      ·rintro _ V169 ⟨x168, rfl, le170, ow171, h172⟩
       unfold law11_TidyLess_k1 at h172
       refine WP.cond _ (L 8 rfl rfl) rfl (fun c173 => ?_) (fun c173 => ?_)
       ·have h174 := ifT c173 h172
        refine WP.usreg rfl ?_
        refine U.p rfl rfl (.inl rfl) (S.assign rfl K) ?_
        refine U.done (nr rfl) ?_
        refine WP.ret ?_
        refine sqR (blkR (sqR (sqR (blkR (sqR ?_)))))
        have h175 := exitS h174 e121
        refine fin.slot (.inr rfl) rfl (L 0 rfl rfl) ⟨V169, rfl, (((((((((((((((le7.trans le12).trans le20).trans le38).trans le54).trans le68).trans le77).trans le82).trans le86).trans le89).trans le117).trans le141).trans le145).trans le162).trans le166).trans le170), ?_⟩
        have ow176 := ow171.drop 0 rfl
        have ow177 := ow176.drop 0 rfl
        have ow178 := ow177.drop 0 rfl
        have ow179 := ow178.drop 0 rfl
        have ow180 := ow179.drop 0 rfl
        have e181 := Option.some.inj h175
        subst e181
        exact ⟨rfl, ow180⟩
       ·have h182 := ifF c173 h172
        refine WP.skip ?_
        refine sqN ?_
        refine WP.usreg rfl ?_
        refine U.p rfl rfl (.inl rfl) (S.assign rfl K) ?_
        refine U.done (nr rfl) ?_
        refine WP.blk ?_
        unfold law11_TidyLess_l2 at h182
        obtain ⟨n185, hn184⟩ := loopO_some.1 h182
        refine WP.loopI2 (fun n l V' => ∃ (x183 : Int), l = [(3, .pointer (some ⟨b10, 0, none⟩)), (5, .pointer (some ⟨b75, 0, none⟩)), (6, .pointer (some ⟨b80, 0, none⟩)), (8, .pointer (some ⟨b139, 0, none⟩)), (9, .pointer (some ⟨b160, 0, none⟩)), (10, .int .i64 x183), (39, v1), (40, .int .i64 (p0.funcs.length : Int)), (41, .int .i64 x109)] ∧ V169.le V' ∧ Ow V' (.pt b10 (.cells 0 [.bool p1.fold, .bool p1.copy, .bool p1.dead]) :: .pt b75 (.cells 2 [v57, v59]) :: .pt b80 (.cells 2 [v71, v73]) :: .pt b139 (.cells 4 [.string x126.name, .int .i64 x126.params, .int .i64 x126.regs, v137]) :: .pt b160 (.cells 4 [.string x147.name, .int .i64 x147.params, .int .i64 x147.regs, v158]) :: Rs) ∧ itO (fun s => law11_TidyLess_l2b p1 x109 x126 x147 s) n x183 = some q120) n185 _ ⟨9, rfl, .refl _, ow171, hn184⟩ (allCons (L 1 rfl rfl) (allCons (L 2 rfl rfl) (allCons (L 3 rfl rfl) (allCons (L 4 rfl rfl) (allCons (L 5 rfl rfl) (allCons (L 0 rfl rfl) (allCons (L 6 rfl rfl) (allCons (L 7 rfl rfl) (allCons (L 8 rfl rfl) allNil))))))))) ?_
        rintro _ _ V186 ⟨x183, rfl, le187, ow188, h192⟩
        obtain ⟨m189, q190, rfl, h193, e191⟩ := itS h192
        replace h193 : law11_TidyLess_l2b p1 x109 x126 x147 x183 = some q190 := h193
        unfold law11_TidyLess_l2b at h193
        refine WP.seq ?_
        refine WP.usreg rfl ?_
        refine U.p rfl rfl (.inl rfl) (S.move rfl (L 5 rfl rfl)) ?_
        refine U.p rfl rfl (.inl rfl) (S.leq rfl (L 0 rfl rfl) K) ?_
        refine U.done (nr rfl) ?_
        refine WP.cond _ (L 0 rfl rfl) rfl (fun c194 => ?_) (fun c194 => ?_)
        ·have h195 := ifT c194 h193
         refine WP.skip ?_
         refine sqN ?_
         refine WP.seq ?_
         refine WP.blk ?_
         refine WP.usreg rfl ?_
         refine U.p rfl rfl (.inl rfl) (S.move rfl (L 7 rfl rfl)) ?_
         refine U.p rfl rfl (.inl rfl) (S.neqI rfl (L 0 rfl rfl) K) ?_
         refine U.p rfl rfl (.inl rfl) (S.move rfl (L 0 rfl rfl)) ?_
         refine U.joinX 6 (fun e H => ∃ (u196 u197 : Value), H = V186.H ∧ e = [(99, .bool ((decide (x183 ≠ 12)) && (decide (x183 ≠ 13)))), (98, u196), (97, u197)]) ?_ ?_
         ·rintro _ _ ⟨u196, u197, rfl, rfl⟩
          refine U.p rfl rfl (.inl rfl) (S.move rfl (L 0 rfl rfl)) ?_
          refine U.joinX 10 (fun e H => ∃ (u201 u202 : Value), H = V186.H ∧ e = [(103, .bool (((decide (x183 ≠ 12)) && (decide (x183 ≠ 13))) && (decide (x183 ≠ 15)))), (102, u201), (101, u202)]) ?_ ?_
          ·rintro _ _ ⟨u201, u202, rfl, rfl⟩
           refine U.p rfl rfl (.inl rfl) (S.assign rfl (L 0 rfl rfl)) ?_
           refine U.done (nr rfl) ?_
           refine WP.seqI (fun l V' => ∃ (x206 : Bool), l = [(3, .pointer (some ⟨b10, 0, none⟩)), (5, .pointer (some ⟨b75, 0, none⟩)), (6, .pointer (some ⟨b80, 0, none⟩)), (8, .pointer (some ⟨b139, 0, none⟩)), (9, .pointer (some ⟨b160, 0, none⟩)), (10, .int .i64 x183), (39, v1), (40, .int .i64 (p0.funcs.length : Int)), (41, .int .i64 x109), (130, .bool x206)] ∧ V186.le V' ∧ Ow V' (.pt b10 (.cells 0 [.bool p1.fold, .bool p1.copy, .bool p1.dead]) :: .pt b75 (.cells 2 [v57, v59]) :: .pt b80 (.cells 2 [v71, v73]) :: .pt b139 (.cells 4 [.string x126.name, .int .i64 x126.params, .int .i64 x126.regs, v137]) :: .pt b160 (.cells 4 [.string x147.name, .int .i64 x147.params, .int .i64 x147.regs, v158]) :: Rs) ∧ law11_TidyLess_k2 x183 x206 = some q190) ?_ ?_
           ·rintro _ V207 ⟨x206, rfl, le208, ow209, h210⟩
            unfold law11_TidyLess_k2 at h210
            refine WP.cond _ (L 9 rfl rfl) rfl (fun c211 => ?_) (fun c211 => ?_)
            ·have h212 := ifT c211 h210
             refine WP.usreg rfl ?_
             refine U.p rfl rfl (.inl rfl) (S.assign rfl K) ?_
             refine U.done (nr rfl) ?_
             refine WP.ret ?_
             refine blkR (sqR (sqR (blkR (blkR (sqR (sqR (blkR (sqR ?_))))))))
             have h213 := exitS h212 e191
             have h214 := exitS h213 e121
             refine fin.slot (.inr rfl) rfl (L 0 rfl rfl) ⟨V207, rfl, (((((((((((((((((le7.trans le12).trans le20).trans le38).trans le54).trans le68).trans le77).trans le82).trans le86).trans le89).trans le117).trans le141).trans le145).trans le162).trans le166).trans le170).trans le187).trans le208), ?_⟩
             have ow215 := ow209.drop 0 rfl
             have ow216 := ow215.drop 0 rfl
             have ow217 := ow216.drop 0 rfl
             have ow218 := ow217.drop 0 rfl
             have ow219 := ow218.drop 0 rfl
             have e220 := Option.some.inj h214
             subst e220
             exact ⟨rfl, ow219⟩
            ·have h221 := ifF c211 h210
             refine WP.skip ?_
             refine blkN (sqN ?_)
             refine WP.ureg rfl ?_
             refine U.p rfl rfl (.inl rfl) (S.move rfl (L 5 rfl rfl)) ?_
             refine U.p rfl rfl (.inl rfl) (S.add rfl (L 0 rfl rfl) K) ?_
             refine U.p rfl rfl (.inl rfl) (S.assign rfl (L 0 rfl rfl)) ?_
             refine U.done (nr rfl) ?_
             refine sqN ?_
             exact ⟨_, V207, rfl, ⟨m189, Nat.lt_succ_self _, w64 (x183 + 1), rfl, (le187.trans le208), ow209, backS h221 e191⟩, (allCons (L 3 rfl rfl) (allCons (L 4 rfl rfl) (allCons (L 5 rfl rfl) (allCons (L 6 rfl rfl) (allCons (L 7 rfl rfl) (allCons (L 0 rfl rfl) (allCons (L 9 rfl rfl) (allCons (L 10 rfl rfl) (allCons (L 11 rfl rfl) allNil)))))))))⟩
           ·skip
            refine WP.udreg rfl rfl rfl ?_
            refine U.p rfl rfl (.inl rfl) (S.move rfl (L 0 rfl rfl)) ?_
            refine U.p rfl rfl (.inl rfl) (S.move rfl (L 0 rfl rfl)) ?_
            refine bcase (b := ((decide (x183 ≠ 12)) && (decide (x183 ≠ 13))) && (decide (x183 ≠ 15))) (fun g222 => ?_) (fun g222 => ?_)
            ·have h223 := ifT g222 h195
             refine U.k rfl rfl (.inr ⟨_, _, _, rfl, rfl, ((L 0 rfl rfl).trans (congrArg Value.bool g222))⟩) (S.loadB rfl (L 19 rfl rfl) Try.underlying38 rfl ti38 (ow188.own (k := 4) rfl).get rfl) (fun _ => (okH.nil (fun r h => by cases h; exact (ow188.own (k := 4) rfl).lt))) ?_
             refine U.p rfl rfl (.inr ⟨_, _, _, rfl, rfl, ((L 1 rfl rfl).trans (congrArg Value.bool g222))⟩) (S.move rfl (L 21 rfl rfl)) ?_
             have f224 := f159.up (((((((((((le68.trans le77).trans le82).trans le86).trans le89).trans le117).trans le141).trans le145).trans le162).trans le166).trans le170).trans le187)
             obtain ⟨x225, hx226, h227⟩ := bindS h223
             refine O.call (V := V186) rfl rfl (.inr ⟨_, _, _, rfl, rfl, ((L 2 rfl rfl).trans (congrArg Value.bool g222))⟩) rfl en13 (aC (L 1 rfl rfl) (aC (L 0 rfl rfl) aN)) (wk_ref11_Acts V186 _ x147 x183 v158 f224 ow188 _ hx226) (fun v228 V229 le230 hp231 => by obtain ⟨rfl, ow232⟩ := hp231; exact (fun _ => (okH.cons (Or.inl rfl) (okH.nil (fun r h => nomatch h))))) (fun v228 V229 le230 hp231 => ?_)
             obtain ⟨rfl, ow232⟩ := hp231
             refine U.k rfl rfl (.inr ⟨_, _, _, rfl, rfl, ((L 3 rfl rfl).trans (congrArg Value.bool g222))⟩) (S.loadB rfl (L 21 rfl rfl) Try.underlying38 rfl ti38 (ow232.own (k := 3) rfl).get rfl) (fun _ => (okH.cons (Or.inr (Or.inl ((ow232.own (k := 3) rfl).get.trans (ow188.own (k := 3) rfl).get.symm))) (okH.cons trivial (okH.nil (fun r h => by cases h; exact (ow232.own (k := 3) rfl).lt))))) ?_
             refine U.p rfl rfl (.inr ⟨_, _, _, rfl, rfl, ((L 4 rfl rfl).trans (congrArg Value.bool g222))⟩) (S.move rfl (L 24 rfl rfl)) ?_
             have f233 := f138.up ((((((((((((le68.trans le77).trans le82).trans le86).trans le89).trans le117).trans le141).trans le145).trans le162).trans le166).trans le170).trans le187).trans le230)
             obtain ⟨x234, hx235, h236⟩ := bindS h227
             refine O.call (V := V229) rfl rfl (.inr ⟨_, _, _, rfl, rfl, ((L 5 rfl rfl).trans (congrArg Value.bool g222))⟩) rfl en13 (aC (L 1 rfl rfl) (aC (L 0 rfl rfl) aN)) (wk_ref11_Acts V229 _ x126 x183 v137 f233 ow232 _ hx235) (fun v237 V238 le239 hp240 => by obtain ⟨rfl, ow241⟩ := hp240; exact (fun _ => (okH.cons (Or.inl rfl) (okH.cons rfl (okH.cons (Or.inl rfl) (okH.nil (fun r h => nomatch h))))))) (fun v237 V238 le239 hp240 => ?_)
             obtain ⟨rfl, ow241⟩ := hp240
             refine U.p rfl rfl (.inr ⟨_, _, _, rfl, rfl, ((L 6 rfl rfl).trans (congrArg Value.bool g222))⟩) (S.gtr rfl (L 3 rfl rfl) (L 0 rfl rfl)) ?_
             refine U.p rfl rfl (.inl rfl) (S.pickT rfl ((L 7 rfl rfl).trans (congrArg Value.bool g222)) (L 0 rfl rfl)) ?_
             refine U.p rfl rfl (.inl rfl) (S.move rfl (L 0 rfl rfl)) ?_
             refine bcase (b := decide (x234 < x225)) (fun g242 => ?_) (fun g242 => ?_)
             ·have h243 := ifT g242 h236
              refine U.x rfl rfl rfl rfl ((L 0 rfl rfl).trans (congrArg Value.bool g242)) (by decide) ?_
              refine U.x rfl rfl rfl rfl ((L 1 rfl rfl).trans (congrArg Value.bool g242)) (by decide) ?_
              refine U.z rfl rfl rfl rfl (L 0 rfl rfl) ?_
              refine U.z rfl rfl rfl rfl (L 1 rfl rfl) ?_
              refine U.z rfl rfl rfl rfl (L 2 rfl rfl) ?_
              refine U.x rfl rfl rfl rfl ((L 5 rfl rfl).trans (congrArg Value.bool g242)) (by decide) ?_
              refine U.x rfl rfl rfl rfl ((L 6 rfl rfl).trans (congrArg Value.bool g242)) (by decide) ?_
              refine U.z rfl rfl rfl rfl (L 0 rfl rfl) ?_
              refine U.z rfl rfl rfl rfl (L 1 rfl rfl) ?_
              refine U.z rfl rfl rfl rfl (L 2 rfl rfl) ?_
              refine U.z rfl rfl rfl rfl (L 3 rfl rfl) ?_
              refine U.z rfl rfl rfl rfl (L 4 rfl rfl) ?_
              refine U.z rfl rfl rfl rfl (L 5 rfl rfl) ?_
              refine U.z rfl rfl rfl rfl (L 6 rfl rfl) ?_
              refine U.x rfl rfl rfl rfl ((L 14 rfl rfl).trans (congrArg Value.bool g242)) (by decide) ?_
              refine U.p rfl rfl (.inl rfl) (S.pickT rfl ((L 15 rfl rfl).trans (congrArg Value.bool g242)) K) ?_
              refine U.done (nr rfl) ?_
              refine sqN ?_
              exact ⟨_, V238, rfl, ⟨true, rfl, (le230.trans le239), ow241, h243⟩, (allCons (L 40 rfl rfl) (allCons (L 41 rfl rfl) (allCons (L 42 rfl rfl) (allCons (L 43 rfl rfl) (allCons (L 44 rfl rfl) (allCons (L 45 rfl rfl) (allCons (L 46 rfl rfl) (allCons (L 47 rfl rfl) (allCons (L 48 rfl rfl) (allCons (L 0 rfl rfl) allNil))))))))))⟩
             ·have h244 := ifF g242 h236
              refine U.p rfl rfl (.inr ⟨_, _, _, rfl, rfl, ((L 0 rfl rfl).trans (congrArg Value.bool g242))⟩) (S.move rfl (L 11 rfl rfl)) ?_
              refine U.p rfl rfl (.inr ⟨_, _, _, rfl, rfl, ((L 1 rfl rfl).trans (congrArg Value.bool g242))⟩) (S.move rfl (L 0 rfl rfl)) ?_
              refine U.p (v := .pointer (some ⟨b10, 2, none⟩)) rfl rfl (.inr ⟨_, _, _, rfl, rfl, ((L 0 rfl rfl).trans (congrArg Value.bool g222))⟩) (S.fieldAddr rfl (L 26 rfl rfl) Try.underlying27 rfl ti4 rfl rfl) ?_
              refine U.k rfl rfl (.inr ⟨_, _, _, rfl, rfl, ((L 1 rfl rfl).trans (congrArg Value.bool g222))⟩) (S.load rfl (L 0 rfl rfl) Try.underlying4 rfl ((ow241.own (k := 0) rfl).cell rfl)) (fun _ => (okH.cons (Or.inl rfl) (okH.cons trivial (okH.cons (Or.inl rfl) (okH.cons trivial (okH.nil (fun r h => by cases h; exact (ow241.own (k := 0) rfl).lt))))))) ?_
              refine U.p rfl rfl (.inr ⟨_, _, _, rfl, rfl, ((L 2 rfl rfl).trans (congrArg Value.bool g222))⟩) (S.not rfl (L 0 rfl rfl)) ?_
              refine U.p rfl rfl (.inr ⟨_, _, _, rfl, rfl, ((L 5 rfl rfl).trans (congrArg Value.bool g242))⟩) (S.pickT rfl ((L 3 rfl rfl).trans (congrArg Value.bool g222)) (L 0 rfl rfl)) ?_
              refine U.p rfl rfl (.inr ⟨_, _, _, rfl, rfl, ((L 6 rfl rfl).trans (congrArg Value.bool g242))⟩) (S.move rfl (L 0 rfl rfl)) ?_
              refine bcase (b := !p1.dead) (fun g245 => ?_) (fun g245 => ?_)
              ·have h246 := ifT g245 h244
               have k247 : p1.dead = false := nT g245
               refine U.k rfl rfl (.inr ⟨_, _, _, rfl, rfl, ((L 0 rfl rfl).trans (congrArg Value.bool g245))⟩) (S.loadB rfl (L 35 rfl rfl) Try.underlying38 rfl ti38 (ow241.own (k := 4) rfl).get rfl) (fun _ => (okH.cons trivial (okH.cons (Or.inl rfl) (okH.cons trivial (okH.cons (Or.inl rfl) (okH.cons trivial (okH.nil (fun r h => by cases h; exact (ow241.own (k := 4) rfl).lt)))))))) ?_
               refine U.p rfl rfl (.inr ⟨_, _, _, rfl, rfl, ((L 1 rfl rfl).trans (congrArg Value.bool g245))⟩) (S.move rfl (L 37 rfl rfl)) ?_
               have f248 := f224.up (le230.trans le239)
               obtain ⟨x249, hx250, h251⟩ := bindS h246
               refine O.call (V := V238) rfl rfl (.inr ⟨_, _, _, rfl, rfl, ((L 2 rfl rfl).trans (congrArg Value.bool g245))⟩) rfl en13 (aC (L 1 rfl rfl) (aC (L 0 rfl rfl) aN)) (wk_ref11_Acts V238 _ x147 x183 v158 f248 ow241 _ hx250) (fun v252 V253 le254 hp255 => by obtain ⟨rfl, ow256⟩ := hp255; exact (fun _ => (okH.cons (Or.inl rfl) (okH.cons (Or.inl rfl) (okH.cons rfl (okH.cons (Or.inl rfl) (okH.cons rfl (okH.cons (Or.inl rfl) (okH.nil (fun r h => nomatch h)))))))))) (fun v252 V253 le254 hp255 => ?_)
               obtain ⟨rfl, ow256⟩ := hp255
               refine U.k rfl rfl (.inr ⟨_, _, _, rfl, rfl, ((L 3 rfl rfl).trans (congrArg Value.bool g245))⟩) (S.loadB rfl (L 37 rfl rfl) Try.underlying38 rfl ti38 (ow256.own (k := 3) rfl).get rfl) (fun _ => (okH.cons (Or.inr (Or.inl ((ow256.own (k := 3) rfl).get.trans (ow241.own (k := 3) rfl).get.symm))) (okH.cons trivial (okH.cons trivial (okH.cons (Or.inl rfl) (okH.cons trivial (okH.cons (Or.inl rfl) (okH.cons trivial (okH.nil (fun r h => by cases h; exact (ow256.own (k := 3) rfl).lt)))))))))) ?_
               refine U.p rfl rfl (.inr ⟨_, _, _, rfl, rfl, ((L 4 rfl rfl).trans (congrArg Value.bool g245))⟩) (S.move rfl (L 40 rfl rfl)) ?_
               have f257 := f233.up (le239.trans le254)
               obtain ⟨x258, hx259, h260⟩ := bindS h251
               refine O.call (V := V253) rfl rfl (.inr ⟨_, _, _, rfl, rfl, ((L 5 rfl rfl).trans (congrArg Value.bool g245))⟩) rfl en13 (aC (L 1 rfl rfl) (aC (L 0 rfl rfl) aN)) (wk_ref11_Acts V253 _ x126 x183 v137 f257 ow256 _ hx259) (fun v261 V262 le263 hp264 => by obtain ⟨rfl, ow265⟩ := hp264; exact (fun _ => (okH.cons (Or.inl rfl) (okH.cons rfl (okH.cons (Or.inl rfl) (okH.cons (Or.inl rfl) (okH.cons rfl (okH.cons (Or.inl rfl) (okH.cons rfl (okH.cons (Or.inl rfl) (okH.nil (fun r h => nomatch h)))))))))))) (fun v261 V262 le263 hp264 => ?_)
               obtain ⟨rfl, ow265⟩ := hp264
               refine U.p rfl rfl (.inr ⟨_, _, _, rfl, rfl, ((L 6 rfl rfl).trans (congrArg Value.bool g245))⟩) (S.neqI rfl (L 3 rfl rfl) (L 0 rfl rfl)) ?_
               refine U.p rfl rfl (.inr ⟨_, _, _, rfl, rfl, ((L 14 rfl rfl).trans (congrArg Value.bool g242))⟩) (S.pickT rfl ((L 7 rfl rfl).trans (congrArg Value.bool g245)) (L 0 rfl rfl)) ?_
               refine U.p rfl rfl (.inl rfl) (S.pickF rfl ((L 15 rfl rfl).trans (congrArg Value.bool g242)) (L 0 rfl rfl)) ?_
               refine U.done (nr rfl) ?_
               refine sqN ?_
               exact ⟨_, V262, rfl, ⟨decide (x249 ≠ x258), rfl, (((le230.trans le239).trans le254).trans le263), ow265, h260⟩, (allCons (L 40 rfl rfl) (allCons (L 41 rfl rfl) (allCons (L 42 rfl rfl) (allCons (L 43 rfl rfl) (allCons (L 44 rfl rfl) (allCons (L 45 rfl rfl) (allCons (L 46 rfl rfl) (allCons (L 47 rfl rfl) (allCons (L 48 rfl rfl) (allCons (L 0 rfl rfl) allNil))))))))))⟩
              ·have h266 := ifF g245 h244
               have k267 : p1.dead = true := nF g245
               refine U.x rfl rfl rfl rfl ((L 0 rfl rfl).trans (congrArg Value.bool g245)) (by decide) ?_
               refine U.x rfl rfl rfl rfl ((L 1 rfl rfl).trans (congrArg Value.bool g245)) (by decide) ?_
               refine U.x rfl rfl rfl rfl ((L 2 rfl rfl).trans (congrArg Value.bool g245)) (by decide) ?_
               refine U.x rfl rfl rfl rfl ((L 3 rfl rfl).trans (congrArg Value.bool g245)) (by decide) ?_
               refine U.x rfl rfl rfl rfl ((L 4 rfl rfl).trans (congrArg Value.bool g245)) (by decide) ?_
               refine U.x rfl rfl rfl rfl ((L 5 rfl rfl).trans (congrArg Value.bool g245)) (by decide) ?_
               refine U.x rfl rfl rfl rfl ((L 6 rfl rfl).trans (congrArg Value.bool g245)) (by decide) ?_
               refine U.p rfl rfl (.inr ⟨_, _, _, rfl, rfl, ((L 14 rfl rfl).trans (congrArg Value.bool g242))⟩) (S.pickF rfl ((L 7 rfl rfl).trans (congrArg Value.bool g245)) K) ?_
               refine U.p rfl rfl (.inl rfl) (S.pickF rfl ((L 15 rfl rfl).trans (congrArg Value.bool g242)) (L 0 rfl rfl)) ?_
               refine U.done (nr rfl) ?_
               refine sqN ?_
               exact ⟨_, V238, rfl, ⟨false, rfl, (le230.trans le239), ow241, h266⟩, (allCons (L 40 rfl rfl) (allCons (L 41 rfl rfl) (allCons (L 42 rfl rfl) (allCons (L 43 rfl rfl) (allCons (L 44 rfl rfl) (allCons (L 45 rfl rfl) (allCons (L 46 rfl rfl) (allCons (L 47 rfl rfl) (allCons (L 48 rfl rfl) (allCons (L 0 rfl rfl) allNil))))))))))⟩
            ·have h268 := ifF g222 h195
             refine U.x rfl rfl rfl rfl ((L 0 rfl rfl).trans (congrArg Value.bool g222)) (by decide) ?_
             refine U.x rfl rfl rfl rfl ((L 1 rfl rfl).trans (congrArg Value.bool g222)) (by decide) ?_
             refine U.x rfl rfl rfl rfl ((L 2 rfl rfl).trans (congrArg Value.bool g222)) (by decide) ?_
             refine U.x rfl rfl rfl rfl ((L 3 rfl rfl).trans (congrArg Value.bool g222)) (by decide) ?_
             refine U.x rfl rfl rfl rfl ((L 4 rfl rfl).trans (congrArg Value.bool g222)) (by decide) ?_
             refine U.x rfl rfl rfl rfl ((L 5 rfl rfl).trans (congrArg Value.bool g222)) (by decide) ?_
             refine U.x rfl rfl rfl rfl ((L 6 rfl rfl).trans (congrArg Value.bool g222)) (by decide) ?_
             refine U.p rfl rfl (.inl rfl) (S.pickF rfl ((L 7 rfl rfl).trans (congrArg Value.bool g222)) K) ?_
             refine U.p rfl rfl (.inl rfl) (S.move rfl (L 0 rfl rfl)) ?_
             refine U.p rfl rfl (.inr ⟨_, _, _, rfl, rfl, (L 0 rfl rfl)⟩) (S.move rfl (L 11 rfl rfl)) ?_
             refine U.p rfl rfl (.inr ⟨_, _, _, rfl, rfl, (L 1 rfl rfl)⟩) (S.move rfl (L 0 rfl rfl)) ?_
             refine U.x rfl rfl rfl rfl ((L 0 rfl rfl).trans (congrArg Value.bool g222)) (by decide) ?_
             refine U.x rfl rfl rfl rfl ((L 1 rfl rfl).trans (congrArg Value.bool g222)) (by decide) ?_
             refine U.x rfl rfl rfl rfl ((L 2 rfl rfl).trans (congrArg Value.bool g222)) (by decide) ?_
             refine U.p rfl rfl (.inr ⟨_, _, _, rfl, rfl, (L 5 rfl rfl)⟩) (S.pickF rfl ((L 3 rfl rfl).trans (congrArg Value.bool g222)) K) ?_
             refine U.p rfl rfl (.inr ⟨_, _, _, rfl, rfl, (L 6 rfl rfl)⟩) (S.move rfl (L 0 rfl rfl)) ?_
             refine U.x rfl rfl rfl rfl (L 0 rfl rfl) (by decide) ?_
             refine U.x rfl rfl rfl rfl (L 1 rfl rfl) (by decide) ?_
             refine U.x rfl rfl rfl rfl (L 2 rfl rfl) (by decide) ?_
             refine U.x rfl rfl rfl rfl (L 3 rfl rfl) (by decide) ?_
             refine U.x rfl rfl rfl rfl (L 4 rfl rfl) (by decide) ?_
             refine U.x rfl rfl rfl rfl (L 5 rfl rfl) (by decide) ?_
             refine U.x rfl rfl rfl rfl (L 6 rfl rfl) (by decide) ?_
             refine U.p rfl rfl (.inr ⟨_, _, _, rfl, rfl, (L 14 rfl rfl)⟩) (S.pickF rfl (L 7 rfl rfl) K) ?_
             refine U.p rfl rfl (.inl rfl) (S.pickF rfl (L 15 rfl rfl) (L 0 rfl rfl)) ?_
             refine U.done (nr rfl) ?_
             refine sqN ?_
             exact ⟨_, V186, rfl, ⟨false, rfl, (.refl _), ow188, h268⟩, (allCons (L 40 rfl rfl) (allCons (L 41 rfl rfl) (allCons (L 42 rfl rfl) (allCons (L 43 rfl rfl) (allCons (L 44 rfl rfl) (allCons (L 45 rfl rfl) (allCons (L 46 rfl rfl) (allCons (L 47 rfl rfl) (allCons (L 48 rfl rfl) (allCons (L 0 rfl rfl) allNil))))))))))⟩
          ·intro kk
           refine bcase (b := (decide (x183 ≠ 12)) && (decide (x183 ≠ 13))) (fun g269 => ?_) (fun g269 => ?_)
           ·skip
            refine U.p rfl rfl (.inr ⟨_, _, _, rfl, rfl, ((L 0 rfl rfl).trans (congrArg Value.bool g269))⟩) (S.move rfl (L 14 rfl rfl)) ?_
            refine U.p rfl rfl (.inr ⟨_, _, _, rfl, rfl, ((L 1 rfl rfl).trans (congrArg Value.bool g269))⟩) (S.neqI rfl (L 0 rfl rfl) K) ?_
            refine U.p rfl rfl (.inl rfl) (S.pickT rfl ((L 2 rfl rfl).trans (congrArg Value.bool g269)) (L 0 rfl rfl)) ?_
            exact kk [(103, .bool (decide (x183 ≠ 15))), (102, .bool (decide (x183 ≠ 15))), (101, .int .i64 x183)] _ ⟨.bool (decide (x183 ≠ 15)), .int .i64 x183, rfl, (by rw [g269, Bool.true_and])⟩
           ·skip
            refine U.x rfl rfl rfl rfl ((L 0 rfl rfl).trans (congrArg Value.bool g269)) (by decide) ?_
            refine U.x rfl rfl rfl rfl ((L 1 rfl rfl).trans (congrArg Value.bool g269)) (by decide) ?_
            refine U.p rfl rfl (.inl rfl) (S.pickF rfl ((L 2 rfl rfl).trans (congrArg Value.bool g269)) K) ?_
            exact kk [(103, .bool false), (102, .tuple #[]), (101, .tuple #[])] _ ⟨.tuple #[], .tuple #[], rfl, (by rw [g269, Bool.false_and])⟩
         ·intro kk
          refine bcase (b := decide (x183 ≠ 12)) (fun g270 => ?_) (fun g270 => ?_)
          ·skip
           refine U.p rfl rfl (.inr ⟨_, _, _, rfl, rfl, ((L 0 rfl rfl).trans (congrArg Value.bool g270))⟩) (S.move rfl (L 10 rfl rfl)) ?_
           refine U.p rfl rfl (.inr ⟨_, _, _, rfl, rfl, ((L 1 rfl rfl).trans (congrArg Value.bool g270))⟩) (S.neqI rfl (L 0 rfl rfl) K) ?_
           refine U.p rfl rfl (.inl rfl) (S.pickT rfl ((L 2 rfl rfl).trans (congrArg Value.bool g270)) (L 0 rfl rfl)) ?_
           exact kk [(99, .bool (decide (x183 ≠ 13))), (98, .bool (decide (x183 ≠ 13))), (97, .int .i64 x183)] _ ⟨.bool (decide (x183 ≠ 13)), .int .i64 x183, rfl, (by rw [g270, Bool.true_and])⟩
          ·skip
           refine U.x rfl rfl rfl rfl ((L 0 rfl rfl).trans (congrArg Value.bool g270)) (by decide) ?_
           refine U.x rfl rfl rfl rfl ((L 1 rfl rfl).trans (congrArg Value.bool g270)) (by decide) ?_
           refine U.p rfl rfl (.inl rfl) (S.pickF rfl ((L 2 rfl rfl).trans (congrArg Value.bool g270)) K) ?_
           exact kk [(99, .bool false), (98, .tuple #[]), (97, .tuple #[])] _ ⟨.tuple #[], .tuple #[], rfl, (by rw [g270, Bool.false_and])⟩
        ·have h271 := ifF c194 h193
         refine WP.exit ?_
         refine sqE (sqE (blkE (blkN (sqN ?_))))
         have h272 := exitS h271 e191
         refine WP.ureg rfl ?_
         refine U.p rfl rfl (.inl rfl) (S.add rfl (L 10 rfl rfl) K) ?_
         refine U.p rfl rfl (.inl rfl) (S.move rfl (L 0 rfl rfl)) ?_
         refine U.done (nr rfl) ?_
         refine sqN ?_
         have ow273 := ow188.drop 3 rfl
         have ow274 := ow273.drop 3 rfl
         exact ⟨_, V186, rfl, ⟨m119, Nat.lt_succ_self _, w64 (x109 + 1), rfl, ((((((le117.trans le141).trans le145).trans le162).trans le166).trans le170).trans le187), ow274, backS h272 e121⟩, (allCons (L 4 rfl rfl) (allCons (L 5 rfl rfl) (allCons (L 6 rfl rfl) (allCons (L 10 rfl rfl) (allCons (L 11 rfl rfl) (allCons (L 0 rfl rfl) allNil))))))⟩
      ·skip
       refine WP.udreg rfl rfl rfl ?_
       refine U.p (v := .pointer (some ⟨b160, 3, none⟩)) rfl rfl (.inl rfl) (S.fieldAddr rfl (L 0 rfl rfl) Try.underlying38 rfl ti36 rfl rfl) ?_
       refine U.k rfl rfl (.inl rfl) (S.load rfl (L 0 rfl rfl) Try.underlying36 rfl ((ow167.own (k := 0) rfl).cell rfl)) (fun _ => (okH.nil (fun r h => by cases h; exact (ow167.own (k := 0) rfl).lt))) ?_
       refine U.p rfl rfl (.inl rfl) (f159.1.len rfl (L 0 rfl rfl) Try.underlying36) ?_
       refine U.p (v := .pointer (some ⟨b139, 3, none⟩)) rfl rfl (.inl rfl) (S.fieldAddr rfl (L 10 rfl rfl) Try.underlying38 rfl ti36 rfl rfl) ?_
       refine U.k rfl rfl (.inl rfl) (S.load rfl (L 0 rfl rfl) Try.underlying36 rfl ((ow167.own (k := 1) rfl).cell rfl)) (fun _ => (okH.cons trivial (okH.nil (fun r h => by cases h; exact (ow167.own (k := 1) rfl).lt)))) ?_
       refine U.p rfl rfl (.inl rfl) (f138.1.len rfl (L 0 rfl rfl) Try.underlying36) ?_
       refine U.p rfl rfl (.inl rfl) (S.add rfl (L 0 rfl rfl) K) ?_
       refine U.p rfl rfl (.inl rfl) (S.gtr rfl (L 4 rfl rfl) (L 0 rfl rfl)) ?_
       refine U.p rfl rfl (.inl rfl) (S.move rfl (L 0 rfl rfl)) ?_
       refine bcase (b := decide ((w64 ((x126.code.length : Int) + 1)) < (x147.code.length : Int))) (fun g275 => ?_) (fun g275 => ?_)
       ·have h276 := ifT g275 h149
        refine U.x rfl rfl rfl rfl ((L 0 rfl rfl).trans (congrArg Value.bool g275)) (by decide) ?_
        refine U.x rfl rfl rfl rfl ((L 1 rfl rfl).trans (congrArg Value.bool g275)) (by decide) ?_
        refine U.x rfl rfl rfl rfl ((L 2 rfl rfl).trans (congrArg Value.bool g275)) (by decide) ?_
        refine U.x rfl rfl rfl rfl ((L 3 rfl rfl).trans (congrArg Value.bool g275)) (by decide) ?_
        refine U.x rfl rfl rfl rfl ((L 4 rfl rfl).trans (congrArg Value.bool g275)) (by decide) ?_
        refine U.p rfl rfl (.inl rfl) (S.pickT rfl ((L 5 rfl rfl).trans (congrArg Value.bool g275)) K) ?_
        refine U.p rfl rfl (.inl rfl) (S.move rfl (L 0 rfl rfl)) ?_
        refine U.x rfl rfl rfl rfl (L 0 rfl rfl) (by decide) ?_
        refine U.x rfl rfl rfl rfl (L 1 rfl rfl) (by decide) ?_
        refine U.x rfl rfl rfl rfl (L 2 rfl rfl) (by decide) ?_
        refine U.x rfl rfl rfl rfl (L 3 rfl rfl) (by decide) ?_
        refine U.x rfl rfl rfl rfl (L 4 rfl rfl) (by decide) ?_
        refine U.p rfl rfl (.inl rfl) (S.pickT rfl (L 5 rfl rfl) K) ?_
        refine U.p rfl rfl (.inl rfl) (S.move rfl (L 0 rfl rfl)) ?_
        refine U.x rfl rfl rfl rfl (L 0 rfl rfl) (by decide) ?_
        refine U.x rfl rfl rfl rfl (L 1 rfl rfl) (by decide) ?_
        refine U.x rfl rfl rfl rfl (L 2 rfl rfl) (by decide) ?_
        refine U.x rfl rfl rfl rfl (L 3 rfl rfl) (by decide) ?_
        refine U.x rfl rfl rfl rfl (L 4 rfl rfl) (by decide) ?_
        refine U.p rfl rfl (.inl rfl) (S.pickT rfl (L 5 rfl rfl) K) ?_
        refine U.p rfl rfl (.inl rfl) (S.move rfl (L 0 rfl rfl)) ?_
        refine U.x rfl rfl rfl rfl (L 0 rfl rfl) (by decide) ?_
        refine U.x rfl rfl rfl rfl (L 1 rfl rfl) (by decide) ?_
        refine U.x rfl rfl rfl rfl (L 2 rfl rfl) (by decide) ?_
        refine U.x rfl rfl rfl rfl (L 3 rfl rfl) (by decide) ?_
        refine U.x rfl rfl rfl rfl (L 4 rfl rfl) (by decide) ?_
        refine U.x rfl rfl rfl rfl (L 5 rfl rfl) (by decide) ?_
        refine U.x rfl rfl rfl rfl (L 6 rfl rfl) (by decide) ?_
        refine U.x rfl rfl rfl rfl (L 7 rfl rfl) (by decide) ?_
        refine U.p rfl rfl (.inl rfl) (S.pickT rfl (L 8 rfl rfl) K) ?_
        refine U.done (nr rfl) ?_
        refine sqN ?_
        have ow277 := ow167.pick 0 rfl
        have ow278 := ow277.pick 1 rfl
        have ow279 := ow278.pick 4 rfl
        have ow280 := ow279.pick 4 rfl
        have ow281 := ow280.pick 4 rfl
        exact ⟨_, V165, rfl, ⟨true, rfl, (.refl _), ow281, h276⟩, (allCons (L 51 rfl rfl) (allCons (L 52 rfl rfl) (allCons (L 53 rfl rfl) (allCons (L 46 rfl rfl) (allCons (L 39 rfl rfl) (allCons (L 54 rfl rfl) (allCons (L 55 rfl rfl) (allCons (L 56 rfl rfl) (allCons (L 0 rfl rfl) allNil)))))))))⟩
       ·have h282 := ifF g275 h149
        refine U.p (v := .pointer (some ⟨b160, 0, none⟩)) rfl rfl (.inr ⟨_, _, _, rfl, rfl, ((L 0 rfl rfl).trans (congrArg Value.bool g275))⟩) (S.fieldAddr rfl (L 9 rfl rfl) Try.underlying38 rfl ti9 rfl rfl) ?_
        refine U.k rfl rfl (.inr ⟨_, _, _, rfl, rfl, ((L 1 rfl rfl).trans (congrArg Value.bool g275))⟩) (S.load rfl (L 0 rfl rfl) Try.underlying9 rfl ((ow167.own (k := 0) rfl).cell rfl)) (fun _ => (okH.cons trivial (okH.cons trivial (okH.nil (fun r h => by cases h; exact (ow167.own (k := 0) rfl).lt))))) ?_
        refine U.p (v := .pointer (some ⟨b139, 0, none⟩)) rfl rfl (.inr ⟨_, _, _, rfl, rfl, ((L 2 rfl rfl).trans (congrArg Value.bool g275))⟩) (S.fieldAddr rfl (L 18 rfl rfl) Try.underlying38 rfl ti9 rfl rfl) ?_
        refine U.k rfl rfl (.inr ⟨_, _, _, rfl, rfl, ((L 3 rfl rfl).trans (congrArg Value.bool g275))⟩) (S.load rfl (L 0 rfl rfl) Try.underlying9 rfl ((ow167.own (k := 1) rfl).cell rfl)) (fun _ => (okH.cons trivial (okH.cons trivial (okH.cons trivial (okH.nil (fun r h => by cases h; exact (ow167.own (k := 1) rfl).lt)))))) ?_
        refine U.p rfl rfl (.inr ⟨_, _, _, rfl, rfl, ((L 4 rfl rfl).trans (congrArg Value.bool g275))⟩) (S.neqS rfl (L 2 rfl rfl) (L 0 rfl rfl)) ?_
        refine U.p rfl rfl (.inl rfl) (S.pickF rfl ((L 5 rfl rfl).trans (congrArg Value.bool g275)) (L 0 rfl rfl)) ?_
        refine U.p rfl rfl (.inl rfl) (S.move rfl (L 0 rfl rfl)) ?_
        refine bcase (b := decide (x147.name ≠ x126.name)) (fun g283 => ?_) (fun g283 => ?_)
        ·have h284 := ifT g283 h282
         refine U.x rfl rfl rfl rfl ((L 0 rfl rfl).trans (congrArg Value.bool g283)) (by decide) ?_
         refine U.x rfl rfl rfl rfl ((L 1 rfl rfl).trans (congrArg Value.bool g283)) (by decide) ?_
         refine U.x rfl rfl rfl rfl ((L 2 rfl rfl).trans (congrArg Value.bool g283)) (by decide) ?_
         refine U.x rfl rfl rfl rfl ((L 3 rfl rfl).trans (congrArg Value.bool g283)) (by decide) ?_
         refine U.x rfl rfl rfl rfl ((L 4 rfl rfl).trans (congrArg Value.bool g283)) (by decide) ?_
         refine U.p rfl rfl (.inl rfl) (S.pickT rfl ((L 5 rfl rfl).trans (congrArg Value.bool g283)) K) ?_
         refine U.p rfl rfl (.inl rfl) (S.move rfl (L 0 rfl rfl)) ?_
         refine U.x rfl rfl rfl rfl (L 0 rfl rfl) (by decide) ?_
         refine U.x rfl rfl rfl rfl (L 1 rfl rfl) (by decide) ?_
         refine U.x rfl rfl rfl rfl (L 2 rfl rfl) (by decide) ?_
         refine U.x rfl rfl rfl rfl (L 3 rfl rfl) (by decide) ?_
         refine U.x rfl rfl rfl rfl (L 4 rfl rfl) (by decide) ?_
         refine U.p rfl rfl (.inl rfl) (S.pickT rfl (L 5 rfl rfl) K) ?_
         refine U.p rfl rfl (.inl rfl) (S.move rfl (L 0 rfl rfl)) ?_
         refine U.x rfl rfl rfl rfl (L 0 rfl rfl) (by decide) ?_
         refine U.x rfl rfl rfl rfl (L 1 rfl rfl) (by decide) ?_
         refine U.x rfl rfl rfl rfl (L 2 rfl rfl) (by decide) ?_
         refine U.x rfl rfl rfl rfl (L 3 rfl rfl) (by decide) ?_
         refine U.x rfl rfl rfl rfl (L 4 rfl rfl) (by decide) ?_
         refine U.x rfl rfl rfl rfl (L 5 rfl rfl) (by decide) ?_
         refine U.x rfl rfl rfl rfl (L 6 rfl rfl) (by decide) ?_
         refine U.x rfl rfl rfl rfl (L 7 rfl rfl) (by decide) ?_
         refine U.p rfl rfl (.inl rfl) (S.pickT rfl (L 8 rfl rfl) K) ?_
         refine U.done (nr rfl) ?_
         refine sqN ?_
         have ow285 := ow167.pick 0 rfl
         have ow286 := ow285.pick 1 rfl
         have ow287 := ow286.pick 4 rfl
         have ow288 := ow287.pick 4 rfl
         have ow289 := ow288.pick 4 rfl
         exact ⟨_, V165, rfl, ⟨true, rfl, (.refl _), ow289, h284⟩, (allCons (L 51 rfl rfl) (allCons (L 52 rfl rfl) (allCons (L 53 rfl rfl) (allCons (L 46 rfl rfl) (allCons (L 39 rfl rfl) (allCons (L 54 rfl rfl) (allCons (L 55 rfl rfl) (allCons (L 56 rfl rfl) (allCons (L 0 rfl rfl) allNil)))))))))⟩
        ·have h290 := ifF g283 h282
         refine U.p (v := .pointer (some ⟨b160, 1, none⟩)) rfl rfl (.inr ⟨_, _, _, rfl, rfl, ((L 0 rfl rfl).trans (congrArg Value.bool g283))⟩) (S.fieldAddr rfl (L 16 rfl rfl) Try.underlying38 rfl ti3 rfl rfl) ?_
         refine U.k rfl rfl (.inr ⟨_, _, _, rfl, rfl, ((L 1 rfl rfl).trans (congrArg Value.bool g283))⟩) (S.load rfl (L 0 rfl rfl) Try.underlying3 rfl ((ow167.own (k := 0) rfl).cell rfl)) (fun _ => (okH.cons trivial (okH.cons trivial (okH.cons trivial (okH.cons trivial (okH.nil (fun r h => by cases h; exact (ow167.own (k := 0) rfl).lt))))))) ?_
         refine U.p (v := .pointer (some ⟨b139, 1, none⟩)) rfl rfl (.inr ⟨_, _, _, rfl, rfl, ((L 2 rfl rfl).trans (congrArg Value.bool g283))⟩) (S.fieldAddr rfl (L 25 rfl rfl) Try.underlying38 rfl ti3 rfl rfl) ?_
         refine U.k rfl rfl (.inr ⟨_, _, _, rfl, rfl, ((L 3 rfl rfl).trans (congrArg Value.bool g283))⟩) (S.load rfl (L 0 rfl rfl) Try.underlying3 rfl ((ow167.own (k := 1) rfl).cell rfl)) (fun _ => (okH.cons trivial (okH.cons trivial (okH.cons trivial (okH.cons trivial (okH.cons trivial (okH.nil (fun r h => by cases h; exact (ow167.own (k := 1) rfl).lt)))))))) ?_
         refine U.p rfl rfl (.inr ⟨_, _, _, rfl, rfl, ((L 4 rfl rfl).trans (congrArg Value.bool g283))⟩) (S.neqI rfl (L 2 rfl rfl) (L 0 rfl rfl)) ?_
         refine U.p rfl rfl (.inl rfl) (S.pickF rfl ((L 5 rfl rfl).trans (congrArg Value.bool g283)) (L 0 rfl rfl)) ?_
         refine U.p rfl rfl (.inl rfl) (S.move rfl (L 0 rfl rfl)) ?_
         refine bcase (b := decide (x147.params ≠ x126.params)) (fun g291 => ?_) (fun g291 => ?_)
         ·have h292 := ifT g291 h290
          refine U.x rfl rfl rfl rfl ((L 0 rfl rfl).trans (congrArg Value.bool g291)) (by decide) ?_
          refine U.x rfl rfl rfl rfl ((L 1 rfl rfl).trans (congrArg Value.bool g291)) (by decide) ?_
          refine U.x rfl rfl rfl rfl ((L 2 rfl rfl).trans (congrArg Value.bool g291)) (by decide) ?_
          refine U.x rfl rfl rfl rfl ((L 3 rfl rfl).trans (congrArg Value.bool g291)) (by decide) ?_
          refine U.x rfl rfl rfl rfl ((L 4 rfl rfl).trans (congrArg Value.bool g291)) (by decide) ?_
          refine U.p rfl rfl (.inl rfl) (S.pickT rfl ((L 5 rfl rfl).trans (congrArg Value.bool g291)) K) ?_
          refine U.p rfl rfl (.inl rfl) (S.move rfl (L 0 rfl rfl)) ?_
          refine U.x rfl rfl rfl rfl (L 0 rfl rfl) (by decide) ?_
          refine U.x rfl rfl rfl rfl (L 1 rfl rfl) (by decide) ?_
          refine U.x rfl rfl rfl rfl (L 2 rfl rfl) (by decide) ?_
          refine U.x rfl rfl rfl rfl (L 3 rfl rfl) (by decide) ?_
          refine U.x rfl rfl rfl rfl (L 4 rfl rfl) (by decide) ?_
          refine U.x rfl rfl rfl rfl (L 5 rfl rfl) (by decide) ?_
          refine U.x rfl rfl rfl rfl (L 6 rfl rfl) (by decide) ?_
          refine U.x rfl rfl rfl rfl (L 7 rfl rfl) (by decide) ?_
          refine U.p rfl rfl (.inl rfl) (S.pickT rfl (L 8 rfl rfl) K) ?_
          refine U.done (nr rfl) ?_
          refine sqN ?_
          have ow293 := ow167.pick 0 rfl
          have ow294 := ow293.pick 1 rfl
          have ow295 := ow294.pick 4 rfl
          have ow296 := ow295.pick 4 rfl
          have ow297 := ow296.pick 4 rfl
          exact ⟨_, V165, rfl, ⟨true, rfl, (.refl _), ow297, h292⟩, (allCons (L 51 rfl rfl) (allCons (L 52 rfl rfl) (allCons (L 53 rfl rfl) (allCons (L 46 rfl rfl) (allCons (L 39 rfl rfl) (allCons (L 54 rfl rfl) (allCons (L 55 rfl rfl) (allCons (L 56 rfl rfl) (allCons (L 0 rfl rfl) allNil)))))))))⟩
         ·have h298 := ifF g291 h290
          refine U.p (v := .pointer (some ⟨b160, 2, none⟩)) rfl rfl (.inr ⟨_, _, _, rfl, rfl, ((L 0 rfl rfl).trans (congrArg Value.bool g291))⟩) (S.fieldAddr rfl (L 23 rfl rfl) Try.underlying38 rfl ti3 rfl rfl) ?_
          refine U.k rfl rfl (.inr ⟨_, _, _, rfl, rfl, ((L 1 rfl rfl).trans (congrArg Value.bool g291))⟩) (S.load rfl (L 0 rfl rfl) Try.underlying3 rfl ((ow167.own (k := 0) rfl).cell rfl)) (fun _ => (okH.cons trivial (okH.cons trivial (okH.cons trivial (okH.cons trivial (okH.cons trivial (okH.cons trivial (okH.nil (fun r h => by cases h; exact (ow167.own (k := 0) rfl).lt))))))))) ?_
          refine U.p (v := .pointer (some ⟨b139, 2, none⟩)) rfl rfl (.inr ⟨_, _, _, rfl, rfl, ((L 2 rfl rfl).trans (congrArg Value.bool g291))⟩) (S.fieldAddr rfl (L 32 rfl rfl) Try.underlying38 rfl ti3 rfl rfl) ?_
          refine U.k rfl rfl (.inr ⟨_, _, _, rfl, rfl, ((L 3 rfl rfl).trans (congrArg Value.bool g291))⟩) (S.load rfl (L 0 rfl rfl) Try.underlying3 rfl ((ow167.own (k := 1) rfl).cell rfl)) (fun _ => (okH.cons trivial (okH.cons trivial (okH.cons trivial (okH.cons trivial (okH.cons trivial (okH.cons trivial (okH.cons trivial (okH.nil (fun r h => by cases h; exact (ow167.own (k := 1) rfl).lt)))))))))) ?_
          refine U.p rfl rfl (.inr ⟨_, _, _, rfl, rfl, ((L 4 rfl rfl).trans (congrArg Value.bool g291))⟩) (S.neqI rfl (L 2 rfl rfl) (L 0 rfl rfl)) ?_
          refine U.p rfl rfl (.inl rfl) (S.pickF rfl ((L 5 rfl rfl).trans (congrArg Value.bool g291)) (L 0 rfl rfl)) ?_
          refine U.p rfl rfl (.inl rfl) (S.move rfl (L 0 rfl rfl)) ?_
          refine bcase (b := decide (x147.regs ≠ x126.regs)) (fun g299 => ?_) (fun g299 => ?_)
          ·have h300 := ifT g299 h298
           refine U.x rfl rfl rfl rfl ((L 0 rfl rfl).trans (congrArg Value.bool g299)) (by decide) ?_
           refine U.x rfl rfl rfl rfl ((L 1 rfl rfl).trans (congrArg Value.bool g299)) (by decide) ?_
           refine U.x rfl rfl rfl rfl ((L 2 rfl rfl).trans (congrArg Value.bool g299)) (by decide) ?_
           refine U.x rfl rfl rfl rfl ((L 3 rfl rfl).trans (congrArg Value.bool g299)) (by decide) ?_
           refine U.x rfl rfl rfl rfl ((L 4 rfl rfl).trans (congrArg Value.bool g299)) (by decide) ?_
           refine U.x rfl rfl rfl rfl ((L 5 rfl rfl).trans (congrArg Value.bool g299)) (by decide) ?_
           refine U.x rfl rfl rfl rfl ((L 6 rfl rfl).trans (congrArg Value.bool g299)) (by decide) ?_
           refine U.x rfl rfl rfl rfl ((L 7 rfl rfl).trans (congrArg Value.bool g299)) (by decide) ?_
           refine U.p rfl rfl (.inl rfl) (S.pickT rfl ((L 8 rfl rfl).trans (congrArg Value.bool g299)) K) ?_
           refine U.done (nr rfl) ?_
           refine sqN ?_
           have ow301 := ow167.pick 0 rfl
           have ow302 := ow301.pick 1 rfl
           have ow303 := ow302.pick 4 rfl
           have ow304 := ow303.pick 4 rfl
           have ow305 := ow304.pick 4 rfl
           exact ⟨_, V165, rfl, ⟨true, rfl, (.refl _), ow305, h300⟩, (allCons (L 51 rfl rfl) (allCons (L 52 rfl rfl) (allCons (L 53 rfl rfl) (allCons (L 46 rfl rfl) (allCons (L 39 rfl rfl) (allCons (L 54 rfl rfl) (allCons (L 55 rfl rfl) (allCons (L 56 rfl rfl) (allCons (L 0 rfl rfl) allNil)))))))))⟩
          ·have h306 := ifF g299 h298
           refine U.k rfl rfl (.inr ⟨_, _, _, rfl, rfl, ((L 0 rfl rfl).trans (congrArg Value.bool g299))⟩) (S.loadB rfl (L 37 rfl rfl) Try.underlying38 rfl ti38 (ow167.own (k := 1) rfl).get rfl) (fun _ => (okH.cons trivial (okH.cons trivial (okH.cons trivial (okH.cons trivial (okH.cons trivial (okH.cons trivial (okH.cons trivial (okH.cons trivial (okH.nil (fun r h => by cases h; exact (ow167.own (k := 1) rfl).lt))))))))))) ?_
           refine U.p (v := .pointer (some ⟨b80, 0, none⟩)) rfl rfl (.inr ⟨_, _, _, rfl, rfl, ((L 1 rfl rfl).trans (congrArg Value.bool g299))⟩) (S.fieldAddr rfl (L 45 rfl rfl) Try.underlying25 rfl ti22 rfl rfl) ?_
           refine U.k rfl rfl (.inr ⟨_, _, _, rfl, rfl, ((L 2 rfl rfl).trans (congrArg Value.bool g299))⟩) (S.load rfl (L 0 rfl rfl) Try.underlying22 rfl ((ow167.own (k := 4) rfl).cell rfl)) (fun _ => (okH.cons trivial (okH.cons trivial (okH.cons trivial (okH.cons trivial (okH.cons trivial (okH.cons trivial (okH.cons trivial (okH.cons trivial (okH.cons trivial (okH.nil (fun r h => by cases h; exact (ow167.own (k := 4) rfl).lt)))))))))))) ?_
           refine U.p rfl rfl (.inr ⟨_, _, _, rfl, rfl, ((L 3 rfl rfl).trans (congrArg Value.bool g299))⟩) (S.move rfl (L 39 rfl rfl)) ?_
           obtain ⟨x307, hx308, h309⟩ := bindS h306
           obtain ⟨b310, o311, c312, cs313, hv314, hf315, hr316, hc317⟩ := f72.at hx308
           obtain ⟨v318, rfl, f319⟩ := hr316
           refine U.p rfl rfl (.inr ⟨_, _, _, rfl, rfl, ((L 4 rfl rfl).trans (congrArg Value.bool g299))⟩) (S.index rfl ((L 1 rfl rfl).trans hv314) (L 0 rfl rfl) Try.underlying22 ti38 (ix_ge hx308) (ix_lt hx308)) ?_
           refine U.k rfl rfl (.inr ⟨_, _, _, rfl, rfl, ((L 5 rfl rfl).trans (congrArg Value.bool g299))⟩) (S.loadN (cs := [.string x307.name, .int .i64 x307.params, .int .i64 x307.regs, v318]) rfl (L 0 rfl rfl) Try.underlying38 rfl ti38 rfl (fun j v hj => ((((((((le77.trans le82).trans le86).trans le89).trans le117).trans le141).trans le145).trans le162).trans le166).cell hf315 (hc317 j v hj))) (fun _ => (okH.cons trivial (okH.cons trivial (okH.cons trivial (okH.cons trivial (okH.cons trivial (okH.cons trivial (okH.cons trivial (okH.cons trivial (okH.cons trivial (okH.cons trivial (okH.nil (fun r h => by cases h; exact (V165.wf _ (((((((((le77.trans le82).trans le86).trans le89).trans le117).trans le141).trans le145).trans le162).trans le166).sub _ hf315))))))))))))))) ?_
           have f320 := f138.up (((((((((le68.trans le77).trans le82).trans le86).trans le89).trans le117).trans le141).trans le145).trans le162).trans le166)
           have f321 := f319.up ((((((((le77.trans le82).trans le86).trans le89).trans le117).trans le141).trans le145).trans le162).trans le166)
           obtain ⟨x322, hx323, h324⟩ := bindS h309
           refine O.call (V := V165) rfl rfl (.inr ⟨_, _, _, rfl, rfl, ((L 6 rfl rfl).trans (congrArg Value.bool g299))⟩) rfl en12 (aC (L 5 rfl rfl) (aC (L 0 rfl rfl) aN)) (wk_ref11_Same V165 _ x126 x307 v137 v318 f320 f321 ow167 _ hx323) (fun v325 V326 le327 hp328 => by obtain ⟨rfl, ow329⟩ := hp328; exact (fun _ => (okH.cons (Or.inl rfl) (okH.cons (Or.inl rfl) (okH.cons (Or.inl rfl) (okH.cons (Or.inl rfl) (okH.cons (Or.inl rfl) (okH.cons (Or.inl rfl) (okH.cons (Or.inl rfl) (okH.cons (Or.inl rfl) (okH.cons (Or.inl rfl) (okH.cons (Or.inl rfl) (okH.cons (Or.inl rfl) (okH.nil (fun r h => nomatch h))))))))))))))) (fun v325 V326 le327 hp328 => ?_)
           obtain ⟨rfl, ow329⟩ := hp328
           refine U.p rfl rfl (.inr ⟨_, _, _, rfl, rfl, ((L 7 rfl rfl).trans (congrArg Value.bool g299))⟩) (S.not rfl (L 0 rfl rfl)) ?_
           refine U.p rfl rfl (.inl rfl) (S.pickF rfl ((L 8 rfl rfl).trans (congrArg Value.bool g299)) (L 0 rfl rfl)) ?_
           refine U.done (nr rfl) ?_
           refine sqN ?_
           have ow330 := ow329.pick 0 rfl
           have ow331 := ow330.pick 1 rfl
           have ow332 := ow331.pick 4 rfl
           have ow333 := ow332.pick 4 rfl
           have ow334 := ow333.pick 4 rfl
           exact ⟨_, V326, rfl, ⟨!x322, rfl, le327, ow334, h324⟩, (allCons (L 51 rfl rfl) (allCons (L 52 rfl rfl) (allCons (L 53 rfl rfl) (allCons (L 46 rfl rfl) (allCons (L 39 rfl rfl) (allCons (L 54 rfl rfl) (allCons (L 55 rfl rfl) (allCons (L 56 rfl rfl) (allCons (L 0 rfl rfl) allNil)))))))))⟩
     ·have h335 := ifF c124 h123
      refine WP.exit ?_
      refine sqE (sqE (blkE (sqN ?_)))
      have h336 := exitS h335 e121
      refine WP.usreg rfl ?_
      refine U.p rfl rfl (.inl rfl) (S.assign rfl K) ?_
      refine U.done (nr rfl) ?_
      refine WP.ret ?_
      refine fin.slot (.inr rfl) rfl (L 0 rfl rfl) ⟨V116, rfl, ((((((((((le7.trans le12).trans le20).trans le38).trans le54).trans le68).trans le77).trans le82).trans le86).trans le89).trans le117), ?_⟩
      have ow337 := ow118.drop 0 rfl
      have ow338 := ow337.drop 0 rfl
      have ow339 := ow338.drop 0 rfl
      have e340 := Option.some.inj h336
      subst e340
      exact ⟨rfl, ow339⟩
   ·intro kk
    refine bcase (b := decide ((x49.funcs.length : Int) ≠ (p0.funcs.length : Int))) (fun g341 => ?_) (fun g341 => ?_)
    ·skip
     refine U.x rfl rfl rfl rfl ((L 0 rfl rfl).trans (congrArg Value.bool g341)) (by decide) ?_
     refine U.x rfl rfl rfl rfl ((L 1 rfl rfl).trans (congrArg Value.bool g341)) (by decide) ?_
     refine U.x rfl rfl rfl rfl ((L 2 rfl rfl).trans (congrArg Value.bool g341)) (by decide) ?_
     refine U.x rfl rfl rfl rfl ((L 3 rfl rfl).trans (congrArg Value.bool g341)) (by decide) ?_
     refine U.x rfl rfl rfl rfl ((L 4 rfl rfl).trans (congrArg Value.bool g341)) (by decide) ?_
     refine U.x rfl rfl rfl rfl ((L 5 rfl rfl).trans (congrArg Value.bool g341)) (by decide) ?_
     refine U.x rfl rfl rfl rfl ((L 6 rfl rfl).trans (congrArg Value.bool g341)) (by decide) ?_
     refine U.p rfl rfl (.inl rfl) (S.pickT rfl ((L 7 rfl rfl).trans (congrArg Value.bool g341)) K) ?_
     exact kk [(37, .bool true), (36, .tuple #[]), (35, .tuple #[]), (34, .tuple #[]), (33, .tuple #[]), (32, .tuple #[]), (31, .tuple #[]), (30, .tuple #[])] _ ⟨.tuple #[], .tuple #[], .tuple #[], .tuple #[], .tuple #[], .tuple #[], .tuple #[], rfl, (by rw [g341, Bool.true_or])⟩
    ·skip
     refine U.p (v := .pointer (some ⟨b75, 1, none⟩)) rfl rfl (.inr ⟨_, _, _, rfl, rfl, ((L 0 rfl rfl).trans (congrArg Value.bool g341))⟩) (S.fieldAddr rfl (L 9 rfl rfl) Try.underlying25 rfl ti23 rfl rfl) ?_
     refine U.k rfl rfl (.inr ⟨_, _, _, rfl, rfl, ((L 1 rfl rfl).trans (congrArg Value.bool g341))⟩) (S.load rfl (L 0 rfl rfl) Try.underlying23 rfl ((ow90.own (k := 1) rfl).cell rfl)) nd ?_
     refine U.p rfl rfl (.inr ⟨_, _, _, rfl, rfl, ((L 2 rfl rfl).trans (congrArg Value.bool g341))⟩) (f60.1.len rfl (L 0 rfl rfl) Try.underlying23) ?_
     refine U.p (v := .pointer (some ⟨b5, 1, none⟩)) rfl rfl (.inr ⟨_, _, _, rfl, rfl, ((L 3 rfl rfl).trans (congrArg Value.bool g341))⟩) (S.fieldAddr rfl (L 25 rfl rfl) Try.underlying25 rfl ti23 rfl rfl) ?_
     refine U.k rfl rfl (.inr ⟨_, _, _, rfl, rfl, ((L 4 rfl rfl).trans (congrArg Value.bool g341))⟩) (S.load rfl (L 0 rfl rfl) Try.underlying23 rfl ((ow90.own (k := 3) rfl).cell rfl)) nd ?_
     refine U.p rfl rfl (.inr ⟨_, _, _, rfl, rfl, ((L 5 rfl rfl).trans (congrArg Value.bool g341))⟩) (f62.1.len rfl (L 0 rfl rfl) Try.underlying23) ?_
     refine U.p rfl rfl (.inr ⟨_, _, _, rfl, rfl, ((L 6 rfl rfl).trans (congrArg Value.bool g341))⟩) (S.neqI rfl (L 3 rfl rfl) (L 0 rfl rfl)) ?_
     refine U.p rfl rfl (.inl rfl) (S.pickF rfl ((L 7 rfl rfl).trans (congrArg Value.bool g341)) (L 0 rfl rfl)) ?_
     exact kk [(37, .bool (decide ((x49.threads.length : Int) ≠ (p0.threads.length : Int)))), (36, .bool (decide ((x49.threads.length : Int) ≠ (p0.threads.length : Int)))), (35, .int .i64 (p0.threads.length : Int)), (34, v3), (33, .pointer (some ⟨b5, 1, none⟩)), (32, .int .i64 (x49.threads.length : Int)), (31, v59), (30, .pointer (some ⟨b75, 1, none⟩))] _ ⟨.bool (decide ((x49.threads.length : Int) ≠ (p0.threads.length : Int))), .int .i64 (p0.threads.length : Int), v3, .pointer (some ⟨b5, 1, none⟩), .int .i64 (x49.threads.length : Int), v59, .pointer (some ⟨b75, 1, none⟩), rfl, (by rw [g341, Bool.false_or])⟩
end Go.Vm.G11
