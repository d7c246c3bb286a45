/-
  What the functions compute is what the plain ones say, for all inputs at which those answer.
-/
import Derived.Test.YtngmbcedamphmaaEWG13c
set_option linter.unusedSimpArgs false
set_option linter.unusedVariables false
namespace Go.Vm.G13
open Go Go.Proofs
set_option maxHeartbeats 4000000
set_option maxRecDepth 10000
theorem wk_regs_Map_place (V : Vw) (Rs : List At) (p0 : Tregs_Map) (p1 : Int) (v1 : Value) (f2 : Fz (RT.int .i64) V v1 p0.at_) (ow : Ow V (Rs)) (r : Int) (h : regs_Map_place p0 p1 = some r) : ∃ v V', Cl Try.prog 0 20 #[.agg #[v1, .int .i64 p0.spill], .int .i64 p1] V.H v V'.H ∧ V.le V' ∧ (v = .int .i64 r ∧ Ow V' (Rs)) := by
 refine Ct.of (Nat.zero_le _) Try.func20 rfl (nr rfl) ?_
 unfold regs_Map_place at h
 refine WP.usreg rfl ?_
 refine O.box ow rfl rfl (.inl rfl) rfl (L 0 rfl rfl) (by simp [topV]) rfl nd (fun b3 V4 le5 ow6 => ?_)
 refine U.p rfl rfl (.inl rfl) (S.assign rfl K) ?_
 refine U.done (nr rfl) ?_
 refine WP.seq ?_
 refine WP.usreg rfl ?_
 refine U.p rfl rfl (.inl rfl) (S.move rfl (L 3 rfl rfl)) ?_
 refine U.p rfl rfl (.inl rfl) (S.lss rfl (L 0 rfl rfl) K) ?_
 refine U.p rfl rfl (.inl rfl) (S.move rfl (L 0 rfl rfl)) ?_
 refine U.joinX 9 (fun e H => ∃ (u8 u9 u10 u11 u12 : Value), H = V4.H ∧ e = [(13, .bool ((decide (p1 < 0)) || (decide ((p0.at_.length : Int) ≤ p1)))), (12, u8), (11, u9), (10, u10), (9, u11), (8, u12)]) ?_ ?_
 ·rintro _ _ ⟨u8, u9, u10, u11, u12, rfl, rfl⟩
  refine U.done (nr rfl) ?_
  refine WP.cond _ (L 0 rfl rfl) rfl (fun c16 => ?_) (fun c16 => ?_)
  ·have h17 := ifT c16 h
   refine WP.usreg rfl ?_
   refine U.p rfl rfl (.inl rfl) (S.move rfl (L 12 rfl rfl)) ?_
   refine U.p rfl rfl (.inl rfl) (S.assign rfl (L 0 rfl rfl)) ?_
   refine U.done (nr rfl) ?_
   refine WP.ret ?_
   refine sqR ?_
   refine fin.slot (.inr rfl) rfl (L 0 rfl rfl) ⟨V4, rfl, le5, ?_⟩
   have ow18 := ow6.drop 0 rfl
   have e19 := Option.some.inj h17
   subst e19
   exact ⟨rfl, ow18⟩
  ·have h20 := ifF c16 h
   refine WP.skip ?_
   refine sqN ?_
   refine WP.usreg rfl ?_
   refine U.p (v := .pointer (some ⟨b3, 0, none⟩)) rfl rfl (.inl rfl) (S.fieldAddr rfl (L 10 rfl rfl) Try.underlying31 rfl ti27 rfl rfl) ?_
   refine U.k rfl rfl (.inl rfl) (S.load rfl (L 0 rfl rfl) Try.underlying27 rfl ((ow6.own (k := 0) rfl).cell rfl)) nd ?_
   refine U.p rfl rfl (.inl rfl) (S.move rfl (L 14 rfl rfl)) ?_
   obtain ⟨x21, hx22, h23⟩ := bindS h20
   obtain ⟨b24, o25, c26, cs27, hv28, hf29, hr30, hc31⟩ := f2.at hx22
   obtain rfl : cs27 = [.int .i64 x21] := hr30
   refine U.p rfl rfl (.inl rfl) (S.index rfl ((L 1 rfl rfl).trans hv28) (L 0 rfl rfl) Try.underlying27 ti3 (ix_ge hx22) (ix_lt hx22)) ?_
   refine U.k rfl rfl (.inl rfl) (S.load rfl (L 0 rfl rfl) Try.underlying3 rfl (le5.cell hf29 (hc31 0 _ rfl))) nd ?_
   refine U.p rfl rfl (.inl rfl) (S.assign rfl (L 0 rfl rfl)) ?_
   refine U.done (nr rfl) ?_
   refine WP.ret ?_
   refine fin.slot (.inr rfl) rfl (L 0 rfl rfl) ⟨V4, rfl, le5, ?_⟩
   have ow32 := ow6.drop 0 rfl
   have e33 := Option.some.inj h23
   subst e33
   exact ⟨rfl, ow32⟩
 ·intro kk
  refine bcase (b := decide (p1 < 0)) (fun g34 => ?_) (fun g34 => ?_)
  ·skip
   refine U.x rfl rfl rfl rfl ((L 0 rfl rfl).trans (cB g34)) (by decide) ?_
   refine U.x rfl rfl rfl rfl ((L 1 rfl rfl).trans (cB g34)) (by decide) ?_
   refine U.x rfl rfl rfl rfl ((L 2 rfl rfl).trans (cB g34)) (by decide) ?_
   refine U.x rfl rfl rfl rfl ((L 3 rfl rfl).trans (cB g34)) (by decide) ?_
   refine U.x rfl rfl rfl rfl ((L 4 rfl rfl).trans (cB g34)) (by decide) ?_
   refine U.p rfl rfl (.inl rfl) (S.pickT rfl ((L 5 rfl rfl).trans (cB g34)) K) ?_
   exact kk [(13, .bool true), (12, .tuple #[]), (11, .tuple #[]), (10, .tuple #[]), (9, .tuple #[]), (8, .tuple #[])] _ ⟨.tuple #[], .tuple #[], .tuple #[], .tuple #[], .tuple #[], rfl, (by rw [g34, Bool.true_or])⟩
  ·skip
   refine U.p rfl rfl (.inr ⟨_, _, _, rfl, rfl, ((L 0 rfl rfl).trans (cB g34))⟩) (S.move rfl (L 6 rfl rfl)) ?_
   refine U.p (v := .pointer (some ⟨b3, 0, none⟩)) rfl rfl (.inr ⟨_, _, _, rfl, rfl, ((L 1 rfl rfl).trans (cB g34))⟩) (S.fieldAddr rfl (L 5 rfl rfl) Try.underlying31 rfl ti27 rfl rfl) ?_
   refine U.k rfl rfl (.inr ⟨_, _, _, rfl, rfl, ((L 2 rfl rfl).trans (cB g34))⟩) (S.load rfl (L 0 rfl rfl) Try.underlying27 rfl ((ow6.own (k := 0) rfl).cell rfl)) nd ?_
   refine U.p rfl rfl (.inr ⟨_, _, _, rfl, rfl, ((L 3 rfl rfl).trans (cB g34))⟩) (f2.1.len rfl (L 0 rfl rfl) Try.underlying27) ?_
   refine U.p rfl rfl (.inr ⟨_, _, _, rfl, rfl, ((L 4 rfl rfl).trans (cB g34))⟩) (S.geq rfl (L 3 rfl rfl) (L 0 rfl rfl)) ?_
   refine U.p rfl rfl (.inl rfl) (S.pickF rfl ((L 5 rfl rfl).trans (cB g34)) (L 0 rfl rfl)) ?_
   exact kk [(13, .bool (decide ((p0.at_.length : Int) ≤ p1))), (12, .bool (decide ((p0.at_.length : Int) ≤ p1))), (11, .int .i64 (p0.at_.length : Int)), (10, v1), (9, .pointer (some ⟨b3, 0, none⟩)), (8, .int .i64 p1)] _ ⟨.bool (decide ((p0.at_.length : Int) ≤ p1)), .int .i64 (p0.at_.length : Int), v1, .pointer (some ⟨b3, 0, none⟩), .int .i64 p1, rfl, (by rw [g34, Bool.false_or])⟩
theorem wk_slices_Clone_2 (V : Vw) (Rs : List At) (p0 : List Int) (v1 : Value) (f2 : Fz (RT.int .i64) V v1 p0) (ow : Ow V (Rs)) (r : List Int) (h : slices_Clone_2 p0 = some r) : ∃ v V', Cl Try.prog 0 21 #[v1] V.H v V'.H ∧ V.le V' ∧ (∃ (v3 : Value), v = v3 ∧ Ow V' (.os (RT.int .i64) v3 r :: Rs)) := by
 refine Ct.of (Nat.zero_le _) Try.func21 rfl (nr rfl) ?_
 unfold slices_Clone_2 at h
 refine WP.usreg rfl ?_
 refine U.p rfl rfl (.inl rfl) (S.assign rfl K) ?_
 refine U.done (nr rfl) ?_
 refine WP.seq ?_
 refine WP.usreg rfl ?_
 refine U.p rfl rfl (.inl rfl) (S.move rfl (L 1 rfl rfl)) ?_
 refine U.p rfl rfl (.inl rfl) (f2.1.eqNil rfl (L 0 rfl rfl) K Try.underlying27) ?_
 refine U.done (nr rfl) ?_
 refine WP.cond _ (L 0 rfl rfl) rfl (fun c5 => ?_) (fun c5 => ?_)
 ·have hz := (f2.1.nil_of c5)
  have h6 : (some [] : Option _) = some r := by simpa [hz, ap] using h
  refine WP.usreg rfl ?_
  refine U.p rfl rfl (.inl rfl) (S.assign rfl K) ?_
  refine U.done (nr rfl) ?_
  refine WP.ret ?_
  refine sqR ?_
  have ow7 := ow.nil (RT.int .i64)
  refine fin.slot (.inr rfl) rfl (L 0 rfl rfl) ⟨V, rfl, (.refl _), ?_⟩
  have e9 := Option.some.inj h6
  subst e9
  exact ⟨(.slice none 0 0), rfl, ow7⟩
 ·skip
  refine WP.skip ?_
  refine sqN ?_
  refine WP.usreg rfl ?_
  refine O.lit (R := (RT.int .i64)) ow rfl rfl (.inl rfl) rfl Try.underlying27 ti3 rfl rfl rfl (nr rfl) rfl aN .nil (fun _ => nd) (fun v10 V11 le12 ow13 => ?_)
  refine U.p rfl rfl (.inl rfl) (S.move rfl (L 4 rfl rfl)) ?_
  have f15 := f2.up le12
  obtain ⟨xs16, hx17, h18⟩ := bindS h
  refine O.append (k := 0) ow13 rfl rfl rfl (.inl rfl) rfl (L 1 rfl rfl) (L 0 rfl rfl) Try.underlying27 ti3 rfl rfl (nr rfl) (f15.src Try.underlying27) hx17 (fun _ _ => nd) (fun v19 V20 le21 ow22 => ?_)
  refine U.p rfl rfl (.inl rfl) (S.assign rfl (L 0 rfl rfl)) ?_
  refine U.done (nr rfl) ?_
  refine WP.ret ?_
  refine fin.slot (.inr rfl) rfl (L 0 rfl rfl) ⟨V20, rfl, (le12.trans le21), ?_⟩
  have e24 := Option.some.inj h18
  subst e24
  exact ⟨v19, rfl, ow22⟩
theorem wk_regs_Rename (V : Vw) (Rs : List At) (p0 : TFunc) (p1 : Tregs_Map) (v1 : Value) (v3 : Value) (f2 : Fz RT_TIns V v1 p0.code) (f4 : Fz (RT.int .i64) V v3 p1.at_) (ow : Ow V (Rs)) (r : TFunc) (h : regs_Rename p0 p1 = some r) : ∃ v V', Cl Try.prog 0 10 #[.agg #[.string p0.name, .int .i64 p0.params, .int .i64 p0.regs, v1], .agg #[v3, .int .i64 p1.spill]] V.H v V'.H ∧ V.le V' ∧ (∃ (v5 : Value), v = .agg #[.string r.name, .int .i64 r.params, .int .i64 r.regs, v5] ∧ Fz RT_TIns V' v5 r.code ∧ Ow V' (Rs)) := by
 refine Ct.of (Nat.zero_le _) Try.func10 rfl (nr rfl) ?_
 unfold regs_Rename at h
 refine WP.usreg rfl ?_
 refine O.box ow rfl rfl (.inl rfl) rfl (L 0 rfl rfl) (by simp [topV]) rfl nd (fun b7 V8 le9 ow10 => ?_)
 refine O.box ow10 rfl rfl (.inl rfl) rfl (L 2 rfl rfl) (by simp [topV]) rfl nd (fun b12 V13 le14 ow15 => ?_)
 refine O.alloc ow15 rfl rfl (.inl rfl) rfl ti24 rfl rfl nd (fun b17 V18 le19 ow20 => ?_)
 refine U.done (nr rfl) ?_
 refine WP.usreg rfl ?_
 refine U.p (v := .pointer (some ⟨b7, 0, none⟩)) rfl rfl (.inl rfl) (S.fieldAddr rfl (L 2 rfl rfl) Try.underlying24 rfl ti9 rfl rfl) ?_
 refine U.k rfl rfl (.inl rfl) (S.load rfl (L 0 rfl rfl) Try.underlying9 rfl ((ow20.own (k := 2) rfl).cell rfl)) nd ?_
 refine U.p (v := .pointer (some ⟨b7, 1, none⟩)) rfl rfl (.inl rfl) (S.fieldAddr rfl (L 4 rfl rfl) Try.underlying24 rfl ti3 rfl rfl) ?_
 refine U.k rfl rfl (.inl rfl) (S.load rfl (L 0 rfl rfl) Try.underlying3 rfl ((ow20.own (k := 2) rfl).cell rfl)) nd ?_
 refine U.p (v := .pointer (some ⟨b12, 1, none⟩)) rfl rfl (.inl rfl) (S.fieldAddr rfl (L 5 rfl rfl) Try.underlying31 rfl ti3 rfl rfl) ?_
 refine U.k rfl rfl (.inl rfl) (S.load rfl (L 0 rfl rfl) Try.underlying3 rfl ((ow20.own (k := 1) rfl).cell rfl)) nd ?_
 refine U.p rfl rfl (.inl rfl) (S.add rfl K (L 0 rfl rfl)) ?_
 refine U.p (v := .agg #[.string p0.name, .int .i64 p0.params, .int .i64 (w64 (10 + p1.spill)), .slice none 0 0]) rfl rfl (.inl rfl) (S.build (vs := [.string p0.name, .int .i64 p0.params, .int .i64 (w64 (10 + p1.spill))]) rfl ti24 rfl pl24 (aC (L 5 rfl rfl) (aC (L 3 rfl rfl) (aC (L 0 rfl rfl) aN))) (allC (by simp [topV]) (allC (by simp [topV]) (allC (by simp [topV]) allN))) rfl) ?_
 refine O.alloc ow20 rfl rfl (.inl rfl) rfl ti24 rfl rfl nd (fun b22 V23 le24 ow25 => ?_)
 refine O.store (k := 0) (cs := [.string p0.name, .int .i64 p0.params, .int .i64 (w64 (10 + p1.spill)), .slice none 0 0]) (c' := [.string p0.name, .int .i64 p0.params, .int .i64 (w64 (10 + p1.spill)), .slice none 0 0]) ow25 rfl rfl rfl (.inl rfl) rfl (L 0 rfl rfl) (L 1 rfl rfl) ti24 (by simp [topV]) rfl rfl (nr rfl) rfl rfl nd (fun V27 le28 ow29 => ?_)
 refine U.done (nr rfl) ?_
 refine WP.seq ?_
 refine WP.usreg rfl ?_
 refine U.p (v := .pointer (some ⟨b7, 3, none⟩)) rfl rfl (.inl rfl) (S.fieldAddr rfl (L 11 rfl rfl) Try.underlying24 rfl ti22 rfl rfl) ?_
 refine U.k rfl rfl (.inl rfl) (S.load rfl (L 0 rfl rfl) Try.underlying22 rfl ((ow29.own (k := 3) rfl).cell rfl)) nd ?_
 refine U.p rfl rfl (.inl rfl) (f2.1.len rfl (L 0 rfl rfl) Try.underlying22) ?_
 refine U.p rfl rfl (.inl rfl) (S.move rfl K) ?_
 refine U.done (nr rfl) ?_
 refine WP.blk ?_
 have ow34 := ow29.nil RT_TIns
 have ow36 := ow34.drop 4 rfl
 have ow37 := ow36.pick 0 rfl
 have ow38 := ow37.pick 1 rfl
 have ow39 := ow38.pick 2 rfl
 have ow40 := ow39.pick 3 rfl
 unfold regs_Rename_l1 at h
 obtain ⟨n42, hn41⟩ := loopO_some.1 h
 refine WP.loopI2 (fun n l V' => ∃ (v31 : Value) (xs32 : List TIns) (x33 : Int), l = [(3, .pointer (some ⟨b12, 0, none⟩)), (4, .pointer (some ⟨b17, 0, none⟩)), (5, .pointer (some ⟨b22, 0, none⟩)), (19, v1), (20, .int .i64 (p0.code.length : Int)), (21, .int .i64 x33)] ∧ V27.le V' ∧ Ow V' (.pt b12 (.cells 0 [v3, .int .i64 p1.spill]) :: .pt b17 (.cells 4 [.string ByteArray.empty, .int .i64 0, .int .i64 0, .slice none 0 0]) :: .pt b22 (.cells 4 [.string p0.name, .int .i64 p0.params, .int .i64 (w64 (10 + p1.spill)), v31]) :: .os RT_TIns v31 xs32 :: Rs) ∧ itO (fun s => regs_Rename_l1b p0 p1 s.1 s.2) n (xs32, x33) = some r) n42 _ ⟨(.slice none 0 0), [], 0, rfl, .refl _, ow40, hn41⟩ (allCons (L 14 rfl rfl) (allCons (L 13 rfl rfl) (allCons (L 4 rfl rfl) (allCons (L 2 rfl rfl) (allCons (L 1 rfl rfl) (allCons (L 0 rfl rfl) allNil)))))) ?_
 rintro _ _ V43 ⟨v31, xs32, x33, rfl, le44, ow45, h49⟩
 obtain ⟨m46, q47, rfl, h50, e48⟩ := itS h49
 replace h50 : regs_Rename_l1b p0 p1 xs32 x33 = some q47 := h50
 unfold regs_Rename_l1b at h50
 refine WP.usreg rfl ?_
 refine U.p rfl rfl (.inl rfl) (S.lss rfl (L 5 rfl rfl) (L 4 rfl rfl)) ?_
 refine U.done (nr rfl) ?_
 refine WP.seq ?_
 refine WP.cond _ (L 0 rfl rfl) rfl (fun c51 => ?_) (fun c51 => ?_)
 ·have h52 := ifT c51 h50
  refine WP.skip ?_
  refine sqN ?_
  refine WP.seq ?_
  refine WP.blk ?_
  refine WP.usreg rfl ?_
  obtain ⟨x53, hx54, h55⟩ := bindS h52
  obtain ⟨b56, o57, c58, cs59, hv60, hf61, hr62, hc63⟩ := f2.at hx54
  obtain ⟨v64, rfl, f65⟩ := hr62
  refine U.p rfl rfl (.inl rfl) (S.index rfl ((L 4 rfl rfl).trans hv60) (L 6 rfl rfl) Try.underlying22 ti29 (ix_ge hx54) (ix_lt hx54)) ?_
  refine U.k rfl rfl (.inl rfl) (S.loadN (cs := [.int .i64 x53.op, .int .i64 x53.d, .int .i64 x53.a, .int .i64 x53.b, .int .i64 x53.imm, v64, .int .i64 x53.what, .bool x53.volatile, .bool x53.final]) rfl (L 0 rfl rfl) Try.underlying29 rfl ti29 rfl (fun j v hj => (((((le9.trans le14).trans le19).trans le24).trans le28).trans le44).cell hf61 (hc63 j v hj))) nd ?_
  refine O.alloc ow45 rfl rfl (.inl rfl) rfl ti29 rfl rfl nd (fun b66 V67 le68 ow69 => ?_)
  refine O.store (k := 0) (cs := [.int .i64 x53.op, .int .i64 x53.d, .int .i64 x53.a, .int .i64 x53.b, .int .i64 x53.imm, v64, .int .i64 x53.what, .bool x53.volatile, .bool x53.final]) (c' := [.int .i64 x53.op, .int .i64 x53.d, .int .i64 x53.a, .int .i64 x53.b, .int .i64 x53.imm, v64, .int .i64 x53.what, .bool x53.volatile, .bool x53.final]) ow69 rfl rfl rfl (.inl rfl) rfl (L 0 rfl rfl) (L 1 rfl rfl) ti29 (by simp [topV]) rfl rfl (nr rfl) (by have q0 := f65.one; simp only [List.all_cons, List.all_nil, q0]; rfl) rfl nd (fun V71 le72 ow73 => ?_)
  refine U.done (nr rfl) ?_
  refine WP.usdreg rfl rfl rfl ?_
  refine U.k rfl rfl (.inl rfl) (S.loadB rfl (L 4 rfl rfl) Try.underlying31 rfl ti31 (ow73.own (k := 1) rfl).get rfl) (fun _ => (okH.nil (fun r h => by cases h; exact (ow73.own (k := 1) rfl).lt))) ?_
  refine U.p (v := .pointer (some ⟨b66, 1, none⟩)) rfl rfl (.inl rfl) (S.fieldAddr rfl (L 1 rfl rfl) Try.underlying29 rfl ti3 rfl rfl) ?_
  refine U.k rfl rfl (.inl rfl) (S.loadC rfl (L 0 rfl rfl) Try.underlying3 rfl ((ow73.own (k := 0) rfl).cell rfl)) (fun _ => (okH.cons trivial (okH.nil (fun r h => by cases h; exact (ow73.own (k := 0) rfl).lt)))) ?_
  have f74 := f4.up (((((((le9.trans le14).trans le19).trans le24).trans le28).trans le44).trans le68).trans le72)
  obtain ⟨x75, hx76, h77⟩ := bindS h55
  refine O.call (V := V71) rfl rfl (.inl rfl) rfl en20 (aC (L 2 rfl rfl) (aC (L 0 rfl rfl) aN)) (wk_regs_Map_place V71 _ p1 x53.d v3 f74 ow73 _ hx76) (fun v78 V79 le80 hp81 => by obtain ⟨rfl, ow82⟩ := hp81; exact (fun _ => (okH.cons (Or.inl rfl) (okH.cons (Or.inl rfl) (okH.nil (fun r h => nomatch h)))))) (fun v78 V79 le80 hp81 => ?_)
  obtain ⟨rfl, ow82⟩ := hp81
  refine U.k rfl rfl (.inl rfl) (S.loadB rfl (L 8 rfl rfl) Try.underlying31 rfl ti31 (ow82.own (k := 1) rfl).get rfl) (fun _ => (okH.cons (Or.inr (Or.inl ((ow82.own (k := 1) rfl).get.trans (ow73.own (k := 1) rfl).get.symm))) (okH.cons trivial (okH.cons trivial (okH.nil (fun r h => by cases h; exact (ow82.own (k := 1) rfl).lt)))))) ?_
  refine U.p (v := .pointer (some ⟨b66, 2, none⟩)) rfl rfl (.inl rfl) (S.fieldAddr rfl (L 5 rfl rfl) Try.underlying29 rfl ti3 rfl rfl) ?_
  refine U.k rfl rfl (.inl rfl) (S.loadC rfl (L 0 rfl rfl) Try.underlying3 rfl ((ow82.own (k := 0) rfl).cell rfl)) (fun _ => (okH.cons trivial (okH.cons (Or.inr (Or.inl (lookC ((ow82.own (k := 0) rfl).cell rfl) ((ow73.own (k := 0) rfl).cell rfl)))) (okH.cons trivial (okH.cons trivial (okH.nil (fun r h => by cases h; exact (ow82.own (k := 0) rfl).lt))))))) ?_
  have f83 := f74.up le80
  obtain ⟨x84, hx85, h86⟩ := bindS h77
  refine O.call (V := V79) rfl rfl (.inl rfl) rfl en20 (aC (L 2 rfl rfl) (aC (L 0 rfl rfl) aN)) (wk_regs_Map_place V79 _ p1 x53.a v3 f83 ow82 _ hx85) (fun v87 V88 le89 hp90 => by obtain ⟨rfl, ow91⟩ := hp90; exact (fun _ => (okH.cons (Or.inl rfl) (okH.cons (Or.inl rfl) (okH.cons rfl (okH.cons (Or.inl rfl) (okH.cons (Or.inl rfl) (okH.nil (fun r h => nomatch h))))))))) (fun v87 V88 le89 hp90 => ?_)
  obtain ⟨rfl, ow91⟩ := hp90
  refine U.k rfl rfl (.inl rfl) (S.loadB rfl (L 12 rfl rfl) Try.underlying31 rfl ti31 (ow91.own (k := 1) rfl).get rfl) (fun _ => (okH.cons (Or.inr (Or.inl ((ow91.own (k := 1) rfl).get.trans (ow82.own (k := 1) rfl).get.symm))) (okH.cons trivial (okH.cons trivial (okH.cons (Or.inr (Or.inl ((ow82.own (k := 1) rfl).get.trans (ow73.own (k := 1) rfl).get.symm))) (okH.cons trivial (okH.cons trivial (okH.nil (fun r h => by cases h; exact (ow91.own (k := 1) rfl).lt))))))))) ?_
  refine U.p (v := .pointer (some ⟨b66, 3, none⟩)) rfl rfl (.inl rfl) (S.fieldAddr rfl (L 9 rfl rfl) Try.underlying29 rfl ti3 rfl rfl) ?_
  refine U.k rfl rfl (.inl rfl) (S.loadC rfl (L 0 rfl rfl) Try.underlying3 rfl ((ow91.own (k := 0) rfl).cell rfl)) (fun _ => (okH.cons trivial (okH.cons (Or.inr (Or.inl (lookC ((ow91.own (k := 0) rfl).cell rfl) ((ow82.own (k := 0) rfl).cell rfl)))) (okH.cons trivial (okH.cons trivial (okH.cons (Or.inr (Or.inl (lookC ((ow82.own (k := 0) rfl).cell rfl) ((ow73.own (k := 0) rfl).cell rfl)))) (okH.cons trivial (okH.cons trivial (okH.nil (fun r h => by cases h; exact (ow91.own (k := 0) rfl).lt)))))))))) ?_
  have f92 := f83.up le89
  obtain ⟨x93, hx94, h95⟩ := bindS h86
  refine O.call (V := V88) rfl rfl (.inl rfl) rfl en20 (aC (L 2 rfl rfl) (aC (L 0 rfl rfl) aN)) (wk_regs_Map_place V88 _ p1 x53.b v3 f92 ow91 _ hx94) (fun v96 V97 le98 hp99 => by obtain ⟨rfl, ow100⟩ := hp99; exact (fun _ => (okH.cons (Or.inl rfl) (okH.cons (Or.inl rfl) (okH.cons rfl (okH.cons (Or.inl rfl) (okH.cons (Or.inl rfl) (okH.cons rfl (okH.cons (Or.inl rfl) (okH.cons (Or.inl rfl) (okH.nil (fun r h => nomatch h)))))))))))) (fun v96 V97 le98 hp99 => ?_)
  obtain ⟨rfl, ow100⟩ := hp99
  refine U.p (v := .pointer (some ⟨b66, 1, none⟩)) rfl rfl (.inl rfl) (S.fieldAddr rfl (L 12 rfl rfl) Try.underlying29 rfl ti3 rfl rfl) ?_
  refine O.store (k := 0) (cs := [.int .i64 x75]) (c' := [.int .i64 x53.op, .int .i64 x75, .int .i64 x53.a, .int .i64 x53.b, .int .i64 x53.imm, v64, .int .i64 x53.what, .bool x53.volatile, .bool x53.final]) ow100 rfl rfl rfl (.inl rfl) rfl (L 0 rfl rfl) (L 9 rfl rfl) ti3 (by simp [topV]) rfl rfl (nr rfl) rfl rfl (fun _ => (okH.cons rfl (okH.cons (Or.inl rfl) (okH.cons (Or.inl rfl) (okH.cons rfl (okH.cons (Or.inl rfl) (okH.cons (Or.inl rfl) (okH.cons rfl (okH.cons (Or.inl rfl) (okH.cons (Or.inl rfl) (okH.nil (fun r h => nomatch h)))))))))))) (fun V101 le102 ow103 => ?_)
  refine U.p (v := .pointer (some ⟨b66, 2, none⟩)) rfl rfl (.inl rfl) (S.fieldAddr rfl (L 13 rfl rfl) Try.underlying29 rfl ti3 rfl rfl) ?_
  refine O.store (k := 0) (cs := [.int .i64 x84]) (c' := [.int .i64 x53.op, .int .i64 x75, .int .i64 x84, .int .i64 x53.b, .int .i64 x53.imm, v64, .int .i64 x53.what, .bool x53.volatile, .bool x53.final]) ow103 rfl rfl rfl (.inl rfl) rfl (L 0 rfl rfl) (L 6 rfl rfl) ti3 (by simp [topV]) rfl rfl (nr rfl) rfl rfl (fun _ => (okH.cons rfl (okH.cons rfl (okH.cons (Or.inl rfl) (okH.cons (Or.inl rfl) (okH.cons rfl (okH.cons (Or.inl rfl) (okH.cons (Or.inl rfl) (okH.cons rfl (okH.cons (Or.inl rfl) (okH.cons (Or.inl rfl) (okH.nil (fun r h => nomatch h))))))))))))) (fun V104 le105 ow106 => ?_)
  refine U.p (v := .pointer (some ⟨b66, 3, none⟩)) rfl rfl (.inl rfl) (S.fieldAddr rfl (L 14 rfl rfl) Try.underlying29 rfl ti3 rfl rfl) ?_
  refine O.store (k := 0) (cs := [.int .i64 x93]) (c' := [.int .i64 x53.op, .int .i64 x75, .int .i64 x84, .int .i64 x93, .int .i64 x53.imm, v64, .int .i64 x53.what, .bool x53.volatile, .bool x53.final]) ow106 rfl rfl rfl (.inl rfl) rfl (L 0 rfl rfl) (L 3 rfl rfl) ti3 (by simp [topV]) rfl rfl (nr rfl) rfl rfl (fun _ => (okH.cons rfl (okH.cons rfl (okH.cons rfl (okH.cons (Or.inl rfl) (okH.cons (Or.inl rfl) (okH.cons rfl (okH.cons (Or.inl rfl) (okH.cons (Or.inl rfl) (okH.cons rfl (okH.cons (Or.inl rfl) (okH.cons (Or.inl rfl) (okH.nil (fun r h => nomatch h)))))))))))))) (fun V107 le108 ow109 => ?_)
  refine U.done (nr rfl) ?_
  refine WP.usreg rfl ?_
  refine U.p (v := .pointer (some ⟨b66, 5, none⟩)) rfl rfl (.inl rfl) (S.fieldAddr rfl (L 15 rfl rfl) Try.underlying29 rfl ti27 rfl rfl) ?_
  refine U.k rfl rfl (.inl rfl) (S.load rfl (L 0 rfl rfl) Try.underlying27 rfl ((ow109.own (k := 0) rfl).cell rfl)) nd ?_
  have f110 := f65.up (((((((((((((le9.trans le14).trans le19).trans le24).trans le28).trans le44).trans le68).trans le72).trans le80).trans le89).trans le98).trans le102).trans le105).trans le108)
  obtain ⟨x111, hx112, h113⟩ := bindS h95
  refine O.call (V := V107) rfl rfl (.inl rfl) rfl en21 (aC (L 0 rfl rfl) aN) (wk_slices_Clone_2 V107 _ x53.args v64 f110 ow109 _ hx112) (fun _ _ _ _ => nd) (fun v114 V115 le116 hp117 => ?_)
  obtain ⟨_, rfl, ow118⟩ := hp117
  refine U.p (v := .pointer (some ⟨b66, 5, none⟩)) rfl rfl (.inl rfl) (S.fieldAddr rfl (L 18 rfl rfl) Try.underlying29 rfl ti27 rfl rfl) ?_
  refine O.store (k := 1) (cs := [v114]) (c' := [.int .i64 x53.op, .int .i64 x75, .int .i64 x84, .int .i64 x93, .int .i64 x53.imm, v114, .int .i64 x53.what, .bool x53.volatile, .bool x53.final]) ow118 rfl rfl rfl (.inl rfl) rfl (L 0 rfl rfl) (L 1 rfl rfl) ti27 (ow118.osne (k := 0) rfl) (by rw [ow118.oscells (k := 0) rfl]) rfl (nr rfl) (by have q0 := (ow118.osone (k := 0) rfl); simp only [List.all_cons, List.all_nil, q0]; rfl) rfl nd (fun V121 le122 ow123 => ?_)
  refine U.done (nr rfl) ?_
  refine WP.seq ?_
  refine WP.usreg rfl ?_
  refine U.p (v := .pointer (some ⟨b66, 5, none⟩)) rfl rfl (.inl rfl) (S.fieldAddr rfl (L 19 rfl rfl) Try.underlying29 rfl ti27 rfl rfl) ?_
  refine U.k rfl rfl (.inl rfl) (S.load rfl (L 0 rfl rfl) Try.underlying27 rfl ((ow123.own (k := 1) rfl).cell rfl)) nd ?_
  refine U.p rfl rfl (.inl rfl) (ow123.oslen (k := 0) rfl rfl (L 0 rfl rfl) Try.underlying27) ?_
  refine U.p rfl rfl (.inl rfl) (S.move rfl K) ?_
  refine U.done (nr rfl) ?_
  refine WP.blk ?_
  have ow126 := ow123.pick 0 rfl
  have ow127 := ow126.pick 1 rfl
  have ow128 := ow127.pick 5 rfl
  have ow129 := ow128.pick 5 rfl
  have ow130 := ow129.pick 5 rfl
  have ow131 := ow130.pick 5 rfl
  unfold regs_Rename_l2 at h113
  obtain ⟨n133, hn132⟩ := loopO_some.1 h113
  refine WP.loopI2 (fun n l V' => ∃ (xs124 : List Int) (x125 : Int), l = [(3, .pointer (some ⟨b12, 0, none⟩)), (4, .pointer (some ⟨b17, 0, none⟩)), (5, .pointer (some ⟨b22, 0, none⟩)), (7, .pointer (some ⟨b66, 0, none⟩)), (19, v1), (20, .int .i64 (p0.code.length : Int)), (21, .int .i64 x33), (45, v114), (46, .int .i64 (x111.length : Int)), (47, .int .i64 x125)] ∧ V121.le V' ∧ Ow V' (.pt b12 (.cells 0 [v3, .int .i64 p1.spill]) :: .pt b17 (.cells 4 [.string ByteArray.empty, .int .i64 0, .int .i64 0, .slice none 0 0]) :: .pt b22 (.cells 4 [.string p0.name, .int .i64 p0.params, .int .i64 (w64 (10 + p1.spill)), v31]) :: .os RT_TIns v31 xs32 :: .pt b66 (.cells 9 [.int .i64 x53.op, .int .i64 x75, .int .i64 x84, .int .i64 x93, .int .i64 x53.imm, v114, .int .i64 x53.what, .bool x53.volatile, .bool x53.final]) :: .os (RT.int .i64) v114 xs124 :: Rs) ∧ itO (fun s => regs_Rename_l2b p1 xs32 x33 x53 x75 x84 x93 x111 s.1 s.2) n (xs124, x125) = some q47) n133 _ ⟨x111, 0, rfl, .refl _, ow131, hn132⟩ (allCons (L 27 rfl rfl) (allCons (L 28 rfl rfl) (allCons (L 29 rfl rfl) (allCons (L 23 rfl rfl) (allCons (L 30 rfl rfl) (allCons (L 31 rfl rfl) (allCons (L 32 rfl rfl) (allCons (L 2 rfl rfl) (allCons (L 1 rfl rfl) (allCons (L 0 rfl rfl) allNil)))))))))) ?_
  rintro _ _ V134 ⟨xs124, x125, rfl, le135, ow136, h140⟩
  obtain ⟨m137, q138, rfl, h141, e139⟩ := itS h140
  replace h141 : regs_Rename_l2b p1 xs32 x33 x53 x75 x84 x93 x111 xs124 x125 = some q138 := h141
  unfold regs_Rename_l2b at h141
  refine WP.usreg rfl ?_
  refine U.p rfl rfl (.inl rfl) (S.lss rfl (L 9 rfl rfl) (L 8 rfl rfl)) ?_
  refine U.done (nr rfl) ?_
  refine WP.seq ?_
  refine WP.cond _ (L 0 rfl rfl) rfl (fun c142 => ?_) (fun c142 => ?_)
  ·have h143 := ifT c142 h141
   refine WP.skip ?_
   refine sqN ?_
   refine WP.seq ?_
   refine WP.blk ?_
   refine WP.usreg rfl ?_
   refine U.p rfl rfl (.inl rfl) (S.move rfl (L 10 rfl rfl)) ?_
   obtain ⟨x144, hx145, h146⟩ := bindS h143
   obtain ⟨b147, o148, n149, c150, hv151⟩ := ow136.ospt (k := 5) rfl hx145
   obtain ⟨_, hv152, _⟩ := ow136.osel (k := 5) rfl hv151 hx145
   refine U.p rfl rfl (.inl rfl) (S.index rfl ((L 9 rfl rfl).trans hv152) (L 11 rfl rfl) Try.underlying27 ti3 (ix_ge hx145) (ix_lt hx145)) ?_
   obtain ⟨cs153, hv154, hlt155, hr156, hc157⟩ := ow136.osel (k := 5) rfl hv151 hx145
   obtain rfl : cs153 = [.int .i64 x144] := hr156
   refine U.k rfl rfl (.inl rfl) (S.load rfl (L 0 rfl rfl) Try.underlying3 rfl (hc157 0 _ rfl)) nd ?_
   refine U.p rfl rfl (.inl rfl) (S.assign rfl (L 2 rfl rfl)) ?_
   refine U.p rfl rfl (.inl rfl) (S.assign rfl (L 1 rfl rfl)) ?_
   refine U.done (nr rfl) ?_
   refine WP.udreg rfl rfl rfl ?_
   refine U.p (v := .pointer (some ⟨b66, 5, none⟩)) rfl rfl (.inl rfl) (S.fieldAddr rfl (L 9 rfl rfl) Try.underlying29 rfl ti27 rfl rfl) ?_
   refine U.k rfl rfl (.inl rfl) (S.loadC rfl (L 0 rfl rfl) Try.underlying27 rfl ((ow136.own (k := 4) rfl).cell rfl)) (fun _ => (okH.nil (fun r h => by cases h; exact (ow136.own (k := 4) rfl).lt))) ?_
   refine U.p rfl rfl (.inl rfl) (S.move rfl (L 3 rfl rfl)) ?_
   refine U.k rfl rfl (.inl rfl) (S.loadB rfl (L 9 rfl rfl) Try.underlying31 rfl ti31 (ow136.own (k := 0) rfl).get rfl) (fun _ => (okH.cons trivial (okH.nil (fun r h => by cases h; exact (ow136.own (k := 0) rfl).lt)))) ?_
   refine U.p rfl rfl (.inl rfl) (S.move rfl (L 4 rfl rfl)) ?_
   have f158 := f92.up ((((((le98.trans le102).trans le105).trans le108).trans le116).trans le122).trans le135)
   obtain ⟨x159, hx160, h161⟩ := bindS h146
   refine O.call (V := V134) rfl rfl (.inl rfl) rfl en20 (aC (L 1 rfl rfl) (aC (L 0 rfl rfl) aN)) (wk_regs_Map_place V134 _ p1 x144 v3 f158 ow136 _ hx160) (fun v162 V163 le164 hp165 => by obtain ⟨rfl, ow166⟩ := hp165; exact (fun _ => (okH.cons (Or.inl rfl) (okH.cons (Or.inr ((lookC ((ow166.own (k := 4) rfl).cell rfl) ((ow136.own (k := 4) rfl).cell rfl)))) (okH.nil (fun r h => nomatch h)))))) (fun v162 V163 le164 hp165 => ?_)
   obtain ⟨rfl, ow166⟩ := hp165
   obtain ⟨x167, hx168, h169⟩ := bindS h161
   obtain ⟨_, hv170, _⟩ := ow166.osel (k := 5) rfl hv151 hx168
   refine U.p rfl rfl (.inl rfl) (S.index rfl ((L 4 rfl rfl).trans hv170) (L 3 rfl rfl) Try.underlying27 ti3 (ix_ge hx168) (ix_lt hx168)) ?_
   obtain ⟨cs171, hv172, hlt173, hr174, hc175⟩ := ow166.osel (k := 5) rfl hv151 hx168
   obtain rfl : cs171 = [.int .i64 x167] := hr174
   refine O.storeE (k := 5) (R := (RT.int .i64)) (j := 0) (y := x159) (cs := [.int .i64 x159]) ow166 rfl hv172 rfl rfl (.inl rfl) rfl (L 0 rfl rfl) (L 1 rfl rfl) ti3 hx168 (by simp [topV]) rfl rfl rfl (full rfl) (fun H1 hs => (fun _ => (okH.cons rfl (okH.cons (Or.inl rfl) (okH.cons (Or.inl rfl) (okH.nil (fun r h => nomatch h))))))) (fun V176 le177 ow178 => ?_)
   refine U.done (nr rfl) ?_
   refine blkN (sqN ?_)
   refine WP.ureg rfl ?_
   refine U.p rfl rfl (.inl rfl) (S.add rfl (L 22 rfl rfl) K) ?_
   refine U.p rfl rfl (.inl rfl) (S.move rfl (L 0 rfl rfl)) ?_
   refine U.done (nr rfl) ?_
   refine sqN ?_
   exact ⟨_, V176, rfl, ⟨m137, Nat.lt_succ_self _, xs124.set (Int.toNat x125) x159, w64 (x125 + 1), rfl, ((le135.trans le164).trans le177), ow178, backS h169 e139⟩, (allCons (L 15 rfl rfl) (allCons (L 16 rfl rfl) (allCons (L 17 rfl rfl) (allCons (L 18 rfl rfl) (allCons (L 19 rfl rfl) (allCons (L 20 rfl rfl) (allCons (L 21 rfl rfl) (allCons (L 22 rfl rfl) (allCons (L 23 rfl rfl) (allCons (L 0 rfl rfl) allNil))))))))))⟩
  ·have h179 := ifF c142 h141
   refine WP.exit ?_
   refine sqE (sqE (blkE (sqN ?_)))
   have h180 := exitS h179 e139
   refine WP.ureg rfl ?_
   refine U.p (v := .pointer (some ⟨b22, 3, none⟩)) rfl rfl (.inl rfl) (S.fieldAddr rfl (L 3 rfl rfl) Try.underlying24 rfl ti22 rfl rfl) ?_
   refine U.k rfl rfl (.inl rfl) (S.load rfl (L 0 rfl rfl) Try.underlying22 rfl ((ow136.own (k := 2) rfl).cell rfl)) nd ?_
   refine U.k rfl rfl (.inl rfl) (S.loadB rfl (L 6 rfl rfl) Try.underlying29 rfl ti29 (ow136.own (k := 4) rfl).get rfl) nd ?_
   obtain ⟨V181, eV185, le182, f183, ow184⟩ := ow136.osfz (k := 5) rfl
   rw [← eV185]
   refine O.lit (R := RT_TIns) ow184 rfl rfl (.inl rfl) rfl Try.underlying22 ti29 rfl rfl rfl (nr rfl) rfl (aC (L 0 rfl rfl) aN) (.cons _ _ (⟨x53.op, x75, x84, x93, x53.imm, xs124, x53.what, x53.volatile, x53.final⟩ : TIns) _ (by simp [topV]) ⟨_, rfl, f183⟩ .nil) (fun _ => nd) (fun v187 V188 le189 ow190 => ?_)
   obtain ⟨xs192, hx193, h194⟩ := bindS h180
   refine O.append (k := 4) ow190 rfl rfl rfl (.inl rfl) rfl (L 2 rfl rfl) (L 0 rfl rfl) Try.underlying22 ti29 rfl rfl (nr rfl) (ow190.src (k := 0) rfl Try.underlying22) hx193 (fun _ _ => nd) (fun v195 V196 le197 ow198 => ?_)
   refine U.p (v := .pointer (some ⟨b22, 3, none⟩)) rfl rfl (.inl rfl) (S.fieldAddr rfl (L 8 rfl rfl) Try.underlying24 rfl ti22 rfl rfl) ?_
   refine O.store (k := 3) (cs := [v195]) (c' := [.string p0.name, .int .i64 p0.params, .int .i64 (w64 (10 + p1.spill)), v195]) ow198 rfl rfl rfl (.inl rfl) rfl (L 0 rfl rfl) (L 1 rfl rfl) ti22 (ow198.osne (k := 4) rfl) (by rw [ow198.oscells (k := 4) rfl]) rfl (nr rfl) (by have q0 := (ow198.osone (k := 4) rfl); simp only [List.all_cons, List.all_nil, q0]; rfl) rfl nd (fun V200 le201 ow202 => ?_)
   refine U.done (nr rfl) ?_
   refine blkN (sqN ?_)
   refine WP.ureg rfl ?_
   refine U.p rfl rfl (.inl rfl) (S.add rfl (L 13 rfl rfl) K) ?_
   refine U.p rfl rfl (.inl rfl) (S.move rfl (L 0 rfl rfl)) ?_
   refine U.done (nr rfl) ?_
   refine sqN ?_
   have ow203 := ow202.drop 0 rfl
   have ow204 := ow203.drop 4 rfl
   exact ⟨_, V200, rfl, ⟨m46, Nat.lt_succ_self _, v195, xs192, w64 (x33 + 1), rfl, (((((((((((((((le44.trans le68).trans le72).trans le80).trans le89).trans le98).trans le102).trans le105).trans le108).trans le116).trans le122).trans le135).trans le182).trans le189).trans le197).trans le201), ow204, backS h194 e48⟩, (allCons (L 9 rfl rfl) (allCons (L 10 rfl rfl) (allCons (L 11 rfl rfl) (allCons (L 13 rfl rfl) (allCons (L 14 rfl rfl) (allCons (L 0 rfl rfl) allNil))))))⟩
 ·have h205 := ifF c51 h50
  refine WP.exit ?_
  refine sqE (sqE (blkE (sqN ?_)))
  have h206 := exitS h205 e48
  refine WP.usreg rfl ?_
  refine U.k rfl rfl (.inl rfl) (S.loadB rfl (L 3 rfl rfl) Try.underlying24 rfl ti24 (ow45.own (k := 2) rfl).get rfl) nd ?_
  refine O.store (k := 1) (cs := [.string p0.name, .int .i64 p0.params, .int .i64 (w64 (10 + p1.spill)), v31]) (c' := [.string p0.name, .int .i64 p0.params, .int .i64 (w64 (10 + p1.spill)), v31]) ow45 rfl rfl rfl (.inl rfl) rfl (L 3 rfl rfl) (L 0 rfl rfl) ti24 (by simp [topV]) rfl rfl (nr rfl) (by have q0 := (ow45.osone (k := 3) rfl); simp only [List.all_cons, List.all_nil, q0]; rfl) rfl nd (fun V207 le208 ow209 => ?_)
  refine U.done (nr rfl) ?_
  refine WP.ret ?_
  obtain ⟨V210, eV214, le211, f212, ow213⟩ := ow209.osfz (k := 3) rfl
  rw [← eV214]
  refine fin.cellN (.inr rfl) rfl (L 3 rfl rfl) Try.underlying24 rfl ti24 (ow213.own (k := 1) rfl).get rfl ⟨V210, rfl, (((((((le9.trans le14).trans le19).trans le24).trans le28).trans le44).trans le208).trans le211), ?_⟩
  have ow216 := ow213.drop 0 rfl
  have ow217 := ow216.drop 0 rfl
  have ow218 := ow217.drop 0 rfl
  have e219 := Option.some.inj h206
  subst e219
  exact ⟨v31, rfl, f212, ow218⟩
theorem wk_ref13_put (V : Vw) (Rs : List At) (p0 : List Int) (p1 : Int) (v1 : Value) (f2 : Fz (RT.int .i64) V v1 p0) (ow : Ow V (Rs)) (r : Int) (h : ref13_put p0 p1 = some r) : ∃ v V', Cl Try.prog 0 22 #[v1, .int .i64 p1] V.H v V'.H ∧ V.le V' ∧ (v = .int .i64 r ∧ Ow V' (Rs)) := by
 refine Ct.of (Nat.zero_le _) Try.func22 rfl (nr rfl) ?_
 unfold ref13_put at h
 refine WP.usreg rfl ?_
 refine U.p rfl rfl (.inl rfl) (S.assign rfl K) ?_
 refine U.done (nr rfl) ?_
 refine WP.seq ?_
 refine WP.usreg rfl ?_
 refine U.p rfl rfl (.inl rfl) (S.move rfl (L 2 rfl rfl)) ?_
 refine U.p rfl rfl (.inl rfl) (S.lss rfl (L 0 rfl rfl) K) ?_
 refine U.p rfl rfl (.inl rfl) (S.move rfl (L 0 rfl rfl)) ?_
 refine U.joinX 8 (fun e H => ∃ (u3 u4 u5 u6 : Value), H = V.H ∧ e = [(12, .bool ((decide (p1 < 0)) || (decide ((p0.length : Int) ≤ p1)))), (11, u3), (10, u4), (9, u5), (8, u6)]) ?_ ?_
 ·rintro _ _ ⟨u3, u4, u5, u6, rfl, rfl⟩
  refine U.done (nr rfl) ?_
  refine WP.cond _ (L 0 rfl rfl) rfl (fun c10 => ?_) (fun c10 => ?_)
  ·have h11 := ifT c10 h
   refine WP.usreg rfl ?_
   refine U.p rfl rfl (.inl rfl) (S.move rfl (L 10 rfl rfl)) ?_
   refine U.p rfl rfl (.inl rfl) (S.assign rfl (L 0 rfl rfl)) ?_
   refine U.done (nr rfl) ?_
   refine WP.ret ?_
   refine sqR ?_
   refine fin.slot (.inr rfl) rfl (L 0 rfl rfl) ⟨V, rfl, (.refl _), ?_⟩
   have e12 := Option.some.inj h11
   subst e12
   exact ⟨rfl, ow⟩
  ·have h13 := ifF c10 h
   refine WP.skip ?_
   refine sqN ?_
   refine WP.usreg rfl ?_
   refine U.p rfl rfl (.inl rfl) (S.move rfl (L 9 rfl rfl)) ?_
   refine U.p rfl rfl (.inl rfl) (S.move rfl (L 11 rfl rfl)) ?_
   obtain ⟨x14, hx15, h16⟩ := bindS h13
   obtain ⟨b17, o18, c19, cs20, hv21, hf22, hr23, hc24⟩ := f2.at hx15
   obtain rfl : cs20 = [.int .i64 x14] := hr23
   refine U.p rfl rfl (.inl rfl) (S.index rfl ((L 1 rfl rfl).trans hv21) (L 0 rfl rfl) Try.underlying27 ti3 (ix_ge hx15) (ix_lt hx15)) ?_
   refine U.k rfl rfl (.inl rfl) (S.load rfl (L 0 rfl rfl) Try.underlying3 rfl (hc24 0 _ rfl)) nd ?_
   refine U.p rfl rfl (.inl rfl) (S.assign rfl (L 0 rfl rfl)) ?_
   refine U.done (nr rfl) ?_
   refine WP.ret ?_
   refine fin.slot (.inr rfl) rfl (L 0 rfl rfl) ⟨V, rfl, (.refl _), ?_⟩
   have e25 := Option.some.inj h16
   subst e25
   exact ⟨rfl, ow⟩
 ·intro kk
  refine bcase (b := decide (p1 < 0)) (fun g26 => ?_) (fun g26 => ?_)
  ·skip
   refine U.x rfl rfl rfl rfl ((L 0 rfl rfl).trans (cB g26)) (by decide) ?_
   refine U.x rfl rfl rfl rfl ((L 1 rfl rfl).trans (cB g26)) (by decide) ?_
   refine U.x rfl rfl rfl rfl ((L 2 rfl rfl).trans (cB g26)) (by decide) ?_
   refine U.x rfl rfl rfl rfl ((L 3 rfl rfl).trans (cB g26)) (by decide) ?_
   refine U.p rfl rfl (.inl rfl) (S.pickT rfl ((L 4 rfl rfl).trans (cB g26)) K) ?_
   exact kk [(12, .bool true), (11, .tuple #[]), (10, .tuple #[]), (9, .tuple #[]), (8, .tuple #[])] _ ⟨.tuple #[], .tuple #[], .tuple #[], .tuple #[], rfl, (by rw [g26, Bool.true_or])⟩
  ·skip
   refine U.p rfl rfl (.inr ⟨_, _, _, rfl, rfl, ((L 0 rfl rfl).trans (cB g26))⟩) (S.move rfl (L 5 rfl rfl)) ?_
   refine U.p rfl rfl (.inr ⟨_, _, _, rfl, rfl, ((L 1 rfl rfl).trans (cB g26))⟩) (S.move rfl (L 5 rfl rfl)) ?_
   refine U.p rfl rfl (.inr ⟨_, _, _, rfl, rfl, ((L 2 rfl rfl).trans (cB g26))⟩) (f2.1.len rfl (L 0 rfl rfl) Try.underlying27) ?_
   refine U.p rfl rfl (.inr ⟨_, _, _, rfl, rfl, ((L 3 rfl rfl).trans (cB g26))⟩) (S.geq rfl (L 2 rfl rfl) (L 0 rfl rfl)) ?_
   refine U.p rfl rfl (.inl rfl) (S.pickF rfl ((L 4 rfl rfl).trans (cB g26)) (L 0 rfl rfl)) ?_
   exact kk [(12, .bool (decide ((p0.length : Int) ≤ p1))), (11, .bool (decide ((p0.length : Int) ≤ p1))), (10, .int .i64 (p0.length : Int)), (9, v1), (8, .int .i64 p1)] _ ⟨.bool (decide ((p0.length : Int) ≤ p1)), .int .i64 (p0.length : Int), v1, .int .i64 p1, rfl, (by rw [g26, Bool.false_or])⟩
theorem wk_ref13_Code (V : Vw) (Rs : List At) (p0 : TFunc) (p1 : List Int) (v1 : Value) (v3 : Value) (f2 : Fz RT_TIns V v1 p0.code) (f4 : Fz (RT.int .i64) V v3 p1) (ow : Ow V (Rs)) (r : List TIns) (h : ref13_Code p0 p1 = some r) : ∃ v V', Cl Try.prog 0 12 #[.agg #[.string p0.name, .int .i64 p0.params, .int .i64 p0.regs, v1], v3] V.H v V'.H ∧ V.le V' ∧ (∃ (v5 : Value), v = v5 ∧ Ow V' (.os RT_TIns v5 r :: Rs)) := by
 refine Ct.of (Nat.zero_le _) Try.func12 rfl (nr rfl) ?_
 unfold ref13_Code at h
 refine WP.usreg rfl ?_
 refine O.box ow rfl rfl (.inl rfl) rfl (L 0 rfl rfl) (by simp [topV]) rfl nd (fun b7 V8 le9 ow10 => ?_)
 refine U.p rfl rfl (.inl rfl) (S.assign rfl K) ?_
 refine U.done (nr rfl) ?_
 refine WP.usreg rfl ?_
 refine U.p rfl rfl (.inl rfl) (S.assign rfl K) ?_
 refine U.done (nr rfl) ?_
 refine WP.seq ?_
 refine WP.usreg rfl ?_
 refine U.p (v := .pointer (some ⟨b7, 3, none⟩)) rfl rfl (.inl rfl) (S.fieldAddr rfl (L 2 rfl rfl) Try.underlying24 rfl ti22 rfl rfl) ?_
 refine U.k rfl rfl (.inl rfl) (S.load rfl (L 0 rfl rfl) Try.underlying22 rfl ((ow10.own (k := 0) rfl).cell rfl)) nd ?_
 refine U.p rfl rfl (.inl rfl) (f2.1.len rfl (L 0 rfl rfl) Try.underlying22) ?_
 refine U.p rfl rfl (.inl rfl) (S.move rfl K) ?_
 refine U.done (nr rfl) ?_
 refine WP.blk ?_
 have ow16 := ow10.nil RT_TIns
 have ow18 := ow16.drop 1 rfl
 unfold ref13_Code_l1 at h
 obtain ⟨n20, hn19⟩ := loopO_some.1 h
 refine WP.loopI2 (fun n l V' => ∃ (v13 : Value) (xs14 : List TIns) (x15 : Int), l = [(1, v3), (5, v13), (12, v1), (13, .int .i64 (p0.code.length : Int)), (14, .int .i64 x15)] ∧ V8.le V' ∧ Ow V' (.os RT_TIns v13 xs14 :: Rs) ∧ itO (fun s => ref13_Code_l1b p0 p1 s.1 s.2) n (xs14, x15) = some r) n20 _ ⟨(.slice none 0 0), [], 0, rfl, .refl _, ow18, hn19⟩ (allCons (L 8 rfl rfl) (allCons (L 4 rfl rfl) (allCons (L 2 rfl rfl) (allCons (L 1 rfl rfl) (allCons (L 0 rfl rfl) allNil))))) ?_
 rintro _ _ V21 ⟨v13, xs14, x15, rfl, le22, ow23, h27⟩
 obtain ⟨m24, q25, rfl, h28, e26⟩ := itS h27
 replace h28 : ref13_Code_l1b p0 p1 xs14 x15 = some q25 := h28
 unfold ref13_Code_l1b at h28
 refine WP.usreg rfl ?_
 refine U.p rfl rfl (.inl rfl) (S.lss rfl (L 4 rfl rfl) (L 3 rfl rfl)) ?_
 refine U.done (nr rfl) ?_
 refine WP.seq ?_
 refine WP.cond _ (L 0 rfl rfl) rfl (fun c29 => ?_) (fun c29 => ?_)
 ·have h30 := ifT c29 h28
  refine WP.skip ?_
  refine sqN ?_
  refine WP.seq ?_
  refine WP.blk ?_
  refine WP.usreg rfl ?_
  obtain ⟨x31, hx32, h33⟩ := bindS h30
  obtain ⟨b34, o35, c36, cs37, hv38, hf39, hr40, hc41⟩ := f2.at hx32
  obtain ⟨v42, rfl, f43⟩ := hr40
  refine U.p rfl rfl (.inl rfl) (S.index rfl ((L 3 rfl rfl).trans hv38) (L 5 rfl rfl) Try.underlying22 ti29 (ix_ge hx32) (ix_lt hx32)) ?_
  refine U.k rfl rfl (.inl rfl) (S.loadN (cs := [.int .i64 x31.op, .int .i64 x31.d, .int .i64 x31.a, .int .i64 x31.b, .int .i64 x31.imm, v42, .int .i64 x31.what, .bool x31.volatile, .bool x31.final]) rfl (L 0 rfl rfl) Try.underlying29 rfl ti29 rfl (fun j v hj => (le9.trans le22).cell hf39 (hc41 j v hj))) nd ?_
  refine O.alloc ow23 rfl rfl (.inl rfl) rfl ti29 rfl rfl nd (fun b44 V45 le46 ow47 => ?_)
  refine O.store (k := 0) (cs := [.int .i64 x31.op, .int .i64 x31.d, .int .i64 x31.a, .int .i64 x31.b, .int .i64 x31.imm, v42, .int .i64 x31.what, .bool x31.volatile, .bool x31.final]) (c' := [.int .i64 x31.op, .int .i64 x31.d, .int .i64 x31.a, .int .i64 x31.b, .int .i64 x31.imm, v42, .int .i64 x31.what, .bool x31.volatile, .bool x31.final]) ow47 rfl rfl rfl (.inl rfl) rfl (L 0 rfl rfl) (L 1 rfl rfl) ti29 (by simp [topV]) rfl rfl (nr rfl) (by have q0 := f43.one; simp only [List.all_cons, List.all_nil, q0]; rfl) rfl nd (fun V49 le50 ow51 => ?_)
  refine U.done (nr rfl) ?_
  refine WP.usreg rfl ?_
  refine U.k rfl rfl (.inl rfl) (S.loadB rfl (L 0 rfl rfl) Try.underlying29 rfl ti29 (ow51.own (k := 0) rfl).get rfl) nd ?_
  refine O.alloc ow51 rfl rfl (.inl rfl) rfl ti29 rfl rfl nd (fun b52 V53 le54 ow55 => ?_)
  refine O.store (k := 0) (cs := [.int .i64 x31.op, .int .i64 x31.d, .int .i64 x31.a, .int .i64 x31.b, .int .i64 x31.imm, v42, .int .i64 x31.what, .bool x31.volatile, .bool x31.final]) (c' := [.int .i64 x31.op, .int .i64 x31.d, .int .i64 x31.a, .int .i64 x31.b, .int .i64 x31.imm, v42, .int .i64 x31.what, .bool x31.volatile, .bool x31.final]) ow55 rfl rfl rfl (.inl rfl) rfl (L 0 rfl rfl) (L 1 rfl rfl) ti29 (by simp [topV]) rfl rfl (nr rfl) (by have q0 := f43.one; simp only [List.all_cons, List.all_nil, q0]; rfl) rfl nd (fun V57 le58 ow59 => ?_)
  refine U.done (nr rfl) ?_
  refine WP.usreg rfl ?_
  refine U.p rfl rfl (.inl rfl) (S.move rfl (L 6 rfl rfl)) ?_
  refine U.p (v := .pointer (some ⟨b44, 1, none⟩)) rfl rfl (.inl rfl) (S.fieldAddr rfl (L 3 rfl rfl) Try.underlying29 rfl ti3 rfl rfl) ?_
  refine U.k rfl rfl (.inl rfl) (S.load rfl (L 0 rfl rfl) Try.underlying3 rfl ((ow59.own (k := 1) rfl).cell rfl)) nd ?_
  have f60 := f4.up (((((le9.trans le22).trans le46).trans le50).trans le54).trans le58)
  obtain ⟨x61, hx62, h63⟩ := bindS h33
  refine O.call (V := V57) rfl rfl (.inl rfl) rfl en22 (aC (L 2 rfl rfl) (aC (L 0 rfl rfl) aN)) (wk_ref13_put V57 _ p1 x31.d v3 f60 ow59 _ hx62) (fun _ _ _ _ => nd) (fun v64 V65 le66 hp67 => ?_)
  obtain ⟨rfl, ow68⟩ := hp67
  refine U.p (v := .pointer (some ⟨b52, 1, none⟩)) rfl rfl (.inl rfl) (S.fieldAddr rfl (L 4 rfl rfl) Try.underlying29 rfl ti3 rfl rfl) ?_
  refine O.store (k := 0) (cs := [.int .i64 x61]) (c' := [.int .i64 x31.op, .int .i64 x61, .int .i64 x31.a, .int .i64 x31.b, .int .i64 x31.imm, v42, .int .i64 x31.what, .bool x31.volatile, .bool x31.final]) ow68 rfl rfl rfl (.inl rfl) rfl (L 0 rfl rfl) (L 1 rfl rfl) ti3 (by simp [topV]) rfl rfl (nr rfl) rfl rfl nd (fun V69 le70 ow71 => ?_)
  refine U.done (nr rfl) ?_
  refine WP.usreg rfl ?_
  refine U.p rfl rfl (.inl rfl) (S.move rfl (L 11 rfl rfl)) ?_
  refine U.p (v := .pointer (some ⟨b44, 2, none⟩)) rfl rfl (.inl rfl) (S.fieldAddr rfl (L 8 rfl rfl) Try.underlying29 rfl ti3 rfl rfl) ?_
  refine U.k rfl rfl (.inl rfl) (S.load rfl (L 0 rfl rfl) Try.underlying3 rfl ((ow71.own (k := 1) rfl).cell rfl)) nd ?_
  have f72 := f60.up (le66.trans le70)
  obtain ⟨x73, hx74, h75⟩ := bindS h63
  refine O.call (V := V69) rfl rfl (.inl rfl) rfl en22 (aC (L 2 rfl rfl) (aC (L 0 rfl rfl) aN)) (wk_ref13_put V69 _ p1 x31.a v3 f72 ow71 _ hx74) (fun _ _ _ _ => nd) (fun v76 V77 le78 hp79 => ?_)
  obtain ⟨rfl, ow80⟩ := hp79
  refine U.p (v := .pointer (some ⟨b52, 2, none⟩)) rfl rfl (.inl rfl) (S.fieldAddr rfl (L 9 rfl rfl) Try.underlying29 rfl ti3 rfl rfl) ?_
  refine O.store (k := 0) (cs := [.int .i64 x73]) (c' := [.int .i64 x31.op, .int .i64 x61, .int .i64 x73, .int .i64 x31.b, .int .i64 x31.imm, v42, .int .i64 x31.what, .bool x31.volatile, .bool x31.final]) ow80 rfl rfl rfl (.inl rfl) rfl (L 0 rfl rfl) (L 1 rfl rfl) ti3 (by simp [topV]) rfl rfl (nr rfl) rfl rfl nd (fun V81 le82 ow83 => ?_)
  refine U.done (nr rfl) ?_
  refine WP.usreg rfl ?_
  refine U.p rfl rfl (.inl rfl) (S.move rfl (L 16 rfl rfl)) ?_
  refine U.p (v := .pointer (some ⟨b44, 3, none⟩)) rfl rfl (.inl rfl) (S.fieldAddr rfl (L 13 rfl rfl) Try.underlying29 rfl ti3 rfl rfl) ?_
  refine U.k rfl rfl (.inl rfl) (S.load rfl (L 0 rfl rfl) Try.underlying3 rfl ((ow83.own (k := 1) rfl).cell rfl)) nd ?_
  have f84 := f72.up (le78.trans le82)
  obtain ⟨x85, hx86, h87⟩ := bindS h75
  refine O.call (V := V81) rfl rfl (.inl rfl) rfl en22 (aC (L 2 rfl rfl) (aC (L 0 rfl rfl) aN)) (wk_ref13_put V81 _ p1 x31.b v3 f84 ow83 _ hx86) (fun _ _ _ _ => nd) (fun v88 V89 le90 hp91 => ?_)
  obtain ⟨rfl, ow92⟩ := hp91
  refine U.p (v := .pointer (some ⟨b52, 3, none⟩)) rfl rfl (.inl rfl) (S.fieldAddr rfl (L 14 rfl rfl) Try.underlying29 rfl ti3 rfl rfl) ?_
  refine O.store (k := 0) (cs := [.int .i64 x85]) (c' := [.int .i64 x31.op, .int .i64 x61, .int .i64 x73, .int .i64 x85, .int .i64 x31.imm, v42, .int .i64 x31.what, .bool x31.volatile, .bool x31.final]) ow92 rfl rfl rfl (.inl rfl) rfl (L 0 rfl rfl) (L 1 rfl rfl) ti3 (by simp [topV]) rfl rfl (nr rfl) rfl rfl nd (fun V93 le94 ow95 => ?_)
  refine U.done (nr rfl) ?_
  refine WP.usreg rfl ?_
  refine U.p (v := .pointer (some ⟨b52, 5, none⟩)) rfl rfl (.inl rfl) (S.fieldAddr rfl (L 15 rfl rfl) Try.underlying29 rfl ti27 rfl rfl) ?_
  refine O.store (k := 0) (cs := [.slice none 0 0]) (c' := [.int .i64 x31.op, .int .i64 x61, .int .i64 x73, .int .i64 x85, .int .i64 x31.imm, .slice none 0 0, .int .i64 x31.what, .bool x31.volatile, .bool x31.final]) ow95 rfl rfl rfl (.inl rfl) rfl (L 0 rfl rfl) K ti27 (by simp [topV]) rfl rfl (nr rfl) rfl rfl nd (fun V96 le97 ow98 => ?_)
  refine U.done (nr rfl) ?_
  refine WP.seq ?_
  refine WP.usreg rfl ?_
  refine U.p (v := .pointer (some ⟨b44, 5, none⟩)) rfl rfl (.inl rfl) (S.fieldAddr rfl (L 18 rfl rfl) Try.underlying29 rfl ti27 rfl rfl) ?_
  refine U.k rfl rfl (.inl rfl) (S.load rfl (L 0 rfl rfl) Try.underlying27 rfl ((ow98.own (k := 1) rfl).cell rfl)) nd ?_
  refine U.p rfl rfl (.inl rfl) (f43.1.len rfl (L 0 rfl rfl) Try.underlying27) ?_
  refine U.p rfl rfl (.inl rfl) (S.move rfl K) ?_
  refine U.done (nr rfl) ?_
  refine WP.blk ?_
  have ow103 := ow98.nil (RT.int .i64)
  have ow105 := ow103.drop 2 rfl
  have ow106 := ow105.pick 0 rfl
  have ow107 := ow106.pick 1 rfl
  have ow108 := ow107.pick 2 rfl
  unfold ref13_Code_l2 at h87
  obtain ⟨n110, hn109⟩ := loopO_some.1 h87
  refine WP.loopI2 (fun n l V' => ∃ (v100 : Value) (xs101 : List Int) (x102 : Int), l = [(1, v3), (5, v13), (8, .pointer (some ⟨b52, 0, none⟩)), (12, v1), (13, .int .i64 (p0.code.length : Int)), (14, .int .i64 x15), (36, v42), (37, .int .i64 (x31.args.length : Int)), (38, .int .i64 x102)] ∧ V96.le V' ∧ Ow V' (.os RT_TIns v13 xs14 :: .pt b52 (.cells 9 [.int .i64 x31.op, .int .i64 x61, .int .i64 x73, .int .i64 x85, .int .i64 x31.imm, v100, .int .i64 x31.what, .bool x31.volatile, .bool x31.final]) :: .os (RT.int .i64) v100 xs101 :: Rs) ∧ itO (fun s => ref13_Code_l2b p1 xs14 x15 x31 x61 x73 x85 s.1 s.2) n (xs101, x102) = some q25) n110 _ ⟨(.slice none 0 0), [], 0, rfl, .refl _, ow108, hn109⟩ (allCons (L 26 rfl rfl) (allCons (L 27 rfl rfl) (allCons (L 20 rfl rfl) (allCons (L 28 rfl rfl) (allCons (L 29 rfl rfl) (allCons (L 30 rfl rfl) (allCons (L 2 rfl rfl) (allCons (L 1 rfl rfl) (allCons (L 0 rfl rfl) allNil))))))))) ?_
  rintro _ _ V111 ⟨v100, xs101, x102, rfl, le112, ow113, h117⟩
  obtain ⟨m114, q115, rfl, h118, e116⟩ := itS h117
  replace h118 : ref13_Code_l2b p1 xs14 x15 x31 x61 x73 x85 xs101 x102 = some q115 := h118
  unfold ref13_Code_l2b at h118
  refine WP.usreg rfl ?_
  refine U.p rfl rfl (.inl rfl) (S.lss rfl (L 8 rfl rfl) (L 7 rfl rfl)) ?_
  refine U.done (nr rfl) ?_
  refine WP.seq ?_
  refine WP.cond _ (L 0 rfl rfl) rfl (fun c119 => ?_) (fun c119 => ?_)
  ·have h120 := ifT c119 h118
   refine WP.skip ?_
   refine sqN ?_
   refine WP.seq ?_
   refine WP.blk ?_
   refine WP.usreg rfl ?_
   obtain ⟨x121, hx122, h123⟩ := bindS h120
   obtain ⟨b124, o125, c126, cs127, hv128, hf129, hr130, hc131⟩ := f43.at hx122
   obtain rfl : cs127 = [.int .i64 x121] := hr130
   refine U.p rfl rfl (.inl rfl) (S.index rfl ((L 7 rfl rfl).trans hv128) (L 9 rfl rfl) Try.underlying27 ti3 (ix_ge hx122) (ix_lt hx122)) ?_
   refine U.k rfl rfl (.inl rfl) (S.load rfl (L 0 rfl rfl) Try.underlying3 rfl ((((((((((((((le9.trans le22).trans le46).trans le50).trans le54).trans le58).trans le66).trans le70).trans le78).trans le82).trans le90).trans le94).trans le97).trans le112).cell hf129 (hc131 0 _ rfl))) nd ?_
   refine U.p rfl rfl (.inl rfl) (S.assign rfl (L 0 rfl rfl)) ?_
   refine U.done (nr rfl) ?_
   refine WP.udreg rfl rfl rfl ?_
   refine U.p (v := .pointer (some ⟨b52, 5, none⟩)) rfl rfl (.inl rfl) (S.fieldAddr rfl (L 6 rfl rfl) Try.underlying29 rfl ti27 rfl rfl) ?_
   refine U.k rfl rfl (.inl rfl) (S.loadC rfl (L 0 rfl rfl) Try.underlying27 rfl ((ow113.own (k := 1) rfl).cell rfl)) (fun _ => (okH.nil (fun r h => by cases h; exact (ow113.own (k := 1) rfl).lt))) ?_
   refine U.p rfl rfl (.inl rfl) (S.move rfl (L 6 rfl rfl)) ?_
   refine U.p rfl rfl (.inl rfl) (S.move rfl (L 3 rfl rfl)) ?_
   have f132 := f84.up (((le90.trans le94).trans le97).trans le112)
   obtain ⟨x133, hx134, h135⟩ := bindS h123
   refine O.call (V := V111) rfl rfl (.inl rfl) rfl en22 (aC (L 1 rfl rfl) (aC (L 0 rfl rfl) aN)) (wk_ref13_put V111 _ p1 x121 v3 f132 ow113 _ hx134) (fun v136 V137 le138 hp139 => by obtain ⟨rfl, ow140⟩ := hp139; exact (fun _ => (okH.cons (Or.inr ((lookC ((ow140.own (k := 1) rfl).cell rfl) ((ow113.own (k := 1) rfl).cell rfl)))) (okH.nil (fun r h => nomatch h))))) (fun v136 V137 le138 hp139 => ?_)
   obtain ⟨rfl, ow140⟩ := hp139
   refine O.lit (R := (RT.int .i64)) ow140 rfl rfl (.inl rfl) rfl Try.underlying27 ti3 rfl rfl rfl (nr rfl) rfl (aC (L 0 rfl rfl) aN) (.cons _ _ x133 _ (by simp [topV]) rfl .nil) (fun _ => (fun _ => (okH.cons trivial (okH.cons trivial (okH.nil (fun r h => nomatch h)))))) (fun v141 V142 le143 ow144 => ?_)
   obtain ⟨xs146, hx147, h148⟩ := bindS h135
   refine O.append (k := 3) ow144 rfl rfl rfl (.inl rfl) rfl (L 4 rfl rfl) (L 0 rfl rfl) Try.underlying27 ti3 rfl rfl (nr rfl) (ow144.src (k := 0) rfl Try.underlying27) hx147 (fun V1 hs => (fun _ => (okH.cons (Or.inl rfl) (okH.cons rfl (okH.cons (Or.inl rfl) (okH.nil (fun r h => nomatch h))))))) (fun v149 V150 le151 ow152 => ?_)
   refine U.p (v := .pointer (some ⟨b52, 5, none⟩)) rfl rfl (.inl rfl) (S.fieldAddr rfl (L 13 rfl rfl) Try.underlying29 rfl ti27 rfl rfl) ?_
   refine O.store (k := 2) (cs := [v149]) (c' := [.int .i64 x31.op, .int .i64 x61, .int .i64 x73, .int .i64 x85, .int .i64 x31.imm, v149, .int .i64 x31.what, .bool x31.volatile, .bool x31.final]) ow152 rfl rfl rfl (.inl rfl) rfl (L 0 rfl rfl) (L 1 rfl rfl) ti27 (ow152.osne (k := 3) rfl) (by rw [ow152.oscells (k := 3) rfl]) rfl (nr rfl) (by have q0 := (ow152.osone (k := 3) rfl); simp only [List.all_cons, List.all_nil, q0]; rfl) rfl (fun _ => (okH.cons rfl (okH.cons (Or.inl rfl) (okH.cons rfl (okH.cons (Or.inl rfl) (okH.nil (fun r h => nomatch h))))))) (fun V154 le155 ow156 => ?_)
   refine U.done (nr rfl) ?_
   refine blkN (sqN ?_)
   refine WP.ureg rfl ?_
   refine U.p rfl rfl (.inl rfl) (S.add rfl (L 20 rfl rfl) K) ?_
   refine U.p rfl rfl (.inl rfl) (S.move rfl (L 0 rfl rfl)) ?_
   refine U.done (nr rfl) ?_
   refine sqN ?_
   have ow157 := ow156.drop 0 rfl
   exact ⟨_, V154, rfl, ⟨m114, Nat.lt_succ_self _, v149, xs146, w64 (x102 + 1), rfl, ((((le112.trans le138).trans le143).trans le151).trans le155), ow157, backS h148 e116⟩, (allCons (L 14 rfl rfl) (allCons (L 15 rfl rfl) (allCons (L 16 rfl rfl) (allCons (L 17 rfl rfl) (allCons (L 18 rfl rfl) (allCons (L 19 rfl rfl) (allCons (L 20 rfl rfl) (allCons (L 21 rfl rfl) (allCons (L 0 rfl rfl) allNil)))))))))⟩
  ·have h158 := ifF c119 h118
   refine WP.exit ?_
   refine sqE (sqE (blkE (sqN ?_)))
   have h159 := exitS h158 e116
   refine WP.ureg rfl ?_
   refine U.p rfl rfl (.inl rfl) (S.move rfl (L 2 rfl rfl)) ?_
   refine U.k rfl rfl (.inl rfl) (S.loadB rfl (L 4 rfl rfl) Try.underlying29 rfl ti29 (ow113.own (k := 1) rfl).get rfl) nd ?_
   obtain ⟨V160, eV164, le161, f162, ow163⟩ := ow113.osfz (k := 2) rfl
   rw [← eV164]
   refine O.lit (R := RT_TIns) ow163 rfl rfl (.inl rfl) rfl Try.underlying22 ti29 rfl rfl rfl (nr rfl) rfl (aC (L 0 rfl rfl) aN) (.cons _ _ (⟨x31.op, x61, x73, x85, x31.imm, xs101, x31.what, x31.volatile, x31.final⟩ : TIns) _ (by simp [topV]) ⟨_, rfl, f162⟩ .nil) (fun _ => nd) (fun v166 V167 le168 ow169 => ?_)
   obtain ⟨xs171, hx172, h173⟩ := bindS h159
   refine O.append (k := 1) ow169 rfl rfl rfl (.inl rfl) rfl (L 2 rfl rfl) (L 0 rfl rfl) Try.underlying22 ti29 rfl rfl (nr rfl) (ow169.src (k := 0) rfl Try.underlying22) hx172 (fun _ _ => nd) (fun v174 V175 le176 ow177 => ?_)
   refine U.p rfl rfl (.inl rfl) (S.assign rfl (L 0 rfl rfl)) ?_
   refine U.done (nr rfl) ?_
   refine blkN (sqN ?_)
   refine WP.ureg rfl ?_
   refine U.p rfl rfl (.inl rfl) (S.add rfl (L 11 rfl rfl) K) ?_
   refine U.p rfl rfl (.inl rfl) (S.move rfl (L 0 rfl rfl)) ?_
   refine U.done (nr rfl) ?_
   refine sqN ?_
   have ow179 := ow177.drop 0 rfl
   have ow180 := ow179.drop 1 rfl
   exact ⟨_, V175, rfl, ⟨m24, Nat.lt_succ_self _, v174, xs171, w64 (x15 + 1), rfl, (((((((((((((((le22.trans le46).trans le50).trans le54).trans le58).trans le66).trans le70).trans le78).trans le82).trans le90).trans le94).trans le97).trans le112).trans le161).trans le168).trans le176), ow180, backS h173 e26⟩, (allCons (L 8 rfl rfl) (allCons (L 2 rfl rfl) (allCons (L 11 rfl rfl) (allCons (L 12 rfl rfl) (allCons (L 0 rfl rfl) allNil)))))⟩
 ·have h181 := ifF c29 h28
  refine WP.exit ?_
  refine sqE (sqE (blkE (sqN ?_)))
  have h182 := exitS h181 e26
  refine WP.usreg rfl ?_
  refine U.p rfl rfl (.inl rfl) (S.move rfl (L 2 rfl rfl)) ?_
  refine U.p rfl rfl (.inl rfl) (S.assign rfl (L 0 rfl rfl)) ?_
  refine U.done (nr rfl) ?_
  refine WP.ret ?_
  refine fin.slot (.inr rfl) rfl (L 0 rfl rfl) ⟨V21, rfl, (le9.trans le22), ?_⟩
  have e183 := Option.some.inj h182
  subst e183
  exact ⟨v13, rfl, ow23⟩
theorem wk_ref11_Same (V : Vw) (Rs : List At) (p0 : TFunc) (p1 : TFunc) (v1 : Value) (v3 : Value) (f2 : Fz RT_TIns V v1 p0.code) (f4 : Fz RT_TIns V v3 p1.code) (ow : Ow V (Rs)) (r : Bool) (h : ref11_Same p0 p1 = some r) : ∃ v V', Cl Try.prog 0 11 #[.agg #[.string p0.name, .int .i64 p0.params, .int .i64 p0.regs, v1], .agg #[.string p1.name, .int .i64 p1.params, .int .i64 p1.regs, v3]] V.H v V'.H ∧ V.le V' ∧ (v = .bool r ∧ Ow V' (Rs)) := by
 refine Ct.of (Nat.zero_le _) Try.func11 rfl (nr rfl) ?_
 unfold ref11_Same at h
 refine WP.usreg rfl ?_
 refine O.box ow rfl rfl (.inl rfl) rfl (L 0 rfl rfl) (by simp [topV]) rfl nd (fun b5 V6 le7 ow8 => ?_)
 refine O.box ow8 rfl rfl (.inl rfl) rfl (L 2 rfl rfl) (by simp [topV]) rfl nd (fun b10 V11 le12 ow13 => ?_)
 refine U.p rfl rfl (.inl rfl) (S.assign rfl K) ?_
 refine U.done (nr rfl) ?_
 refine WP.seq ?_
 refine WP.usreg rfl ?_
 refine U.p (v := .pointer (some ⟨b5, 0, none⟩)) rfl rfl (.inl rfl) (S.fieldAddr rfl (L 2 rfl rfl) Try.underlying24 rfl ti9 rfl rfl) ?_
 refine U.k rfl rfl (.inl rfl) (S.load rfl (L 0 rfl rfl) Try.underlying9 rfl ((ow13.own (k := 1) rfl).cell rfl)) nd ?_
 refine U.p (v := .pointer (some ⟨b10, 0, none⟩)) rfl rfl (.inl rfl) (S.fieldAddr rfl (L 3 rfl rfl) Try.underlying24 rfl ti9 rfl rfl) ?_
 refine U.k rfl rfl (.inl rfl) (S.load rfl (L 0 rfl rfl) Try.underlying9 rfl ((ow13.own (k := 0) rfl).cell rfl)) nd ?_
 refine U.p rfl rfl (.inl rfl) (S.neqS rfl (L 2 rfl rfl) (L 0 rfl rfl)) ?_
 refine U.p rfl rfl (.inl rfl) (S.move rfl (L 0 rfl rfl)) ?_
 refine U.joinX 12 (fun e H => ∃ (u15 u16 u17 u18 u19 : Value), H = V11.H ∧ e = [(20, .bool ((decide (p0.name ≠ p1.name)) || (decide (p0.params ≠ p1.params)))), (19, u15), (18, u16), (17, u17), (16, u18), (15, u19)]) ?_ ?_
 ·rintro _ _ ⟨u15, u16, u17, u18, u19, rfl, rfl⟩
  refine U.p rfl rfl (.inl rfl) (S.move rfl (L 0 rfl rfl)) ?_
  refine U.joinX 19 (fun e H => ∃ (u23 u24 u25 u26 u27 : Value), H = V11.H ∧ e = [(27, .bool (((decide (p0.name ≠ p1.name)) || (decide (p0.params ≠ p1.params))) || (decide (p0.regs ≠ p1.regs)))), (26, u23), (25, u24), (24, u25), (23, u26), (22, u27)]) ?_ ?_
  ·rintro _ _ ⟨u23, u24, u25, u26, u27, rfl, rfl⟩
   refine U.p rfl rfl (.inl rfl) (S.move rfl (L 0 rfl rfl)) ?_
   refine U.joinX 28 (fun e H => ∃ (u31 u32 u33 u34 u35 u36 u37 : Value), H = V11.H ∧ e = [(36, .bool ((((decide (p0.name ≠ p1.name)) || (decide (p0.params ≠ p1.params))) || (decide (p0.regs ≠ p1.regs))) || (decide ((p0.code.length : Int) ≠ (p1.code.length : Int))))), (35, u31), (34, u32), (33, u33), (32, u34), (31, u35), (30, u36), (29, u37)]) ?_ ?_
   ·rintro _ _ ⟨u31, u32, u33, u34, u35, u36, u37, rfl, rfl⟩
    refine U.done (nr rfl) ?_
    refine WP.cond _ (L 0 rfl rfl) rfl (fun c41 => ?_) (fun c41 => ?_)
    ·have h42 := ifT c41 h
     refine WP.usreg rfl ?_
     refine U.p rfl rfl (.inl rfl) (S.assign rfl K) ?_
     refine U.done (nr rfl) ?_
     refine WP.ret ?_
     refine sqR ?_
     refine fin.slot (.inr rfl) rfl (L 0 rfl rfl) ⟨V11, rfl, (le7.trans le12), ?_⟩
     have ow43 := ow13.drop 0 rfl
     have ow44 := ow43.drop 0 rfl
     have e45 := Option.some.inj h42
     subst e45
     exact ⟨rfl, ow44⟩
    ·have h46 := ifF c41 h
     refine WP.skip ?_
     refine sqN ?_
     refine WP.seq ?_
     refine WP.usreg rfl ?_
     refine U.p (v := .pointer (some ⟨b5, 3, none⟩)) rfl rfl (.inl rfl) (S.fieldAddr rfl (L 30 rfl rfl) Try.underlying24 rfl ti22 rfl rfl) ?_
     refine U.k rfl rfl (.inl rfl) (S.load rfl (L 0 rfl rfl) Try.underlying22 rfl ((ow13.own (k := 1) rfl).cell rfl)) nd ?_
     refine U.p rfl rfl (.inl rfl) (f2.1.len rfl (L 0 rfl rfl) Try.underlying22) ?_
     refine U.p rfl rfl (.inl rfl) (S.move rfl K) ?_
     refine U.done (nr rfl) ?_
     refine WP.blk ?_
     have ow48 := ow13.drop 1 rfl
     unfold ref11_Same_l1 at h46
     obtain ⟨n50, hn49⟩ := loopO_some.1 h46
     refine WP.loopI2 (fun n l V' => ∃ (x47 : Int), l = [(3, .pointer (some ⟨b10, 0, none⟩)), (38, v1), (39, .int .i64 (p0.code.length : Int)), (40, .int .i64 x47)] ∧ V11.le V' ∧ Ow V' (.pt b10 (.cells 0 [.string p1.name, .int .i64 p1.params, .int .i64 p1.regs, v3]) :: Rs) ∧ itO (fun s => ref11_Same_l1b p0 p1 s) n x47 = some r) n50 _ ⟨0, rfl, .refl _, ow48, hn49⟩ (allCons (L 33 rfl rfl) (allCons (L 2 rfl rfl) (allCons (L 1 rfl rfl) (allCons (L 0 rfl rfl) allNil)))) ?_
     rintro _ _ V51 ⟨x47, rfl, le52, ow53, h57⟩
     obtain ⟨m54, q55, rfl, h58, e56⟩ := itS h57
     replace h58 : ref11_Same_l1b p0 p1 x47 = some q55 := h58
     unfold ref11_Same_l1b at h58
     refine WP.usreg rfl ?_
     refine U.p rfl rfl (.inl rfl) (S.lss rfl (L 3 rfl rfl) (L 2 rfl rfl)) ?_
     refine U.done (nr rfl) ?_
     refine WP.seq ?_
     refine WP.cond _ (L 0 rfl rfl) rfl (fun c59 => ?_) (fun c59 => ?_)
     ·have h60 := ifT c59 h58
      refine WP.skip ?_
      refine sqN ?_
      refine WP.seq ?_
      refine WP.blk ?_
      refine WP.usreg rfl ?_
      refine U.p rfl rfl (.inl rfl) (S.move rfl (L 4 rfl rfl)) ?_
      obtain ⟨x61, hx62, h63⟩ := bindS h60
      obtain ⟨b64, o65, c66, cs67, hv68, hf69, hr70, hc71⟩ := f2.at hx62
      obtain ⟨v72, rfl, f73⟩ := hr70
      refine U.p rfl rfl (.inl rfl) (S.index rfl ((L 3 rfl rfl).trans hv68) (L 5 rfl rfl) Try.underlying22 ti29 (ix_ge hx62) (ix_lt hx62)) ?_
      refine U.k rfl rfl (.inl rfl) (S.loadN (cs := [.int .i64 x61.op, .int .i64 x61.d, .int .i64 x61.a, .int .i64 x61.b, .int .i64 x61.imm, v72, .int .i64 x61.what, .bool x61.volatile, .bool x61.final]) rfl (L 0 rfl rfl) Try.underlying29 rfl ti29 rfl (fun j v hj => ((le7.trans le12).trans le52).cell hf69 (hc71 j v hj))) nd ?_
      refine O.alloc ow53 rfl rfl (.inl rfl) rfl ti29 rfl rfl nd (fun b74 V75 le76 ow77 => ?_)
      refine U.p rfl rfl (.inl rfl) (S.assign rfl (L 3 rfl rfl)) ?_
      refine O.store (k := 0) (cs := [.int .i64 x61.op, .int .i64 x61.d, .int .i64 x61.a, .int .i64 x61.b, .int .i64 x61.imm, v72, .int .i64 x61.what, .bool x61.volatile, .bool x61.final]) (c' := [.int .i64 x61.op, .int .i64 x61.d, .int .i64 x61.a, .int .i64 x61.b, .int .i64 x61.imm, v72, .int .i64 x61.what, .bool x61.volatile, .bool x61.final]) ow77 rfl rfl rfl (.inl rfl) rfl (L 1 rfl rfl) (L 2 rfl rfl) ti29 (by simp [topV]) rfl rfl (nr rfl) (by have q0 := f73.one; simp only [List.all_cons, List.all_nil, q0]; rfl) rfl nd (fun V79 le80 ow81 => ?_)
      refine U.done (nr rfl) ?_
      refine WP.usreg rfl ?_
      refine U.p (v := .pointer (some ⟨b10, 3, none⟩)) rfl rfl (.inl rfl) (S.fieldAddr rfl (L 6 rfl rfl) Try.underlying24 rfl ti22 rfl rfl) ?_
      refine U.k rfl rfl (.inl rfl) (S.load rfl (L 0 rfl rfl) Try.underlying22 rfl ((ow81.own (k := 1) rfl).cell rfl)) nd ?_
      refine U.p rfl rfl (.inl rfl) (S.move rfl (L 2 rfl rfl)) ?_
      obtain ⟨x82, hx83, h84⟩ := bindS h63
      obtain ⟨b85, o86, c87, cs88, hv89, hf90, hr91, hc92⟩ := f4.at hx83
      obtain ⟨v93, rfl, f94⟩ := hr91
      refine U.p rfl rfl (.inl rfl) (S.index rfl ((L 1 rfl rfl).trans hv89) (L 0 rfl rfl) Try.underlying22 ti29 (ix_ge hx83) (ix_lt hx83)) ?_
      refine U.k rfl rfl (.inl rfl) (S.loadN (cs := [.int .i64 x82.op, .int .i64 x82.d, .int .i64 x82.a, .int .i64 x82.b, .int .i64 x82.imm, v93, .int .i64 x82.what, .bool x82.volatile, .bool x82.final]) rfl (L 0 rfl rfl) Try.underlying29 rfl ti29 rfl (fun j v hj => ((((le7.trans le12).trans le52).trans le76).trans le80).cell hf90 (hc92 j v hj))) nd ?_
      refine O.alloc ow81 rfl rfl (.inl rfl) rfl ti29 rfl rfl nd (fun b95 V96 le97 ow98 => ?_)
      refine O.store (k := 0) (cs := [.int .i64 x82.op, .int .i64 x82.d, .int .i64 x82.a, .int .i64 x82.b, .int .i64 x82.imm, v93, .int .i64 x82.what, .bool x82.volatile, .bool x82.final]) (c' := [.int .i64 x82.op, .int .i64 x82.d, .int .i64 x82.a, .int .i64 x82.b, .int .i64 x82.imm, v93, .int .i64 x82.what, .bool x82.volatile, .bool x82.final]) ow98 rfl rfl rfl (.inl rfl) rfl (L 0 rfl rfl) (L 1 rfl rfl) ti29 (by simp [topV]) rfl rfl (nr rfl) (by have q0 := f94.one; simp only [List.all_cons, List.all_nil, q0]; rfl) rfl nd (fun V100 le101 ow102 => ?_)
      refine U.done (nr rfl) ?_
      refine WP.seq ?_
      refine WP.usreg rfl ?_
      refine U.p (v := .pointer (some ⟨b74, 0, none⟩)) rfl rfl (.inl rfl) (S.fieldAddr rfl (L 7 rfl rfl) Try.underlying29 rfl ti3 rfl rfl) ?_
      refine U.k rfl rfl (.inl rfl) (S.load rfl (L 0 rfl rfl) Try.underlying3 rfl ((ow102.own (k := 1) rfl).cell rfl)) nd ?_
      refine U.p (v := .pointer (some ⟨b95, 0, none⟩)) rfl rfl (.inl rfl) (S.fieldAddr rfl (L 2 rfl rfl) Try.underlying29 rfl ti3 rfl rfl) ?_
      refine U.k rfl rfl (.inl rfl) (S.load rfl (L 0 rfl rfl) Try.underlying3 rfl ((ow102.own (k := 0) rfl).cell rfl)) nd ?_
      refine U.p rfl rfl (.inl rfl) (S.neqI rfl (L 2 rfl rfl) (L 0 rfl rfl)) ?_
      refine U.p rfl rfl (.inl rfl) (S.move rfl (L 0 rfl rfl)) ?_
      refine U.joinX 12 (fun e H => ∃ (u103 u104 u105 u106 u107 : Value), H = V100.H ∧ e = [(61, .bool ((decide (x61.op ≠ x82.op)) || (decide (x61.d ≠ x82.d)))), (60, u103), (59, u104), (58, u105), (57, u106), (56, u107)]) ?_ ?_
      ·rintro _ _ ⟨u103, u104, u105, u106, u107, rfl, rfl⟩
       refine U.p rfl rfl (.inl rfl) (S.move rfl (L 0 rfl rfl)) ?_
       refine U.joinX 19 (fun e H => ∃ (u111 u112 u113 u114 u115 : Value), H = V100.H ∧ e = [(68, .bool (((decide (x61.op ≠ x82.op)) || (decide (x61.d ≠ x82.d))) || (decide (x61.a ≠ x82.a)))), (67, u111), (66, u112), (65, u113), (64, u114), (63, u115)]) ?_ ?_
       ·rintro _ _ ⟨u111, u112, u113, u114, u115, rfl, rfl⟩
        refine U.p rfl rfl (.inl rfl) (S.move rfl (L 0 rfl rfl)) ?_
        refine U.joinX 26 (fun e H => ∃ (u119 u120 u121 u122 u123 : Value), H = V100.H ∧ e = [(75, .bool ((((decide (x61.op ≠ x82.op)) || (decide (x61.d ≠ x82.d))) || (decide (x61.a ≠ x82.a))) || (decide (x61.b ≠ x82.b)))), (74, u119), (73, u120), (72, u121), (71, u122), (70, u123)]) ?_ ?_
        ·rintro _ _ ⟨u119, u120, u121, u122, u123, rfl, rfl⟩
         refine U.p rfl rfl (.inl rfl) (S.move rfl (L 0 rfl rfl)) ?_
         refine U.joinX 33 (fun e H => ∃ (u127 u128 u129 u130 u131 : Value), H = V100.H ∧ e = [(82, .bool (((((decide (x61.op ≠ x82.op)) || (decide (x61.d ≠ x82.d))) || (decide (x61.a ≠ x82.a))) || (decide (x61.b ≠ x82.b))) || (decide (x61.imm ≠ x82.imm)))), (81, u127), (80, u128), (79, u129), (78, u130), (77, u131)]) ?_ ?_
         ·rintro _ _ ⟨u127, u128, u129, u130, u131, rfl, rfl⟩
          refine U.p rfl rfl (.inl rfl) (S.move rfl (L 0 rfl rfl)) ?_
          refine U.joinX 40 (fun e H => ∃ (u135 u136 u137 u138 u139 : Value), H = V100.H ∧ e = [(89, .bool ((((((decide (x61.op ≠ x82.op)) || (decide (x61.d ≠ x82.d))) || (decide (x61.a ≠ x82.a))) || (decide (x61.b ≠ x82.b))) || (decide (x61.imm ≠ x82.imm))) || (decide (x61.what ≠ x82.what)))), (88, u135), (87, u136), (86, u137), (85, u138), (84, u139)]) ?_ ?_
          ·rintro _ _ ⟨u135, u136, u137, u138, u139, rfl, rfl⟩
           refine U.p rfl rfl (.inl rfl) (S.move rfl (L 0 rfl rfl)) ?_
           refine U.joinX 47 (fun e H => ∃ (u143 u144 u145 u146 u147 : Value), H = V100.H ∧ e = [(96, .bool (((((((decide (x61.op ≠ x82.op)) || (decide (x61.d ≠ x82.d))) || (decide (x61.a ≠ x82.a))) || (decide (x61.b ≠ x82.b))) || (decide (x61.imm ≠ x82.imm))) || (decide (x61.what ≠ x82.what))) || (!(x61.volatile == x82.volatile)))), (95, u143), (94, u144), (93, u145), (92, u146), (91, u147)]) ?_ ?_
           ·rintro _ _ ⟨u143, u144, u145, u146, u147, rfl, rfl⟩
            refine U.p rfl rfl (.inl rfl) (S.move rfl (L 0 rfl rfl)) ?_
            refine U.joinX 54 (fun e H => ∃ (u151 u152 u153 u154 u155 : Value), H = V100.H ∧ e = [(103, .bool ((((((((decide (x61.op ≠ x82.op)) || (decide (x61.d ≠ x82.d))) || (decide (x61.a ≠ x82.a))) || (decide (x61.b ≠ x82.b))) || (decide (x61.imm ≠ x82.imm))) || (decide (x61.what ≠ x82.what))) || (!(x61.volatile == x82.volatile))) || (!(x61.final == x82.final)))), (102, u151), (101, u152), (100, u153), (99, u154), (98, u155)]) ?_ ?_
            ·rintro _ _ ⟨u151, u152, u153, u154, u155, rfl, rfl⟩
             refine U.p rfl rfl (.inl rfl) (S.move rfl (L 0 rfl rfl)) ?_
             refine U.joinX 63 (fun e H => ∃ (u159 u160 u161 u162 u163 u164 u165 : Value), H = V100.H ∧ e = [(112, .bool (((((((((decide (x61.op ≠ x82.op)) || (decide (x61.d ≠ x82.d))) || (decide (x61.a ≠ x82.a))) || (decide (x61.b ≠ x82.b))) || (decide (x61.imm ≠ x82.imm))) || (decide (x61.what ≠ x82.what))) || (!(x61.volatile == x82.volatile))) || (!(x61.final == x82.final))) || (decide ((x61.args.length : Int) ≠ (x82.args.length : Int))))), (111, u159), (110, u160), (109, u161), (108, u162), (107, u163), (106, u164), (105, u165)]) ?_ ?_
             ·rintro _ _ ⟨u159, u160, u161, u162, u163, u164, u165, rfl, rfl⟩
              refine U.done (nr rfl) ?_
              refine WP.cond _ (L 0 rfl rfl) rfl (fun c169 => ?_) (fun c169 => ?_)
              ·have h170 := ifT c169 h84
               refine WP.usreg rfl ?_
               refine U.p rfl rfl (.inl rfl) (S.assign rfl K) ?_
               refine U.done (nr rfl) ?_
               refine WP.ret ?_
               refine sqR (blkR (sqR (sqR (blkR (sqR ?_)))))
               have h171 := exitS h170 e56
               refine fin.slot (.inr rfl) rfl (L 0 rfl rfl) ⟨V100, rfl, ((((((le7.trans le12).trans le52).trans le76).trans le80).trans le97).trans le101), ?_⟩
               have ow172 := ow102.drop 0 rfl
               have ow173 := ow172.drop 0 rfl
               have ow174 := ow173.drop 0 rfl
               have e175 := Option.some.inj h171
               subst e175
               exact ⟨rfl, ow174⟩
              ·have h176 := ifF c169 h84
               refine WP.skip ?_
               refine sqN ?_
               refine WP.usreg rfl ?_
               refine U.p (v := .pointer (some ⟨b74, 5, none⟩)) rfl rfl (.inl rfl) (S.fieldAddr rfl (L 70 rfl rfl) Try.underlying29 rfl ti27 rfl rfl) ?_
               refine U.k rfl rfl (.inl rfl) (S.load rfl (L 0 rfl rfl) Try.underlying27 rfl ((ow102.own (k := 1) rfl).cell rfl)) nd ?_
               refine U.p rfl rfl (.inl rfl) (f73.1.len rfl (L 0 rfl rfl) Try.underlying27) ?_
               refine U.p rfl rfl (.inl rfl) (S.move rfl K) ?_
               refine U.done (nr rfl) ?_
               refine WP.blk ?_
               have ow178 := ow102.pick 0 rfl
               have ow179 := ow178.pick 1 rfl
               have ow180 := ow179.pick 2 rfl
               unfold ref11_Same_l2 at h176
               obtain ⟨n182, hn181⟩ := loopO_some.1 h176
               refine WP.loopI2 (fun n l V' => ∃ (x177 : Int), l = [(3, .pointer (some ⟨b10, 0, none⟩)), (6, .pointer (some ⟨b74, 0, none⟩)), (7, .pointer (some ⟨b95, 0, none⟩)), (38, v1), (39, .int .i64 (p0.code.length : Int)), (40, .int .i64 x47), (115, .int .i64 (x61.args.length : Int)), (116, .int .i64 x177)] ∧ V100.le V' ∧ Ow V' (.pt b10 (.cells 0 [.string p1.name, .int .i64 p1.params, .int .i64 p1.regs, v3]) :: .pt b74 (.cells 9 [.int .i64 x61.op, .int .i64 x61.d, .int .i64 x61.a, .int .i64 x61.b, .int .i64 x61.imm, v72, .int .i64 x61.what, .bool x61.volatile, .bool x61.final]) :: .pt b95 (.cells 9 [.int .i64 x82.op, .int .i64 x82.d, .int .i64 x82.a, .int .i64 x82.b, .int .i64 x82.imm, v93, .int .i64 x82.what, .bool x82.volatile, .bool x82.final]) :: Rs) ∧ itO (fun s => ref11_Same_l2b x47 x61 x82 s) n x177 = some q55) n182 _ ⟨0, rfl, .refl _, ow180, hn181⟩ (allCons (L 79 rfl rfl) (allCons (L 74 rfl rfl) (allCons (L 67 rfl rfl) (allCons (L 80 rfl rfl) (allCons (L 81 rfl rfl) (allCons (L 82 rfl rfl) (allCons (L 1 rfl rfl) (allCons (L 0 rfl rfl) allNil)))))))) ?_
               rintro _ _ V183 ⟨x177, rfl, le184, ow185, h189⟩
               obtain ⟨m186, q187, rfl, h190, e188⟩ := itS h189
               replace h190 : ref11_Same_l2b x47 x61 x82 x177 = some q187 := h190
               unfold ref11_Same_l2b at h190
               refine WP.usreg rfl ?_
               refine U.p rfl rfl (.inl rfl) (S.lss rfl (L 7 rfl rfl) (L 6 rfl rfl)) ?_
               refine U.done (nr rfl) ?_
               refine WP.seq ?_
               refine WP.cond _ (L 0 rfl rfl) rfl (fun c191 => ?_) (fun c191 => ?_)
               ·have h192 := ifT c191 h190
                refine WP.skip ?_
                refine sqN ?_
                refine WP.seq ?_
                refine WP.blk ?_
                refine WP.usreg rfl ?_
                refine U.p rfl rfl (.inl rfl) (S.move rfl (L 8 rfl rfl)) ?_
                refine U.p rfl rfl (.inl rfl) (S.assign rfl (L 0 rfl rfl)) ?_
                refine U.done (nr rfl) ?_
                refine WP.usdreg rfl rfl rfl ?_
                refine U.p (v := .pointer (some ⟨b74, 5, none⟩)) rfl rfl (.inl rfl) (S.fieldAddr rfl (L 4 rfl rfl) Try.underlying29 rfl ti27 rfl rfl) ?_
                refine U.k rfl rfl (.inl rfl) (S.loadC rfl (L 0 rfl rfl) Try.underlying27 rfl ((ow185.own (k := 1) rfl).cell rfl)) (fun _ => (okH.nil (fun r h => by cases h; exact (ow185.own (k := 1) rfl).lt))) ?_
                refine U.p rfl rfl (.inl rfl) (S.move rfl (L 2 rfl rfl)) ?_
                obtain ⟨x193, hx194, h195⟩ := bindS h192
                obtain ⟨b196, o197, c198, cs199, hv200, hf201, hr202, hc203⟩ := f73.at hx194
                obtain rfl : cs199 = [.int .i64 x193] := hr202
                refine U.p rfl rfl (.inl rfl) (S.index rfl ((L 1 rfl rfl).trans hv200) (L 0 rfl rfl) Try.underlying27 ti3 (ix_ge hx194) (ix_lt hx194)) ?_
                refine U.k rfl rfl (.inl rfl) (S.load rfl (L 0 rfl rfl) Try.underlying3 rfl ((((((((le7.trans le12).trans le52).trans le76).trans le80).trans le97).trans le101).trans le184).cell hf201 (hc203 0 _ rfl))) (fun _ => (okH.cons trivial (okH.nil (fun r h => by cases h; exact (V183.wf _ ((((((((le7.trans le12).trans le52).trans le76).trans le80).trans le97).trans le101).trans le184).sub _ hf201)))))) ?_
                refine U.p (v := .pointer (some ⟨b95, 5, none⟩)) rfl rfl (.inl rfl) (S.fieldAddr rfl (L 10 rfl rfl) Try.underlying29 rfl ti27 rfl rfl) ?_
                refine U.k rfl rfl (.inl rfl) (S.loadC rfl (L 0 rfl rfl) Try.underlying27 rfl ((ow185.own (k := 2) rfl).cell rfl)) (fun _ => (okH.cons trivial (okH.cons trivial (okH.nil (fun r h => by cases h; exact (ow185.own (k := 2) rfl).lt))))) ?_
                refine U.p rfl rfl (.inl rfl) (S.move rfl (L 7 rfl rfl)) ?_
                obtain ⟨x204, hx205, h206⟩ := bindS h195
                obtain ⟨b207, o208, c209, cs210, hv211, hf212, hr213, hc214⟩ := f94.at hx205
                obtain rfl : cs210 = [.int .i64 x204] := hr213
                refine U.p rfl rfl (.inl rfl) (S.index rfl ((L 1 rfl rfl).trans hv211) (L 0 rfl rfl) Try.underlying27 ti3 (ix_ge hx205) (ix_lt hx205)) ?_
                refine U.k rfl rfl (.inl rfl) (S.load rfl (L 0 rfl rfl) Try.underlying3 rfl ((((((((le7.trans le12).trans le52).trans le76).trans le80).trans le97).trans le101).trans le184).cell hf212 (hc214 0 _ rfl))) (fun _ => (okH.cons trivial (okH.cons trivial (okH.cons trivial (okH.nil (fun r h => by cases h; exact (V183.wf _ ((((((((le7.trans le12).trans le52).trans le76).trans le80).trans le97).trans le101).trans le184).sub _ hf212)))))))) ?_
                refine U.p rfl rfl (.inl rfl) (S.neqI rfl (L 5 rfl rfl) (L 0 rfl rfl)) ?_
                refine U.done (nr rfl) ?_
                refine WP.cond _ (L 0 rfl rfl) rfl (fun c215 => ?_) (fun c215 => ?_)
                ·have h216 := ifT c215 h206
                 refine WP.usreg rfl ?_
                 refine U.p rfl rfl (.inl rfl) (S.assign rfl K) ?_
                 refine U.done (nr rfl) ?_
                 refine WP.ret ?_
                 refine blkR (sqR (sqR (blkR (blkR (sqR (sqR (blkR (sqR ?_))))))))
                 have h217 := exitS h216 e188
                 have h218 := exitS h217 e56
                 refine fin.slot (.inr rfl) rfl (L 0 rfl rfl) ⟨V183, rfl, (((((((le7.trans le12).trans le52).trans le76).trans le80).trans le97).trans le101).trans le184), ?_⟩
                 have ow219 := ow185.drop 0 rfl
                 have ow220 := ow219.drop 0 rfl
                 have ow221 := ow220.drop 0 rfl
                 have e222 := Option.some.inj h218
                 subst e222
                 exact ⟨rfl, ow221⟩
                ·have h223 := ifF c215 h206
                 refine WP.skip ?_
                 refine blkN (sqN ?_)
                 refine WP.ureg rfl ?_
                 refine U.p rfl rfl (.inl rfl) (S.add rfl (L 21 rfl rfl) K) ?_
                 refine U.p rfl rfl (.inl rfl) (S.move rfl (L 0 rfl rfl)) ?_
                 refine U.done (nr rfl) ?_
                 refine sqN ?_
                 exact ⟨_, V183, rfl, ⟨m186, Nat.lt_succ_self _, w64 (x177 + 1), rfl, le184, ow185, backS h223 e188⟩, (allCons (L 16 rfl rfl) (allCons (L 17 rfl rfl) (allCons (L 18 rfl rfl) (allCons (L 19 rfl rfl) (allCons (L 20 rfl rfl) (allCons (L 21 rfl rfl) (allCons (L 22 rfl rfl) (allCons (L 0 rfl rfl) allNil))))))))⟩
               ·have h224 := ifF c191 h190
                refine WP.exit ?_
                refine sqE (sqE (blkE (blkN (sqN ?_))))
                have h225 := exitS h224 e188
                refine WP.ureg rfl ?_
                refine U.p rfl rfl (.inl rfl) (S.add rfl (L 6 rfl rfl) K) ?_
                refine U.p rfl rfl (.inl rfl) (S.move rfl (L 0 rfl rfl)) ?_
                refine U.done (nr rfl) ?_
                refine sqN ?_
                have ow226 := ow185.drop 1 rfl
                have ow227 := ow226.drop 1 rfl
                exact ⟨_, V183, rfl, ⟨m54, Nat.lt_succ_self _, w64 (x47 + 1), rfl, (((((le52.trans le76).trans le80).trans le97).trans le101).trans le184), ow227, backS h225 e56⟩, (allCons (L 3 rfl rfl) (allCons (L 6 rfl rfl) (allCons (L 7 rfl rfl) (allCons (L 0 rfl rfl) allNil))))⟩
             ·intro kk
              refine bcase (b := (((((((decide (x61.op ≠ x82.op)) || (decide (x61.d ≠ x82.d))) || (decide (x61.a ≠ x82.a))) || (decide (x61.b ≠ x82.b))) || (decide (x61.imm ≠ x82.imm))) || (decide (x61.what ≠ x82.what))) || (!(x61.volatile == x82.volatile))) || (!(x61.final == x82.final))) (fun g228 => ?_) (fun g228 => ?_)
              ·skip
               refine U.x rfl rfl rfl rfl ((L 0 rfl rfl).trans (cB g228)) (by decide) ?_
               refine U.x rfl rfl rfl rfl ((L 1 rfl rfl).trans (cB g228)) (by decide) ?_
               refine U.x rfl rfl rfl rfl ((L 2 rfl rfl).trans (cB g228)) (by decide) ?_
               refine U.x rfl rfl rfl rfl ((L 3 rfl rfl).trans (cB g228)) (by decide) ?_
               refine U.x rfl rfl rfl rfl ((L 4 rfl rfl).trans (cB g228)) (by decide) ?_
               refine U.x rfl rfl rfl rfl ((L 5 rfl rfl).trans (cB g228)) (by decide) ?_
               refine U.x rfl rfl rfl rfl ((L 6 rfl rfl).trans (cB g228)) (by decide) ?_
               refine U.p rfl rfl (.inl rfl) (S.pickT rfl ((L 7 rfl rfl).trans (cB g228)) K) ?_
               exact kk [(112, .bool true), (111, .tuple #[]), (110, .tuple #[]), (109, .tuple #[]), (108, .tuple #[]), (107, .tuple #[]), (106, .tuple #[]), (105, .tuple #[])] _ ⟨.tuple #[], .tuple #[], .tuple #[], .tuple #[], .tuple #[], .tuple #[], .tuple #[], rfl, (by rw [g228, Bool.true_or])⟩
              ·skip
               refine U.p (v := .pointer (some ⟨b74, 5, none⟩)) rfl rfl (.inr ⟨_, _, _, rfl, rfl, ((L 0 rfl rfl).trans (cB g228))⟩) (S.fieldAddr rfl (L 62 rfl rfl) Try.underlying29 rfl ti27 rfl rfl) ?_
               refine U.k rfl rfl (.inr ⟨_, _, _, rfl, rfl, ((L 1 rfl rfl).trans (cB g228))⟩) (S.load rfl (L 0 rfl rfl) Try.underlying27 rfl ((ow102.own (k := 1) rfl).cell rfl)) nd ?_
               refine U.p rfl rfl (.inr ⟨_, _, _, rfl, rfl, ((L 2 rfl rfl).trans (cB g228))⟩) (f73.1.len rfl (L 0 rfl rfl) Try.underlying27) ?_
               refine U.p (v := .pointer (some ⟨b95, 5, none⟩)) rfl rfl (.inr ⟨_, _, _, rfl, rfl, ((L 3 rfl rfl).trans (cB g228))⟩) (S.fieldAddr rfl (L 58 rfl rfl) Try.underlying29 rfl ti27 rfl rfl) ?_
               refine U.k rfl rfl (.inr ⟨_, _, _, rfl, rfl, ((L 4 rfl rfl).trans (cB g228))⟩) (S.load rfl (L 0 rfl rfl) Try.underlying27 rfl ((ow102.own (k := 0) rfl).cell rfl)) nd ?_
               refine U.p rfl rfl (.inr ⟨_, _, _, rfl, rfl, ((L 5 rfl rfl).trans (cB g228))⟩) (f94.1.len rfl (L 0 rfl rfl) Try.underlying27) ?_
               refine U.p rfl rfl (.inr ⟨_, _, _, rfl, rfl, ((L 6 rfl rfl).trans (cB g228))⟩) (S.neqI rfl (L 3 rfl rfl) (L 0 rfl rfl)) ?_
               refine U.p rfl rfl (.inl rfl) (S.pickF rfl ((L 7 rfl rfl).trans (cB g228)) (L 0 rfl rfl)) ?_
               exact kk [(112, .bool (decide ((x61.args.length : Int) ≠ (x82.args.length : Int)))), (111, .bool (decide ((x61.args.length : Int) ≠ (x82.args.length : Int)))), (110, .int .i64 (x82.args.length : Int)), (109, v93), (108, .pointer (some ⟨b95, 5, none⟩)), (107, .int .i64 (x61.args.length : Int)), (106, v72), (105, .pointer (some ⟨b74, 5, none⟩))] _ ⟨.bool (decide ((x61.args.length : Int) ≠ (x82.args.length : Int))), .int .i64 (x82.args.length : Int), v93, .pointer (some ⟨b95, 5, none⟩), .int .i64 (x61.args.length : Int), v72, .pointer (some ⟨b74, 5, none⟩), rfl, (by rw [g228, Bool.false_or])⟩
            ·intro kk
             refine bcase (b := ((((((decide (x61.op ≠ x82.op)) || (decide (x61.d ≠ x82.d))) || (decide (x61.a ≠ x82.a))) || (decide (x61.b ≠ x82.b))) || (decide (x61.imm ≠ x82.imm))) || (decide (x61.what ≠ x82.what))) || (!(x61.volatile == x82.volatile))) (fun g229 => ?_) (fun g229 => ?_)
             ·skip
              refine U.x rfl rfl rfl rfl ((L 0 rfl rfl).trans (cB g229)) (by decide) ?_
              refine U.x rfl rfl rfl rfl ((L 1 rfl rfl).trans (cB g229)) (by decide) ?_
              refine U.x rfl rfl rfl rfl ((L 2 rfl rfl).trans (cB g229)) (by decide) ?_
              refine U.x rfl rfl rfl rfl ((L 3 rfl rfl).trans (cB g229)) (by decide) ?_
              refine U.x rfl rfl rfl rfl ((L 4 rfl rfl).trans (cB g229)) (by decide) ?_
              refine U.p rfl rfl (.inl rfl) (S.pickT rfl ((L 5 rfl rfl).trans (cB g229)) K) ?_
              exact kk [(103, .bool true), (102, .tuple #[]), (101, .tuple #[]), (100, .tuple #[]), (99, .tuple #[]), (98, .tuple #[])] _ ⟨.tuple #[], .tuple #[], .tuple #[], .tuple #[], .tuple #[], rfl, (by rw [g229, Bool.true_or])⟩
             ·skip
              refine U.p (v := .pointer (some ⟨b74, 8, none⟩)) rfl rfl (.inr ⟨_, _, _, rfl, rfl, ((L 0 rfl rfl).trans (cB g229))⟩) (S.fieldAddr rfl (L 55 rfl rfl) Try.underlying29 rfl ti4 rfl rfl) ?_
              refine U.k rfl rfl (.inr ⟨_, _, _, rfl, rfl, ((L 1 rfl rfl).trans (cB g229))⟩) (S.load rfl (L 0 rfl rfl) Try.underlying4 rfl ((ow102.own (k := 1) rfl).cell rfl)) nd ?_
              refine U.p (v := .pointer (some ⟨b95, 8, none⟩)) rfl rfl (.inr ⟨_, _, _, rfl, rfl, ((L 2 rfl rfl).trans (cB g229))⟩) (S.fieldAddr rfl (L 50 rfl rfl) Try.underlying29 rfl ti4 rfl rfl) ?_
              refine U.k rfl rfl (.inr ⟨_, _, _, rfl, rfl, ((L 3 rfl rfl).trans (cB g229))⟩) (S.load rfl (L 0 rfl rfl) Try.underlying4 rfl ((ow102.own (k := 0) rfl).cell rfl)) nd ?_
              refine U.p rfl rfl (.inr ⟨_, _, _, rfl, rfl, ((L 4 rfl rfl).trans (cB g229))⟩) (S.neqB rfl (L 2 rfl rfl) (L 0 rfl rfl) Try.underlying4) ?_
              refine U.p rfl rfl (.inl rfl) (S.pickF rfl ((L 5 rfl rfl).trans (cB g229)) (L 0 rfl rfl)) ?_
              exact kk [(103, .bool (!(x61.final == x82.final))), (102, .bool (!(x61.final == x82.final))), (101, .bool x82.final), (100, .pointer (some ⟨b95, 8, none⟩)), (99, .bool x61.final), (98, .pointer (some ⟨b74, 8, none⟩))] _ ⟨.bool (!(x61.final == x82.final)), .bool x82.final, .pointer (some ⟨b95, 8, none⟩), .bool x61.final, .pointer (some ⟨b74, 8, none⟩), rfl, (by rw [g229, Bool.false_or])⟩
           ·intro kk
            refine bcase (b := (((((decide (x61.op ≠ x82.op)) || (decide (x61.d ≠ x82.d))) || (decide (x61.a ≠ x82.a))) || (decide (x61.b ≠ x82.b))) || (decide (x61.imm ≠ x82.imm))) || (decide (x61.what ≠ x82.what))) (fun g230 => ?_) (fun g230 => ?_)
            ·skip
             refine U.x rfl rfl rfl rfl ((L 0 rfl rfl).trans (cB g230)) (by decide) ?_
             refine U.x rfl rfl rfl rfl ((L 1 rfl rfl).trans (cB g230)) (by decide) ?_
             refine U.x rfl rfl rfl rfl ((L 2 rfl rfl).trans (cB g230)) (by decide) ?_
             refine U.x rfl rfl rfl rfl ((L 3 rfl rfl).trans (cB g230)) (by decide) ?_
             refine U.x rfl rfl rfl rfl ((L 4 rfl rfl).trans (cB g230)) (by decide) ?_
             refine U.p rfl rfl (.inl rfl) (S.pickT rfl ((L 5 rfl rfl).trans (cB g230)) K) ?_
             exact kk [(96, .bool true), (95, .tuple #[]), (94, .tuple #[]), (93, .tuple #[]), (92, .tuple #[]), (91, .tuple #[])] _ ⟨.tuple #[], .tuple #[], .tuple #[], .tuple #[], .tuple #[], rfl, (by rw [g230, Bool.true_or])⟩
            ·skip
             refine U.p (v := .pointer (some ⟨b74, 7, none⟩)) rfl rfl (.inr ⟨_, _, _, rfl, rfl, ((L 0 rfl rfl).trans (cB g230))⟩) (S.fieldAddr rfl (L 48 rfl rfl) Try.underlying29 rfl ti4 rfl rfl) ?_
             refine U.k rfl rfl (.inr ⟨_, _, _, rfl, rfl, ((L 1 rfl rfl).trans (cB g230))⟩) (S.load rfl (L 0 rfl rfl) Try.underlying4 rfl ((ow102.own (k := 1) rfl).cell rfl)) nd ?_
             refine U.p (v := .pointer (some ⟨b95, 7, none⟩)) rfl rfl (.inr ⟨_, _, _, rfl, rfl, ((L 2 rfl rfl).trans (cB g230))⟩) (S.fieldAddr rfl (L 43 rfl rfl) Try.underlying29 rfl ti4 rfl rfl) ?_
             refine U.k rfl rfl (.inr ⟨_, _, _, rfl, rfl, ((L 3 rfl rfl).trans (cB g230))⟩) (S.load rfl (L 0 rfl rfl) Try.underlying4 rfl ((ow102.own (k := 0) rfl).cell rfl)) nd ?_
             refine U.p rfl rfl (.inr ⟨_, _, _, rfl, rfl, ((L 4 rfl rfl).trans (cB g230))⟩) (S.neqB rfl (L 2 rfl rfl) (L 0 rfl rfl) Try.underlying4) ?_
             refine U.p rfl rfl (.inl rfl) (S.pickF rfl ((L 5 rfl rfl).trans (cB g230)) (L 0 rfl rfl)) ?_
             exact kk [(96, .bool (!(x61.volatile == x82.volatile))), (95, .bool (!(x61.volatile == x82.volatile))), (94, .bool x82.volatile), (93, .pointer (some ⟨b95, 7, none⟩)), (92, .bool x61.volatile), (91, .pointer (some ⟨b74, 7, none⟩))] _ ⟨.bool (!(x61.volatile == x82.volatile)), .bool x82.volatile, .pointer (some ⟨b95, 7, none⟩), .bool x61.volatile, .pointer (some ⟨b74, 7, none⟩), rfl, (by rw [g230, Bool.false_or])⟩
          ·intro kk
           refine bcase (b := ((((decide (x61.op ≠ x82.op)) || (decide (x61.d ≠ x82.d))) || (decide (x61.a ≠ x82.a))) || (decide (x61.b ≠ x82.b))) || (decide (x61.imm ≠ x82.imm))) (fun g231 => ?_) (fun g231 => ?_)
           ·skip
            refine U.x rfl rfl rfl rfl ((L 0 rfl rfl).trans (cB g231)) (by decide) ?_
            refine U.x rfl rfl rfl rfl ((L 1 rfl rfl).trans (cB g231)) (by decide) ?_
            refine U.x rfl rfl rfl rfl ((L 2 rfl rfl).trans (cB g231)) (by decide) ?_
            refine U.x rfl rfl rfl rfl ((L 3 rfl rfl).trans (cB g231)) (by decide) ?_
            refine U.x rfl rfl rfl rfl ((L 4 rfl rfl).trans (cB g231)) (by decide) ?_
            refine U.p rfl rfl (.inl rfl) (S.pickT rfl ((L 5 rfl rfl).trans (cB g231)) K) ?_
            exact kk [(89, .bool true), (88, .tuple #[]), (87, .tuple #[]), (86, .tuple #[]), (85, .tuple #[]), (84, .tuple #[])] _ ⟨.tuple #[], .tuple #[], .tuple #[], .tuple #[], .tuple #[], rfl, (by rw [g231, Bool.true_or])⟩
           ·skip
            refine U.p (v := .pointer (some ⟨b74, 6, none⟩)) rfl rfl (.inr ⟨_, _, _, rfl, rfl, ((L 0 rfl rfl).trans (cB g231))⟩) (S.fieldAddr rfl (L 41 rfl rfl) Try.underlying29 rfl ti3 rfl rfl) ?_
            refine U.k rfl rfl (.inr ⟨_, _, _, rfl, rfl, ((L 1 rfl rfl).trans (cB g231))⟩) (S.load rfl (L 0 rfl rfl) Try.underlying3 rfl ((ow102.own (k := 1) rfl).cell rfl)) nd ?_
            refine U.p (v := .pointer (some ⟨b95, 6, none⟩)) rfl rfl (.inr ⟨_, _, _, rfl, rfl, ((L 2 rfl rfl).trans (cB g231))⟩) (S.fieldAddr rfl (L 36 rfl rfl) Try.underlying29 rfl ti3 rfl rfl) ?_
            refine U.k rfl rfl (.inr ⟨_, _, _, rfl, rfl, ((L 3 rfl rfl).trans (cB g231))⟩) (S.load rfl (L 0 rfl rfl) Try.underlying3 rfl ((ow102.own (k := 0) rfl).cell rfl)) nd ?_
            refine U.p rfl rfl (.inr ⟨_, _, _, rfl, rfl, ((L 4 rfl rfl).trans (cB g231))⟩) (S.neqI rfl (L 2 rfl rfl) (L 0 rfl rfl)) ?_
            refine U.p rfl rfl (.inl rfl) (S.pickF rfl ((L 5 rfl rfl).trans (cB g231)) (L 0 rfl rfl)) ?_
            exact kk [(89, .bool (decide (x61.what ≠ x82.what))), (88, .bool (decide (x61.what ≠ x82.what))), (87, .int .i64 x82.what), (86, .pointer (some ⟨b95, 6, none⟩)), (85, .int .i64 x61.what), (84, .pointer (some ⟨b74, 6, none⟩))] _ ⟨.bool (decide (x61.what ≠ x82.what)), .int .i64 x82.what, .pointer (some ⟨b95, 6, none⟩), .int .i64 x61.what, .pointer (some ⟨b74, 6, none⟩), rfl, (by rw [g231, Bool.false_or])⟩
         ·intro kk
          refine bcase (b := (((decide (x61.op ≠ x82.op)) || (decide (x61.d ≠ x82.d))) || (decide (x61.a ≠ x82.a))) || (decide (x61.b ≠ x82.b))) (fun g232 => ?_) (fun g232 => ?_)
          ·skip
           refine U.x rfl rfl rfl rfl ((L 0 rfl rfl).trans (cB g232)) (by decide) ?_
           refine U.x rfl rfl rfl rfl ((L 1 rfl rfl).trans (cB g232)) (by decide) ?_
           refine U.x rfl rfl rfl rfl ((L 2 rfl rfl).trans (cB g232)) (by decide) ?_
           refine U.x rfl rfl rfl rfl ((L 3 rfl rfl).trans (cB g232)) (by decide) ?_
           refine U.x rfl rfl rfl rfl ((L 4 rfl rfl).trans (cB g232)) (by decide) ?_
           refine U.p rfl rfl (.inl rfl) (S.pickT rfl ((L 5 rfl rfl).trans (cB g232)) K) ?_
           exact kk [(82, .bool true), (81, .tuple #[]), (80, .tuple #[]), (79, .tuple #[]), (78, .tuple #[]), (77, .tuple #[])] _ ⟨.tuple #[], .tuple #[], .tuple #[], .tuple #[], .tuple #[], rfl, (by rw [g232, Bool.true_or])⟩
          ·skip
           refine U.p (v := .pointer (some ⟨b74, 4, none⟩)) rfl rfl (.inr ⟨_, _, _, rfl, rfl, ((L 0 rfl rfl).trans (cB g232))⟩) (S.fieldAddr rfl (L 34 rfl rfl) Try.underlying29 rfl ti3 rfl rfl) ?_
           refine U.k rfl rfl (.inr ⟨_, _, _, rfl, rfl, ((L 1 rfl rfl).trans (cB g232))⟩) (S.load rfl (L 0 rfl rfl) Try.underlying3 rfl ((ow102.own (k := 1) rfl).cell rfl)) nd ?_
           refine U.p (v := .pointer (some ⟨b95, 4, none⟩)) rfl rfl (.inr ⟨_, _, _, rfl, rfl, ((L 2 rfl rfl).trans (cB g232))⟩) (S.fieldAddr rfl (L 29 rfl rfl) Try.underlying29 rfl ti3 rfl rfl) ?_
           refine U.k rfl rfl (.inr ⟨_, _, _, rfl, rfl, ((L 3 rfl rfl).trans (cB g232))⟩) (S.load rfl (L 0 rfl rfl) Try.underlying3 rfl ((ow102.own (k := 0) rfl).cell rfl)) nd ?_
           refine U.p rfl rfl (.inr ⟨_, _, _, rfl, rfl, ((L 4 rfl rfl).trans (cB g232))⟩) (S.neqI rfl (L 2 rfl rfl) (L 0 rfl rfl)) ?_
           refine U.p rfl rfl (.inl rfl) (S.pickF rfl ((L 5 rfl rfl).trans (cB g232)) (L 0 rfl rfl)) ?_
           exact kk [(82, .bool (decide (x61.imm ≠ x82.imm))), (81, .bool (decide (x61.imm ≠ x82.imm))), (80, .int .i64 x82.imm), (79, .pointer (some ⟨b95, 4, none⟩)), (78, .int .i64 x61.imm), (77, .pointer (some ⟨b74, 4, none⟩))] _ ⟨.bool (decide (x61.imm ≠ x82.imm)), .int .i64 x82.imm, .pointer (some ⟨b95, 4, none⟩), .int .i64 x61.imm, .pointer (some ⟨b74, 4, none⟩), rfl, (by rw [g232, Bool.false_or])⟩
        ·intro kk
         refine bcase (b := ((decide (x61.op ≠ x82.op)) || (decide (x61.d ≠ x82.d))) || (decide (x61.a ≠ x82.a))) (fun g233 => ?_) (fun g233 => ?_)
         ·skip
          refine U.x rfl rfl rfl rfl ((L 0 rfl rfl).trans (cB g233)) (by decide) ?_
          refine U.x rfl rfl rfl rfl ((L 1 rfl rfl).trans (cB g233)) (by decide) ?_
          refine U.x rfl rfl rfl rfl ((L 2 rfl rfl).trans (cB g233)) (by decide) ?_
          refine U.x rfl rfl rfl rfl ((L 3 rfl rfl).trans (cB g233)) (by decide) ?_
          refine U.x rfl rfl rfl rfl ((L 4 rfl rfl).trans (cB g233)) (by decide) ?_
          refine U.p rfl rfl (.inl rfl) (S.pickT rfl ((L 5 rfl rfl).trans (cB g233)) K) ?_
          exact kk [(75, .bool true), (74, .tuple #[]), (73, .tuple #[]), (72, .tuple #[]), (71, .tuple #[]), (70, .tuple #[])] _ ⟨.tuple #[], .tuple #[], .tuple #[], .tuple #[], .tuple #[], rfl, (by rw [g233, Bool.true_or])⟩
         ·skip
          refine U.p (v := .pointer (some ⟨b74, 3, none⟩)) rfl rfl (.inr ⟨_, _, _, rfl, rfl, ((L 0 rfl rfl).trans (cB g233))⟩) (S.fieldAddr rfl (L 27 rfl rfl) Try.underlying29 rfl ti3 rfl rfl) ?_
          refine U.k rfl rfl (.inr ⟨_, _, _, rfl, rfl, ((L 1 rfl rfl).trans (cB g233))⟩) (S.load rfl (L 0 rfl rfl) Try.underlying3 rfl ((ow102.own (k := 1) rfl).cell rfl)) nd ?_
          refine U.p (v := .pointer (some ⟨b95, 3, none⟩)) rfl rfl (.inr ⟨_, _, _, rfl, rfl, ((L 2 rfl rfl).trans (cB g233))⟩) (S.fieldAddr rfl (L 22 rfl rfl) Try.underlying29 rfl ti3 rfl rfl) ?_
          refine U.k rfl rfl (.inr ⟨_, _, _, rfl, rfl, ((L 3 rfl rfl).trans (cB g233))⟩) (S.load rfl (L 0 rfl rfl) Try.underlying3 rfl ((ow102.own (k := 0) rfl).cell rfl)) nd ?_
          refine U.p rfl rfl (.inr ⟨_, _, _, rfl, rfl, ((L 4 rfl rfl).trans (cB g233))⟩) (S.neqI rfl (L 2 rfl rfl) (L 0 rfl rfl)) ?_
          refine U.p rfl rfl (.inl rfl) (S.pickF rfl ((L 5 rfl rfl).trans (cB g233)) (L 0 rfl rfl)) ?_
          exact kk [(75, .bool (decide (x61.b ≠ x82.b))), (74, .bool (decide (x61.b ≠ x82.b))), (73, .int .i64 x82.b), (72, .pointer (some ⟨b95, 3, none⟩)), (71, .int .i64 x61.b), (70, .pointer (some ⟨b74, 3, none⟩))] _ ⟨.bool (decide (x61.b ≠ x82.b)), .int .i64 x82.b, .pointer (some ⟨b95, 3, none⟩), .int .i64 x61.b, .pointer (some ⟨b74, 3, none⟩), rfl, (by rw [g233, Bool.false_or])⟩
       ·intro kk
        refine bcase (b := (decide (x61.op ≠ x82.op)) || (decide (x61.d ≠ x82.d))) (fun g234 => ?_) (fun g234 => ?_)
        ·skip
         refine U.x rfl rfl rfl rfl ((L 0 rfl rfl).trans (cB g234)) (by decide) ?_
         refine U.x rfl rfl rfl rfl ((L 1 rfl rfl).trans (cB g234)) (by decide) ?_
         refine U.x rfl rfl rfl rfl ((L 2 rfl rfl).trans (cB g234)) (by decide) ?_
         refine U.x rfl rfl rfl rfl ((L 3 rfl rfl).trans (cB g234)) (by decide) ?_
         refine U.x rfl rfl rfl rfl ((L 4 rfl rfl).trans (cB g234)) (by decide) ?_
         refine U.p rfl rfl (.inl rfl) (S.pickT rfl ((L 5 rfl rfl).trans (cB g234)) K) ?_
         exact kk [(68, .bool true), (67, .tuple #[]), (66, .tuple #[]), (65, .tuple #[]), (64, .tuple #[]), (63, .tuple #[])] _ ⟨.tuple #[], .tuple #[], .tuple #[], .tuple #[], .tuple #[], rfl, (by rw [g234, Bool.true_or])⟩
        ·skip
         refine U.p (v := .pointer (some ⟨b74, 2, none⟩)) rfl rfl (.inr ⟨_, _, _, rfl, rfl, ((L 0 rfl rfl).trans (cB g234))⟩) (S.fieldAddr rfl (L 20 rfl rfl) Try.underlying29 rfl ti3 rfl rfl) ?_
         refine U.k rfl rfl (.inr ⟨_, _, _, rfl, rfl, ((L 1 rfl rfl).trans (cB g234))⟩) (S.load rfl (L 0 rfl rfl) Try.underlying3 rfl ((ow102.own (k := 1) rfl).cell rfl)) nd ?_
         refine U.p (v := .pointer (some ⟨b95, 2, none⟩)) rfl rfl (.inr ⟨_, _, _, rfl, rfl, ((L 2 rfl rfl).trans (cB g234))⟩) (S.fieldAddr rfl (L 15 rfl rfl) Try.underlying29 rfl ti3 rfl rfl) ?_
         refine U.k rfl rfl (.inr ⟨_, _, _, rfl, rfl, ((L 3 rfl rfl).trans (cB g234))⟩) (S.load rfl (L 0 rfl rfl) Try.underlying3 rfl ((ow102.own (k := 0) rfl).cell rfl)) nd ?_
         refine U.p rfl rfl (.inr ⟨_, _, _, rfl, rfl, ((L 4 rfl rfl).trans (cB g234))⟩) (S.neqI rfl (L 2 rfl rfl) (L 0 rfl rfl)) ?_
         refine U.p rfl rfl (.inl rfl) (S.pickF rfl ((L 5 rfl rfl).trans (cB g234)) (L 0 rfl rfl)) ?_
         exact kk [(68, .bool (decide (x61.a ≠ x82.a))), (67, .bool (decide (x61.a ≠ x82.a))), (66, .int .i64 x82.a), (65, .pointer (some ⟨b95, 2, none⟩)), (64, .int .i64 x61.a), (63, .pointer (some ⟨b74, 2, none⟩))] _ ⟨.bool (decide (x61.a ≠ x82.a)), .int .i64 x82.a, .pointer (some ⟨b95, 2, none⟩), .int .i64 x61.a, .pointer (some ⟨b74, 2, none⟩), rfl, (by rw [g234, Bool.false_or])⟩
      ·intro kk
       refine bcase (b := decide (x61.op ≠ x82.op)) (fun g235 => ?_) (fun g235 => ?_)
       ·skip
        refine U.x rfl rfl rfl rfl ((L 0 rfl rfl).trans (cB g235)) (by decide) ?_
        refine U.x rfl rfl rfl rfl ((L 1 rfl rfl).trans (cB g235)) (by decide) ?_
        refine U.x rfl rfl rfl rfl ((L 2 rfl rfl).trans (cB g235)) (by decide) ?_
        refine U.x rfl rfl rfl rfl ((L 3 rfl rfl).trans (cB g235)) (by decide) ?_
        refine U.x rfl rfl rfl rfl ((L 4 rfl rfl).trans (cB g235)) (by decide) ?_
        refine U.p rfl rfl (.inl rfl) (S.pickT rfl ((L 5 rfl rfl).trans (cB g235)) K) ?_
        exact kk [(61, .bool true), (60, .tuple #[]), (59, .tuple #[]), (58, .tuple #[]), (57, .tuple #[]), (56, .tuple #[])] _ ⟨.tuple #[], .tuple #[], .tuple #[], .tuple #[], .tuple #[], rfl, (by rw [g235, Bool.true_or])⟩
       ·skip
        refine U.p (v := .pointer (some ⟨b74, 1, none⟩)) rfl rfl (.inr ⟨_, _, _, rfl, rfl, ((L 0 rfl rfl).trans (cB g235))⟩) (S.fieldAddr rfl (L 13 rfl rfl) Try.underlying29 rfl ti3 rfl rfl) ?_
        refine U.k rfl rfl (.inr ⟨_, _, _, rfl, rfl, ((L 1 rfl rfl).trans (cB g235))⟩) (S.load rfl (L 0 rfl rfl) Try.underlying3 rfl ((ow102.own (k := 1) rfl).cell rfl)) nd ?_
        refine U.p (v := .pointer (some ⟨b95, 1, none⟩)) rfl rfl (.inr ⟨_, _, _, rfl, rfl, ((L 2 rfl rfl).trans (cB g235))⟩) (S.fieldAddr rfl (L 8 rfl rfl) Try.underlying29 rfl ti3 rfl rfl) ?_
        refine U.k rfl rfl (.inr ⟨_, _, _, rfl, rfl, ((L 3 rfl rfl).trans (cB g235))⟩) (S.load rfl (L 0 rfl rfl) Try.underlying3 rfl ((ow102.own (k := 0) rfl).cell rfl)) nd ?_
        refine U.p rfl rfl (.inr ⟨_, _, _, rfl, rfl, ((L 4 rfl rfl).trans (cB g235))⟩) (S.neqI rfl (L 2 rfl rfl) (L 0 rfl rfl)) ?_
        refine U.p rfl rfl (.inl rfl) (S.pickF rfl ((L 5 rfl rfl).trans (cB g235)) (L 0 rfl rfl)) ?_
        exact kk [(61, .bool (decide (x61.d ≠ x82.d))), (60, .bool (decide (x61.d ≠ x82.d))), (59, .int .i64 x82.d), (58, .pointer (some ⟨b95, 1, none⟩)), (57, .int .i64 x61.d), (56, .pointer (some ⟨b74, 1, none⟩))] _ ⟨.bool (decide (x61.d ≠ x82.d)), .int .i64 x82.d, .pointer (some ⟨b95, 1, none⟩), .int .i64 x61.d, .pointer (some ⟨b74, 1, none⟩), rfl, (by rw [g235, Bool.false_or])⟩
     ·have h236 := ifF c59 h58
      refine WP.exit ?_
      refine sqE (sqE (blkE (sqN ?_)))
      have h237 := exitS h236 e56
      refine WP.usreg rfl ?_
      refine U.p rfl rfl (.inl rfl) (S.assign rfl K) ?_
      refine U.done (nr rfl) ?_
      refine WP.ret ?_
      refine fin.slot (.inr rfl) rfl (L 0 rfl rfl) ⟨V51, rfl, ((le7.trans le12).trans le52), ?_⟩
      have ow238 := ow53.drop 0 rfl
      have e239 := Option.some.inj h237
      subst e239
      exact ⟨rfl, ow238⟩
   ·intro kk
    refine bcase (b := ((decide (p0.name ≠ p1.name)) || (decide (p0.params ≠ p1.params))) || (decide (p0.regs ≠ p1.regs))) (fun g240 => ?_) (fun g240 => ?_)
    ·skip
     refine U.x rfl rfl rfl rfl ((L 0 rfl rfl).trans (cB g240)) (by decide) ?_
     refine U.x rfl rfl rfl rfl ((L 1 rfl rfl).trans (cB g240)) (by decide) ?_
     refine U.x rfl rfl rfl rfl ((L 2 rfl rfl).trans (cB g240)) (by decide) ?_
     refine U.x rfl rfl rfl rfl ((L 3 rfl rfl).trans (cB g240)) (by decide) ?_
     refine U.x rfl rfl rfl rfl ((L 4 rfl rfl).trans (cB g240)) (by decide) ?_
     refine U.x rfl rfl rfl rfl ((L 5 rfl rfl).trans (cB g240)) (by decide) ?_
     refine U.x rfl rfl rfl rfl ((L 6 rfl rfl).trans (cB g240)) (by decide) ?_
     refine U.p rfl rfl (.inl rfl) (S.pickT rfl ((L 7 rfl rfl).trans (cB g240)) K) ?_
     exact kk [(36, .bool true), (35, .tuple #[]), (34, .tuple #[]), (33, .tuple #[]), (32, .tuple #[]), (31, .tuple #[]), (30, .tuple #[]), (29, .tuple #[])] _ ⟨.tuple #[], .tuple #[], .tuple #[], .tuple #[], .tuple #[], .tuple #[], .tuple #[], rfl, (by rw [g240, Bool.true_or])⟩
    ·skip
     refine U.p (v := .pointer (some ⟨b5, 3, none⟩)) rfl rfl (.inr ⟨_, _, _, rfl, rfl, ((L 0 rfl rfl).trans (cB g240))⟩) (S.fieldAddr rfl (L 22 rfl rfl) Try.underlying24 rfl ti22 rfl rfl) ?_
     refine U.k rfl rfl (.inr ⟨_, _, _, rfl, rfl, ((L 1 rfl rfl).trans (cB g240))⟩) (S.load rfl (L 0 rfl rfl) Try.underlying22 rfl ((ow13.own (k := 1) rfl).cell rfl)) nd ?_
     refine U.p rfl rfl (.inr ⟨_, _, _, rfl, rfl, ((L 2 rfl rfl).trans (cB g240))⟩) (f2.1.len rfl (L 0 rfl rfl) Try.underlying22) ?_
     refine U.p (v := .pointer (some ⟨b10, 3, none⟩)) rfl rfl (.inr ⟨_, _, _, rfl, rfl, ((L 3 rfl rfl).trans (cB g240))⟩) (S.fieldAddr rfl (L 24 rfl rfl) Try.underlying24 rfl ti22 rfl rfl) ?_
     refine U.k rfl rfl (.inr ⟨_, _, _, rfl, rfl, ((L 4 rfl rfl).trans (cB g240))⟩) (S.load rfl (L 0 rfl rfl) Try.underlying22 rfl ((ow13.own (k := 0) rfl).cell rfl)) nd ?_
     refine U.p rfl rfl (.inr ⟨_, _, _, rfl, rfl, ((L 5 rfl rfl).trans (cB g240))⟩) (f4.1.len rfl (L 0 rfl rfl) Try.underlying22) ?_
     refine U.p rfl rfl (.inr ⟨_, _, _, rfl, rfl, ((L 6 rfl rfl).trans (cB g240))⟩) (S.neqI rfl (L 3 rfl rfl) (L 0 rfl rfl)) ?_
     refine U.p rfl rfl (.inl rfl) (S.pickF rfl ((L 7 rfl rfl).trans (cB g240)) (L 0 rfl rfl)) ?_
     exact kk [(36, .bool (decide ((p0.code.length : Int) ≠ (p1.code.length : Int)))), (35, .bool (decide ((p0.code.length : Int) ≠ (p1.code.length : Int)))), (34, .int .i64 (p1.code.length : Int)), (33, v3), (32, .pointer (some ⟨b10, 3, none⟩)), (31, .int .i64 (p0.code.length : Int)), (30, v1), (29, .pointer (some ⟨b5, 3, none⟩))] _ ⟨.bool (decide ((p0.code.length : Int) ≠ (p1.code.length : Int))), .int .i64 (p1.code.length : Int), v3, .pointer (some ⟨b10, 3, none⟩), .int .i64 (p0.code.length : Int), v1, .pointer (some ⟨b5, 3, none⟩), rfl, (by rw [g240, Bool.false_or])⟩
  ·intro kk
   refine bcase (b := (decide (p0.name ≠ p1.name)) || (decide (p0.params ≠ p1.params))) (fun g241 => ?_) (fun g241 => ?_)
   ·skip
    refine U.x rfl rfl rfl rfl ((L 0 rfl rfl).trans (cB g241)) (by decide) ?_
    refine U.x rfl rfl rfl rfl ((L 1 rfl rfl).trans (cB g241)) (by decide) ?_
    refine U.x rfl rfl rfl rfl ((L 2 rfl rfl).trans (cB g241)) (by decide) ?_
    refine U.x rfl rfl rfl rfl ((L 3 rfl rfl).trans (cB g241)) (by decide) ?_
    refine U.x rfl rfl rfl rfl ((L 4 rfl rfl).trans (cB g241)) (by decide) ?_
    refine U.p rfl rfl (.inl rfl) (S.pickT rfl ((L 5 rfl rfl).trans (cB g241)) K) ?_
    exact kk [(27, .bool true), (26, .tuple #[]), (25, .tuple #[]), (24, .tuple #[]), (23, .tuple #[]), (22, .tuple #[])] _ ⟨.tuple #[], .tuple #[], .tuple #[], .tuple #[], .tuple #[], rfl, (by rw [g241, Bool.true_or])⟩
   ·skip
    refine U.p (v := .pointer (some ⟨b5, 2, none⟩)) rfl rfl (.inr ⟨_, _, _, rfl, rfl, ((L 0 rfl rfl).trans (cB g241))⟩) (S.fieldAddr rfl (L 15 rfl rfl) Try.underlying24 rfl ti3 rfl rfl) ?_
    refine U.k rfl rfl (.inr ⟨_, _, _, rfl, rfl, ((L 1 rfl rfl).trans (cB g241))⟩) (S.load rfl (L 0 rfl rfl) Try.underlying3 rfl ((ow13.own (k := 1) rfl).cell rfl)) nd ?_
    refine U.p (v := .pointer (some ⟨b10, 2, none⟩)) rfl rfl (.inr ⟨_, _, _, rfl, rfl, ((L 2 rfl rfl).trans (cB g241))⟩) (S.fieldAddr rfl (L 16 rfl rfl) Try.underlying24 rfl ti3 rfl rfl) ?_
    refine U.k rfl rfl (.inr ⟨_, _, _, rfl, rfl, ((L 3 rfl rfl).trans (cB g241))⟩) (S.load rfl (L 0 rfl rfl) Try.underlying3 rfl ((ow13.own (k := 0) rfl).cell rfl)) nd ?_
    refine U.p rfl rfl (.inr ⟨_, _, _, rfl, rfl, ((L 4 rfl rfl).trans (cB g241))⟩) (S.neqI rfl (L 2 rfl rfl) (L 0 rfl rfl)) ?_
    refine U.p rfl rfl (.inl rfl) (S.pickF rfl ((L 5 rfl rfl).trans (cB g241)) (L 0 rfl rfl)) ?_
    exact kk [(27, .bool (decide (p0.regs ≠ p1.regs))), (26, .bool (decide (p0.regs ≠ p1.regs))), (25, .int .i64 p1.regs), (24, .pointer (some ⟨b10, 2, none⟩)), (23, .int .i64 p0.regs), (22, .pointer (some ⟨b5, 2, none⟩))] _ ⟨.bool (decide (p0.regs ≠ p1.regs)), .int .i64 p1.regs, .pointer (some ⟨b10, 2, none⟩), .int .i64 p0.regs, .pointer (some ⟨b5, 2, none⟩), rfl, (by rw [g241, Bool.false_or])⟩
 ·intro kk
  refine bcase (b := decide (p0.name ≠ p1.name)) (fun g242 => ?_) (fun g242 => ?_)
  ·skip
   refine U.x rfl rfl rfl rfl ((L 0 rfl rfl).trans (cB g242)) (by decide) ?_
   refine U.x rfl rfl rfl rfl ((L 1 rfl rfl).trans (cB g242)) (by decide) ?_
   refine U.x rfl rfl rfl rfl ((L 2 rfl rfl).trans (cB g242)) (by decide) ?_
   refine U.x rfl rfl rfl rfl ((L 3 rfl rfl).trans (cB g242)) (by decide) ?_
   refine U.x rfl rfl rfl rfl ((L 4 rfl rfl).trans (cB g242)) (by decide) ?_
   refine U.p rfl rfl (.inl rfl) (S.pickT rfl ((L 5 rfl rfl).trans (cB g242)) K) ?_
   exact kk [(20, .bool true), (19, .tuple #[]), (18, .tuple #[]), (17, .tuple #[]), (16, .tuple #[]), (15, .tuple #[])] _ ⟨.tuple #[], .tuple #[], .tuple #[], .tuple #[], .tuple #[], rfl, (by rw [g242, Bool.true_or])⟩
  ·skip
   refine U.p (v := .pointer (some ⟨b5, 1, none⟩)) rfl rfl (.inr ⟨_, _, _, rfl, rfl, ((L 0 rfl rfl).trans (cB g242))⟩) (S.fieldAddr rfl (L 8 rfl rfl) Try.underlying24 rfl ti3 rfl rfl) ?_
   refine U.k rfl rfl (.inr ⟨_, _, _, rfl, rfl, ((L 1 rfl rfl).trans (cB g242))⟩) (S.load rfl (L 0 rfl rfl) Try.underlying3 rfl ((ow13.own (k := 1) rfl).cell rfl)) nd ?_
   refine U.p (v := .pointer (some ⟨b10, 1, none⟩)) rfl rfl (.inr ⟨_, _, _, rfl, rfl, ((L 2 rfl rfl).trans (cB g242))⟩) (S.fieldAddr rfl (L 9 rfl rfl) Try.underlying24 rfl ti3 rfl rfl) ?_
   refine U.k rfl rfl (.inr ⟨_, _, _, rfl, rfl, ((L 3 rfl rfl).trans (cB g242))⟩) (S.load rfl (L 0 rfl rfl) Try.underlying3 rfl ((ow13.own (k := 0) rfl).cell rfl)) nd ?_
   refine U.p rfl rfl (.inr ⟨_, _, _, rfl, rfl, ((L 4 rfl rfl).trans (cB g242))⟩) (S.neqI rfl (L 2 rfl rfl) (L 0 rfl rfl)) ?_
   refine U.p rfl rfl (.inl rfl) (S.pickF rfl ((L 5 rfl rfl).trans (cB g242)) (L 0 rfl rfl)) ?_
   exact kk [(20, .bool (decide (p0.params ≠ p1.params))), (19, .bool (decide (p0.params ≠ p1.params))), (18, .int .i64 p1.params), (17, .pointer (some ⟨b10, 1, none⟩)), (16, .int .i64 p0.params), (15, .pointer (some ⟨b5, 1, none⟩))] _ ⟨.bool (decide (p0.params ≠ p1.params)), .int .i64 p1.params, .pointer (some ⟨b10, 1, none⟩), .int .i64 p0.params, .pointer (some ⟨b5, 1, none⟩), rfl, (by rw [g242, Bool.false_or])⟩
theorem wk_slices_Index_3 (V : Vw) (Rs : List At) (p0 : List Int) (p1 : Int) (v1 : Value) (f2 : Fz (RT.int .i64) V v1 p0) (ow : Ow V (Rs)) (r : Int) (h : slices_Index_3 p0 p1 = some r) : ∃ v V', Cl Try.prog 0 38 #[v1, .int .i64 p1] V.H v V'.H ∧ V.le V' ∧ (v = .int .i64 r ∧ Ow V' (Rs)) := by
 refine Ct.of (Nat.zero_le _) Try.func38 rfl (nr rfl) ?_
 unfold slices_Index_3 at h
 refine WP.usreg rfl ?_
 refine U.p rfl rfl (.inl rfl) (S.assign rfl K) ?_
 refine U.done (nr rfl) ?_
 refine WP.seq ?_
 refine WP.usreg rfl ?_
 refine U.p rfl rfl (.inl rfl) (S.move rfl (L 1 rfl rfl)) ?_
 refine U.p rfl rfl (.inl rfl) (f2.1.len rfl (L 0 rfl rfl) Try.underlying27) ?_
 refine U.p rfl rfl (.inl rfl) (S.move rfl K) ?_
 refine U.done (nr rfl) ?_
 refine WP.blk ?_
 unfold slices_Index_3_l1 at h
 obtain ⟨n5, hn4⟩ := loopO_some.1 h
 refine WP.loopI2 (fun n l V' => ∃ (x3 : Int), l = [(0, v1), (1, .int .i64 p1), (7, .int .i64 (p0.length : Int)), (8, .int .i64 x3)] ∧ V.le V' ∧ Ow V' (Rs) ∧ itO (fun s => slices_Index_3_l1b p0 p1 s) n x3 = some r) n5 _ ⟨0, rfl, .refl _, ow, hn4⟩ (allCons (L 4 rfl rfl) (allCons (L 5 rfl rfl) (allCons (L 1 rfl rfl) (allCons (L 0 rfl rfl) allNil)))) ?_
 rintro _ _ V6 ⟨x3, rfl, le7, ow8, h12⟩
 obtain ⟨m9, q10, rfl, h13, e11⟩ := itS h12
 replace h13 : slices_Index_3_l1b p0 p1 x3 = some q10 := h13
 unfold slices_Index_3_l1b at h13
 refine WP.usreg rfl ?_
 refine U.p rfl rfl (.inl rfl) (S.lss rfl (L 3 rfl rfl) (L 2 rfl rfl)) ?_
 refine U.done (nr rfl) ?_
 refine WP.seq ?_
 refine WP.cond _ (L 0 rfl rfl) rfl (fun c14 => ?_) (fun c14 => ?_)
 ·have h15 := ifT c14 h13
  refine WP.skip ?_
  refine sqN ?_
  refine WP.seq ?_
  refine WP.blk ?_
  refine WP.usreg rfl ?_
  refine U.p rfl rfl (.inl rfl) (S.move rfl (L 4 rfl rfl)) ?_
  refine U.p rfl rfl (.inl rfl) (S.assign rfl (L 0 rfl rfl)) ?_
  refine U.done (nr rfl) ?_
  refine WP.usreg rfl ?_
  refine U.p rfl rfl (.inl rfl) (S.move rfl (L 4 rfl rfl)) ?_
  refine U.p rfl rfl (.inl rfl) (S.move rfl (L 4 rfl rfl)) ?_
  refine U.p rfl rfl (.inl rfl) (S.move rfl (L 2 rfl rfl)) ?_
  obtain ⟨x16, hx17, h18⟩ := bindS h15
  obtain ⟨b19, o20, c21, cs22, hv23, hf24, hr25, hc26⟩ := f2.at hx17
  obtain rfl : cs22 = [.int .i64 x16] := hr25
  refine U.p rfl rfl (.inl rfl) (S.index rfl ((L 1 rfl rfl).trans hv23) (L 0 rfl rfl) Try.underlying27 ti3 (ix_ge hx17) (ix_lt hx17)) ?_
  refine U.k rfl rfl (.inl rfl) (S.load rfl (L 0 rfl rfl) Try.underlying3 rfl (le7.cell hf24 (hc26 0 _ rfl))) nd ?_
  refine U.p rfl rfl (.inl rfl) (S.eqlI rfl (L 4 rfl rfl) (L 0 rfl rfl)) ?_
  refine U.done (nr rfl) ?_
  refine WP.cond _ (L 0 rfl rfl) rfl (fun c27 => ?_) (fun c27 => ?_)
  ·have h28 := ifT c27 h18
   refine WP.usreg rfl ?_
   refine U.p rfl rfl (.inl rfl) (S.move rfl (L 6 rfl rfl)) ?_
   refine U.p rfl rfl (.inl rfl) (S.assign rfl (L 0 rfl rfl)) ?_
   refine U.done (nr rfl) ?_
   refine WP.ret ?_
   refine blkR (sqR (sqR (blkR (sqR ?_))))
   have h29 := exitS h28 e11
   refine fin.slot (.inr rfl) rfl (L 0 rfl rfl) ⟨V6, rfl, le7, ?_⟩
   have e30 := Option.some.inj h29
   subst e30
   exact ⟨rfl, ow8⟩
  ·have h31 := ifF c27 h18
   refine WP.skip ?_
   refine blkN (sqN ?_)
   refine WP.ureg rfl ?_
   refine U.p rfl rfl (.inl rfl) (S.add rfl (L 12 rfl rfl) K) ?_
   refine U.p rfl rfl (.inl rfl) (S.move rfl (L 0 rfl rfl)) ?_
   refine U.done (nr rfl) ?_
   refine sqN ?_
   exact ⟨_, V6, rfl, ⟨m9, Nat.lt_succ_self _, w64 (x3 + 1), rfl, le7, ow8, backS h31 e11⟩, (allCons (L 11 rfl rfl) (allCons (L 12 rfl rfl) (allCons (L 13 rfl rfl) (allCons (L 0 rfl rfl) allNil))))⟩
 ·have h32 := ifF c14 h13
  refine WP.exit ?_
  refine sqE (sqE (blkE (sqN ?_)))
  have h33 := exitS h32 e11
  refine WP.usreg rfl ?_
  refine U.p rfl rfl (.inl rfl) (S.assign rfl K) ?_
  refine U.done (nr rfl) ?_
  refine WP.ret ?_
  refine fin.slot (.inr rfl) rfl (L 0 rfl rfl) ⟨V6, rfl, le7, ?_⟩
  have e34 := Option.some.inj h33
  subst e34
  exact ⟨rfl, ow8⟩
theorem wk_slices_Contains_2 (V : Vw) (Rs : List At) (p0 : List Int) (p1 : Int) (v1 : Value) (f2 : Fz (RT.int .i64) V v1 p0) (ow : Ow V (Rs)) (r : Bool) (h : slices_Contains_2 p0 p1 = some r) : ∃ v V', Cl Try.prog 0 23 #[v1, .int .i64 p1] V.H v V'.H ∧ V.le V' ∧ (v = .bool r ∧ Ow V' (Rs)) := by
 refine Ct.of (Nat.zero_le _) Try.func23 rfl (nr rfl) ?_
 unfold slices_Contains_2 at h
 refine WP.usreg rfl ?_
 refine U.p rfl rfl (.inl rfl) (S.assign rfl K) ?_
 refine U.done (nr rfl) ?_
 refine WP.usreg rfl ?_
 refine U.p rfl rfl (.inl rfl) (S.move rfl (L 1 rfl rfl)) ?_
 refine U.p rfl rfl (.inl rfl) (S.move rfl (L 3 rfl rfl)) ?_
 obtain ⟨x3, hx4, h5⟩ := bindS h
 refine O.call (V := V) rfl rfl (.inl rfl) rfl en38 (aC (L 1 rfl rfl) (aC (L 0 rfl rfl) aN)) (wk_slices_Index_3 V _ p0 p1 v1 f2 ow _ hx4) (fun _ _ _ _ => nd) (fun v6 V7 le8 hp9 => ?_)
 obtain ⟨rfl, ow10⟩ := hp9
 refine U.p rfl rfl (.inl rfl) (S.geq rfl (L 0 rfl rfl) K) ?_
 refine U.p rfl rfl (.inl rfl) (S.assign rfl (L 0 rfl rfl)) ?_
 refine U.done (nr rfl) ?_
 refine WP.ret ?_
 refine fin.slot (.inr rfl) rfl (L 0 rfl rfl) ⟨V7, rfl, le8, ?_⟩
 have e11 := Option.some.inj h5
 subst e11
 exact ⟨rfl, ow10⟩
theorem wk_regs_Map_Used (V : Vw) (Rs : List At) (p0 : Tregs_Map) (v1 : Value) (f2 : Fz (RT.int .i64) V v1 p0.at_) (ow : Ow V (Rs)) (r : List Int) (h : regs_Map_Used p0 = some r) : ∃ v V', Cl Try.prog 0 13 #[.agg #[v1, .int .i64 p0.spill]] V.H v V'.H ∧ V.le V' ∧ (∃ (v3 : Value), v = v3 ∧ Ow V' (.os (RT.int .i64) v3 r :: Rs)) := by
 refine Ct.of (Nat.zero_le _) Try.func13 rfl (nr rfl) ?_
 unfold regs_Map_Used at h
 refine WP.usreg rfl ?_
 refine O.box ow rfl rfl (.inl rfl) rfl (L 0 rfl rfl) (by simp [topV]) rfl nd (fun b5 V6 le7 ow8 => ?_)
 refine U.p rfl rfl (.inl rfl) (S.assign rfl K) ?_
 refine U.done (nr rfl) ?_
 refine WP.usreg rfl ?_
 refine U.p rfl rfl (.inl rfl) (S.assign rfl K) ?_
 refine U.done (nr rfl) ?_
 refine WP.seq ?_
 refine WP.usreg rfl ?_
 refine U.p rfl rfl (.inl rfl) (S.move rfl K) ?_
 refine U.done (nr rfl) ?_
 refine WP.blk ?_
 have ow14 := ow8.nil (RT.int .i64)
 have ow16 := ow14.pick 0 rfl
 have ow17 := ow16.pick 1 rfl
 unfold regs_Map_Used_l1 at h
 obtain ⟨n19, hn18⟩ := loopO_some.1 h
 refine WP.loopI2 (fun n l V' => ∃ (v11 : Value) (xs12 : List Int) (x13 : Int), l = [(1, .pointer (some ⟨b5, 0, none⟩)), (3, v11), (5, .int .i64 x13)] ∧ V6.le V' ∧ Ow V' (.pt b5 (.cells 0 [v1, .int .i64 p0.spill]) :: .os (RT.int .i64) v11 xs12 :: Rs) ∧ itO (fun s => regs_Map_Used_l1b p0 s.1 s.2) n (xs12, x13) = some r) n19 _ ⟨(.slice none 0 0), [], 0, rfl, .refl _, ow17, hn18⟩ (allCons (L 3 rfl rfl) (allCons (L 1 rfl rfl) (allCons (L 0 rfl rfl) allNil))) ?_
 rintro _ _ V20 ⟨v11, xs12, x13, rfl, le21, ow22, h26⟩
 obtain ⟨m23, q24, rfl, h27, e25⟩ := itS h26
 replace h27 : regs_Map_Used_l1b p0 xs12 x13 = some q24 := h27
 unfold regs_Map_Used_l1b at h27
 refine WP.usreg rfl ?_
 refine U.p rfl rfl (.inl rfl) (S.lss rfl (L 2 rfl rfl) K) ?_
 refine U.done (nr rfl) ?_
 refine WP.seq ?_
 refine WP.cond _ (L 0 rfl rfl) rfl (fun c28 => ?_) (fun c28 => ?_)
 ·have h29 := ifT c28 h27
  refine WP.skip ?_
  refine sqN ?_
  refine WP.seqI (fun l V' => ∃ (v31 : Value) (xs32 : List Int), l = [(1, .pointer (some ⟨b5, 0, none⟩)), (3, v31), (5, .int .i64 x13)] ∧ V20.le V' ∧ Ow V' (.pt b5 (.cells 0 [v1, .int .i64 p0.spill]) :: .os (RT.int .i64) v31 xs32 :: Rs) ∧ regs_Map_Used_k1 x13 xs32 = some q24) ?_ ?_
  ·rintro _ V33 ⟨v31, xs32, rfl, le34, ow35, h36⟩
   unfold regs_Map_Used_k1 at h36
   refine WP.ureg rfl ?_
   refine U.p rfl rfl (.inl rfl) (S.add rfl (L 2 rfl rfl) K) ?_
   refine U.p rfl rfl (.inl rfl) (S.move rfl (L 0 rfl rfl)) ?_
   refine U.done (nr rfl) ?_
   refine sqN ?_
   exact ⟨_, V33, rfl, ⟨m23, Nat.lt_succ_self _, v31, xs32, w64 (x13 + 1), rfl, (le21.trans le34), ow35, backS h36 e25⟩, (allCons (L 2 rfl rfl) (allCons (L 3 rfl rfl) (allCons (L 0 rfl rfl) allNil)))⟩
  ·skip
   refine WP.blk ?_
   refine WP.usreg rfl ?_
   refine U.p rfl rfl (.inl rfl) (S.move rfl (L 3 rfl rfl)) ?_
   refine U.p rfl rfl (.inl rfl) (S.assign rfl (L 0 rfl rfl)) ?_
   refine U.done (nr rfl) ?_
   refine WP.usreg rfl ?_
   refine U.p (v := .pointer (some ⟨b5, 0, none⟩)) rfl rfl (.inl rfl) (S.fieldAddr rfl (L 3 rfl rfl) Try.underlying31 rfl ti27 rfl rfl) ?_
   refine U.k rfl rfl (.inl rfl) (S.load rfl (L 0 rfl rfl) Try.underlying27 rfl ((ow22.own (k := 0) rfl).cell rfl)) nd ?_
   refine U.p rfl rfl (.inl rfl) (S.move rfl (L 2 rfl rfl)) ?_
   have f37 := f2.up (le7.trans le21)
   obtain ⟨x38, hx39, h40⟩ := bindS h29
   refine O.call (V := V20) rfl rfl (.inl rfl) rfl en23 (aC (L 1 rfl rfl) (aC (L 0 rfl rfl) aN)) (wk_slices_Contains_2 V20 _ p0.at_ x13 v1 f37 ow22 _ hx39) (fun _ _ _ _ => nd) (fun v41 V42 le43 hp44 => ?_)
   obtain ⟨rfl, ow45⟩ := hp44
   refine U.done (nr rfl) ?_
   refine WP.cond _ (L 0 rfl rfl) rfl (fun c46 => ?_) (fun c46 => ?_)
   ·have h47 := ifT c46 h40
    refine WP.ureg rfl ?_
    refine U.p rfl rfl (.inl rfl) (S.move rfl (L 8 rfl rfl)) ?_
    refine U.p rfl rfl (.inl rfl) (S.move rfl (L 5 rfl rfl)) ?_
    refine O.lit (R := (RT.int .i64)) ow45 rfl rfl (.inl rfl) rfl Try.underlying27 ti3 rfl rfl rfl (nr rfl) rfl (aC (L 0 rfl rfl) aN) (.cons _ _ x13 _ (by simp [topV]) rfl .nil) (fun _ => nd) (fun v48 V49 le50 ow51 => ?_)
    obtain ⟨xs53, hx54, h55⟩ := bindS h47
    refine O.append (k := 2) ow51 rfl rfl rfl (.inl rfl) rfl (L 2 rfl rfl) (L 0 rfl rfl) Try.underlying27 ti3 rfl rfl (nr rfl) (ow51.src (k := 0) rfl Try.underlying27) hx54 (fun _ _ => nd) (fun v56 V57 le58 ow59 => ?_)
    refine U.p rfl rfl (.inl rfl) (S.assign rfl (L 0 rfl rfl)) ?_
    refine U.done (nr rfl) ?_
    refine blkN (sqN ?_)
    have ow61 := ow59.drop 0 rfl
    exact ⟨_, V57, rfl, ⟨v56, xs53, rfl, ((le43.trans le50).trans le58), ow61, h55⟩, (allCons (L 12 rfl rfl) (allCons (L 0 rfl rfl) (allCons (L 14 rfl rfl) allNil)))⟩
   ·have h62 := ifF c46 h40
    refine WP.skip ?_
    refine blkN (sqN ?_)
    exact ⟨_, V42, rfl, ⟨v11, xs12, rfl, le43, ow45, h62⟩, (allCons (L 7 rfl rfl) (allCons (L 8 rfl rfl) (allCons (L 9 rfl rfl) allNil)))⟩
 ·have h63 := ifF c28 h27
  refine WP.exit ?_
  refine sqE (sqE (blkE (sqN ?_)))
  have h64 := exitS h63 e25
  refine WP.usreg rfl ?_
  refine U.p rfl rfl (.inl rfl) (S.move rfl (L 2 rfl rfl)) ?_
  refine U.p rfl rfl (.inl rfl) (S.assign rfl (L 0 rfl rfl)) ?_
  refine U.done (nr rfl) ?_
  refine WP.ret ?_
  refine fin.slot (.inr rfl) rfl (L 0 rfl rfl) ⟨V20, rfl, (le7.trans le21), ?_⟩
  have ow65 := ow22.drop 0 rfl
  have e66 := Option.some.inj h64
  subst e66
  exact ⟨v11, rfl, ow65⟩
theorem wk_law13_RegsRename (V : Vw) (Rs : List At) (p0 : TFunc) (p1 : Tregs_Map) (v1 : Value) (v3 : Value) (f2 : Fz RT_TIns V v1 p0.code) (f4 : Fz (RT.int .i64) V v3 p1.at_) (ow : Ow V (Rs)) (r : Bool) (h : law13_RegsRename p0 p1 = some r) : ∃ v V', Cl Try.prog 0 5 #[.agg #[.string p0.name, .int .i64 p0.params, .int .i64 p0.regs, v1], .agg #[v3, .int .i64 p1.spill]] V.H v V'.H ∧ V.le V' ∧ (v = .bool r ∧ Ow V' (Rs)) := by
 refine Ct.of (Nat.zero_le _) Try.func5 rfl (nr rfl) ?_
 unfold law13_RegsRename at h
 refine WP.usreg rfl ?_
 refine O.box ow rfl rfl (.inl rfl) rfl (L 0 rfl rfl) (by simp [topV]) rfl nd (fun b5 V6 le7 ow8 => ?_)
 refine O.box ow8 rfl rfl (.inl rfl) rfl (L 2 rfl rfl) (by simp [topV]) rfl nd (fun b10 V11 le12 ow13 => ?_)
 refine U.p rfl rfl (.inl rfl) (S.assign rfl K) ?_
 refine U.done (nr rfl) ?_
 refine WP.seq ?_
 refine WP.usreg rfl ?_
 obtain ⟨x15, hx16, h17⟩ := bindS h
 refine O.call (V := V11) rfl rfl (.inl rfl) rfl en6 aN (wk_law13_alive V11 _ ow13 _ hx16) (fun _ _ _ _ => nd) (fun v18 V19 le20 hp21 => ?_)
 obtain ⟨rfl, ow22⟩ := hp21
 refine U.p rfl rfl (.inl rfl) (S.not rfl (L 0 rfl rfl)) ?_
 refine U.done (nr rfl) ?_
 refine WP.cond _ (L 0 rfl rfl) rfl (fun c23 => ?_) (fun c23 => ?_)
 ·have h24 := ifT c23 h17
  have k25 : x15 = false := nT c23
  refine WP.usreg rfl ?_
  refine U.p rfl rfl (.inl rfl) (S.assign rfl K) ?_
  refine U.done (nr rfl) ?_
  refine WP.ret ?_
  refine sqR ?_
  refine fin.slot (.inr rfl) rfl (L 0 rfl rfl) ⟨V19, rfl, ((le7.trans le12).trans le20), ?_⟩
  have ow26 := ow22.drop 0 rfl
  have ow27 := ow26.drop 0 rfl
  have e28 := Option.some.inj h24
  subst e28
  exact ⟨rfl, ow27⟩
 ·have h29 := ifF c23 h17
  have k30 : x15 = true := nF c23
  refine WP.skip ?_
  refine sqN ?_
  refine WP.seq ?_
  refine WP.usreg rfl ?_
  refine U.p (v := .pointer (some ⟨b5, 3, none⟩)) rfl rfl (.inl rfl) (S.fieldAddr rfl (L 4 rfl rfl) Try.underlying24 rfl ti22 rfl rfl) ?_
  refine U.k rfl rfl (.inl rfl) (S.load rfl (L 0 rfl rfl) Try.underlying22 rfl ((ow22.own (k := 1) rfl).cell rfl)) nd ?_
  refine U.p rfl rfl (.inl rfl) (f2.1.len rfl (L 0 rfl rfl) Try.underlying22) ?_
  refine U.p rfl rfl (.inl rfl) (S.gtr rfl (L 0 rfl rfl) K) ?_
  refine U.p rfl rfl (.inl rfl) (S.move rfl (L 0 rfl rfl)) ?_
  refine U.joinX 10 (fun e H => ∃ (u31 u32 u33 u34 : Value), H = V19.H ∧ e = [(24, .bool ((decide (60 < (p0.code.length : Int))) || (decide (60 < (p1.at_.length : Int))))), (23, u31), (22, u32), (21, u33), (20, u34)]) ?_ ?_
  ·rintro _ _ ⟨u31, u32, u33, u34, rfl, rfl⟩
   refine U.p rfl rfl (.inl rfl) (S.move rfl (L 0 rfl rfl)) ?_
   refine U.joinX 15 (fun e H => ∃ (u38 u39 u40 : Value), H = V19.H ∧ e = [(29, .bool (((decide (60 < (p0.code.length : Int))) || (decide (60 < (p1.at_.length : Int)))) || (decide (1099511627776 < p1.spill)))), (28, u38), (27, u39), (26, u40)]) ?_ ?_
   ·rintro _ _ ⟨u38, u39, u40, rfl, rfl⟩
    refine U.p rfl rfl (.inl rfl) (S.move rfl (L 0 rfl rfl)) ?_
    refine U.joinX 20 (fun e H => ∃ (u44 u45 u46 : Value), H = V19.H ∧ e = [(34, .bool ((((decide (60 < (p0.code.length : Int))) || (decide (60 < (p1.at_.length : Int)))) || (decide (1099511627776 < p1.spill))) || (decide (p1.spill < (-1099511627776))))), (33, u44), (32, u45), (31, u46)]) ?_ ?_
    ·rintro _ _ ⟨u44, u45, u46, rfl, rfl⟩
     refine U.done (nr rfl) ?_
     refine WP.cond _ (L 0 rfl rfl) rfl (fun c50 => ?_) (fun c50 => ?_)
     ·have h51 := ifT c50 h29
      refine WP.usreg rfl ?_
      refine U.p rfl rfl (.inl rfl) (S.assign rfl K) ?_
      refine U.done (nr rfl) ?_
      refine WP.ret ?_
      refine sqR ?_
      refine fin.slot (.inr rfl) rfl (L 0 rfl rfl) ⟨V19, rfl, ((le7.trans le12).trans le20), ?_⟩
      have ow52 := ow22.drop 0 rfl
      have ow53 := ow52.drop 0 rfl
      have e54 := Option.some.inj h51
      subst e54
      exact ⟨rfl, ow53⟩
     ·have h55 := ifF c50 h29
      refine WP.skip ?_
      refine sqN ?_
      refine WP.seq ?_
      refine WP.usreg rfl ?_
      refine U.p (v := .pointer (some ⟨b5, 3, none⟩)) rfl rfl (.inl rfl) (S.fieldAddr rfl (L 24 rfl rfl) Try.underlying24 rfl ti22 rfl rfl) ?_
      refine U.k rfl rfl (.inl rfl) (S.load rfl (L 0 rfl rfl) Try.underlying22 rfl ((ow22.own (k := 1) rfl).cell rfl)) nd ?_
      refine U.p rfl rfl (.inl rfl) (f2.1.len rfl (L 0 rfl rfl) Try.underlying22) ?_
      refine U.p rfl rfl (.inl rfl) (S.move rfl K) ?_
      refine U.done (nr rfl) ?_
      refine WP.blk ?_
      have ow57 := ow22.pick 0 rfl
      have ow58 := ow57.pick 1 rfl
      unfold law13_RegsRename_l1 at h55
      obtain ⟨n60, hn59⟩ := loopO_some.1 h55
      refine WP.loopI2 (fun n l V' => ∃ (x56 : Int), l = [(2, .pointer (some ⟨b5, 0, none⟩)), (3, .pointer (some ⟨b10, 0, none⟩)), (36, v1), (37, .int .i64 (p0.code.length : Int)), (38, .int .i64 x56)] ∧ V19.le V' ∧ Ow V' (.pt b5 (.cells 0 [.string p0.name, .int .i64 p0.params, .int .i64 p0.regs, v1]) :: .pt b10 (.cells 0 [v3, .int .i64 p1.spill]) :: Rs) ∧ itO (fun s => law13_RegsRename_l1b p0 p1 s) n x56 = some r) n60 _ ⟨0, rfl, .refl _, ow58, hn59⟩ (allCons (L 28 rfl rfl) (allCons (L 27 rfl rfl) (allCons (L 2 rfl rfl) (allCons (L 1 rfl rfl) (allCons (L 0 rfl rfl) allNil))))) ?_
      rintro _ _ V61 ⟨x56, rfl, le62, ow63, h67⟩
      obtain ⟨m64, q65, rfl, h68, e66⟩ := itS h67
      replace h68 : law13_RegsRename_l1b p0 p1 x56 = some q65 := h68
      unfold law13_RegsRename_l1b at h68
      refine WP.usreg rfl ?_
      refine U.p rfl rfl (.inl rfl) (S.lss rfl (L 4 rfl rfl) (L 3 rfl rfl)) ?_
      refine U.done (nr rfl) ?_
      refine WP.seq ?_
      refine WP.cond _ (L 0 rfl rfl) rfl (fun c69 => ?_) (fun c69 => ?_)
      ·have h70 := ifT c69 h68
       refine WP.skip ?_
       refine sqN ?_
       refine WP.seq ?_
       refine WP.blk ?_
       refine WP.usreg rfl ?_
       obtain ⟨x71, hx72, h73⟩ := bindS h70
       obtain ⟨b74, o75, c76, cs77, hv78, hf79, hr80, hc81⟩ := f2.at hx72
       obtain ⟨v82, rfl, f83⟩ := hr80
       refine U.p rfl rfl (.inl rfl) (S.index rfl ((L 3 rfl rfl).trans hv78) (L 5 rfl rfl) Try.underlying22 ti29 (ix_ge hx72) (ix_lt hx72)) ?_
       refine U.k rfl rfl (.inl rfl) (S.loadN (cs := [.int .i64 x71.op, .int .i64 x71.d, .int .i64 x71.a, .int .i64 x71.b, .int .i64 x71.imm, v82, .int .i64 x71.what, .bool x71.volatile, .bool x71.final]) rfl (L 0 rfl rfl) Try.underlying29 rfl ti29 rfl (fun j v hj => (((le7.trans le12).trans le20).trans le62).cell hf79 (hc81 j v hj))) nd ?_
       refine O.alloc ow63 rfl rfl (.inl rfl) rfl ti29 rfl rfl nd (fun b84 V85 le86 ow87 => ?_)
       refine O.store (k := 0) (cs := [.int .i64 x71.op, .int .i64 x71.d, .int .i64 x71.a, .int .i64 x71.b, .int .i64 x71.imm, v82, .int .i64 x71.what, .bool x71.volatile, .bool x71.final]) (c' := [.int .i64 x71.op, .int .i64 x71.d, .int .i64 x71.a, .int .i64 x71.b, .int .i64 x71.imm, v82, .int .i64 x71.what, .bool x71.volatile, .bool x71.final]) ow87 rfl rfl rfl (.inl rfl) rfl (L 0 rfl rfl) (L 1 rfl rfl) ti29 (by simp [topV]) rfl rfl (nr rfl) (by have q0 := f83.one; simp only [List.all_cons, List.all_nil, q0]; rfl) rfl nd (fun V89 le90 ow91 => ?_)
       refine U.done (nr rfl) ?_
       refine WP.usreg rfl ?_
       refine U.p (v := .pointer (some ⟨b84, 5, none⟩)) rfl rfl (.inl rfl) (S.fieldAddr rfl (L 0 rfl rfl) Try.underlying29 rfl ti27 rfl rfl) ?_
       refine U.k rfl rfl (.inl rfl) (S.load rfl (L 0 rfl rfl) Try.underlying27 rfl ((ow91.own (k := 0) rfl).cell rfl)) nd ?_
       refine U.p rfl rfl (.inl rfl) (f83.1.len rfl (L 0 rfl rfl) Try.underlying27) ?_
       refine U.p rfl rfl (.inl rfl) (S.gtr rfl (L 0 rfl rfl) K) ?_
       refine U.done (nr rfl) ?_
       refine WP.cond _ (L 0 rfl rfl) rfl (fun c92 => ?_) (fun c92 => ?_)
       ·have h93 := ifT c92 h73
        refine WP.usreg rfl ?_
        refine U.p rfl rfl (.inl rfl) (S.assign rfl K) ?_
        refine U.done (nr rfl) ?_
        refine WP.ret ?_
        refine blkR (sqR (sqR (blkR (sqR ?_))))
        have h94 := exitS h93 e66
        refine fin.slot (.inr rfl) rfl (L 0 rfl rfl) ⟨V89, rfl, (((((le7.trans le12).trans le20).trans le62).trans le86).trans le90), ?_⟩
        have ow95 := ow91.drop 0 rfl
        have ow96 := ow95.drop 0 rfl
        have ow97 := ow96.drop 0 rfl
        have e98 := Option.some.inj h94
        subst e98
        exact ⟨rfl, ow97⟩
       ·have h99 := ifF c92 h73
        refine WP.skip ?_
        refine blkN (sqN ?_)
        refine WP.ureg rfl ?_
        refine U.p rfl rfl (.inl rfl) (S.add rfl (L 12 rfl rfl) K) ?_
        refine U.p rfl rfl (.inl rfl) (S.move rfl (L 0 rfl rfl)) ?_
        refine U.done (nr rfl) ?_
        refine sqN ?_
        have ow100 := ow91.drop 0 rfl
        exact ⟨_, V89, rfl, ⟨m64, Nat.lt_succ_self _, w64 (x56 + 1), rfl, ((le62.trans le86).trans le90), ow100, backS h99 e66⟩, (allCons (L 10 rfl rfl) (allCons (L 11 rfl rfl) (allCons (L 12 rfl rfl) (allCons (L 13 rfl rfl) (allCons (L 0 rfl rfl) allNil)))))⟩
      ·have h101 := ifF c69 h68
       refine WP.exit ?_
       refine sqE (sqE (blkE (sqN ?_)))
       have h102 := exitS h101 e66
       refine WP.usreg rfl ?_
       refine U.k rfl rfl (.inl rfl) (S.loadB rfl (L 1 rfl rfl) Try.underlying24 rfl ti24 (ow63.own (k := 0) rfl).get rfl) nd ?_
       refine U.k rfl rfl (.inl rfl) (S.loadB rfl (L 3 rfl rfl) Try.underlying31 rfl ti31 (ow63.own (k := 1) rfl).get rfl) nd ?_
       have f103 := f2.up (((le7.trans le12).trans le20).trans le62)
       have f104 := f4.up (((le7.trans le12).trans le20).trans le62)
       obtain ⟨x105, hx106, h107⟩ := bindS h102
       refine O.call (V := V61) rfl rfl (.inl rfl) rfl en10 (aC (L 1 rfl rfl) (aC (L 0 rfl rfl) aN)) (wk_regs_Rename V61 _ p0 p1 v1 v3 f103 f104 ow63 _ hx106) (fun _ _ _ _ => nd) (fun v108 V109 le110 hp111 => ?_)
       obtain ⟨v113, rfl, f114, ow112⟩ := hp111
       refine O.alloc ow112 rfl rfl (.inl rfl) rfl ti24 rfl rfl nd (fun b115 V116 le117 ow118 => ?_)
       refine O.store (k := 0) (cs := [.string x105.name, .int .i64 x105.params, .int .i64 x105.regs, v113]) (c' := [.string x105.name, .int .i64 x105.params, .int .i64 x105.regs, v113]) ow118 rfl rfl rfl (.inl rfl) rfl (L 0 rfl rfl) (L 1 rfl rfl) ti24 (by simp [topV]) rfl rfl (nr rfl) (by have q0 := f114.one; simp only [List.all_cons, List.all_nil, q0]; rfl) rfl nd (fun V120 le121 ow122 => ?_)
       refine U.done (nr rfl) ?_
       refine WP.seq ?_
       refine WP.usdreg rfl rfl rfl ?_
       refine U.k rfl rfl (.inl rfl) (S.loadB rfl (L 0 rfl rfl) Try.underlying24 rfl ti24 (ow122.own (k := 0) rfl).get rfl) (fun _ => (okH.nil (fun r h => by cases h; exact (ow122.own (k := 0) rfl).lt))) ?_
       refine U.p (v := .pointer (some ⟨b5, 0, none⟩)) rfl rfl (.inl rfl) (S.fieldAddr rfl (L 6 rfl rfl) Try.underlying24 rfl ti9 rfl rfl) ?_
       refine U.k rfl rfl (.inl rfl) (S.loadC rfl (L 0 rfl rfl) Try.underlying9 rfl ((ow122.own (k := 1) rfl).cell rfl)) (fun _ => (okH.cons trivial (okH.nil (fun r h => by cases h; exact (ow122.own (k := 1) rfl).lt)))) ?_
       refine U.p (v := .pointer (some ⟨b5, 1, none⟩)) rfl rfl (.inl rfl) (S.fieldAddr rfl (L 8 rfl rfl) Try.underlying24 rfl ti3 rfl rfl) ?_
       refine U.k rfl rfl (.inl rfl) (S.loadC rfl (L 0 rfl rfl) Try.underlying3 rfl ((ow122.own (k := 1) rfl).cell rfl)) (fun _ => (okH.cons trivial (okH.cons trivial (okH.nil (fun r h => by cases h; exact (ow122.own (k := 1) rfl).lt))))) ?_
       refine U.p (v := .pointer (some ⟨b10, 1, none⟩)) rfl rfl (.inl rfl) (S.fieldAddr rfl (L 11 rfl rfl) Try.underlying31 rfl ti3 rfl rfl) ?_
       refine U.k rfl rfl (.inl rfl) (S.loadC rfl (L 0 rfl rfl) Try.underlying3 rfl ((ow122.own (k := 2) rfl).cell rfl)) (fun _ => (okH.cons trivial (okH.cons trivial (okH.cons trivial (okH.nil (fun r h => by cases h; exact (ow122.own (k := 2) rfl).lt)))))) ?_
       refine U.p rfl rfl (.inl rfl) (S.add rfl K (L 0 rfl rfl)) ?_
       refine U.k rfl rfl (.inl rfl) (S.loadB rfl (L 13 rfl rfl) Try.underlying24 rfl ti24 (ow122.own (k := 1) rfl).get rfl) (fun _ => (okH.cons trivial (okH.cons trivial (okH.cons trivial (okH.cons trivial (okH.nil (fun r h => by cases h; exact (ow122.own (k := 1) rfl).lt))))))) ?_
       refine U.p (v := .pointer (some ⟨b10, 0, none⟩)) rfl rfl (.inl rfl) (S.fieldAddr rfl (L 15 rfl rfl) Try.underlying31 rfl ti27 rfl rfl) ?_
       refine U.k rfl rfl (.inl rfl) (S.loadC rfl (L 0 rfl rfl) Try.underlying27 rfl ((ow122.own (k := 2) rfl).cell rfl)) (fun _ => (okH.cons trivial (okH.cons trivial (okH.cons trivial (okH.cons trivial (okH.cons trivial (okH.nil (fun r h => by cases h; exact (ow122.own (k := 2) rfl).lt)))))))) ?_
       have f123 := f103.up ((le110.trans le117).trans le121)
       have f124 := f104.up ((le110.trans le117).trans le121)
       obtain ⟨x125, hx126, h127⟩ := bindS h107
       refine O.call (V := V120) rfl rfl (.inl rfl) rfl en12 (aC (L 2 rfl rfl) (aC (L 0 rfl rfl) aN)) (wk_ref13_Code V120 _ p0 p1.at_ v1 v3 f123 f124 ow122 _ hx126) (fun v128 V129 le130 hp131 => by obtain ⟨_, rfl, ow132⟩ := hp131; exact (fun _ => (okH.cons (Or.inl rfl) (okH.cons (Or.inl rfl) (okH.cons (Or.inr ((lookC ((ow132.own (k := 3) rfl).cell rfl) ((ow122.own (k := 2) rfl).cell rfl)))) (okH.cons (Or.inr ((lookC ((ow132.own (k := 2) rfl).cell rfl) ((ow122.own (k := 1) rfl).cell rfl)))) (okH.cons (Or.inr ((lookC ((ow132.own (k := 2) rfl).cell rfl) ((ow122.own (k := 1) rfl).cell rfl)))) (okH.cons (Or.inr (((ow132.own (k := 1) rfl).get.trans (ow122.own (k := 0) rfl).get.symm))) (okH.nil (fun r h => nomatch h)))))))))) (fun v128 V129 le130 hp131 => ?_)
       obtain ⟨_, rfl, ow132⟩ := hp131
       refine U.p (v := .agg #[.string p0.name, .int .i64 p0.params, .int .i64 (w64 (10 + p1.spill)), v128]) rfl rfl (.inl rfl) (S.build (vs := [.string p0.name, .int .i64 p0.params, .int .i64 (w64 (10 + p1.spill)), v128]) rfl ti24 rfl pl24 (aC (L 9 rfl rfl) (aC (L 7 rfl rfl) (aC (L 4 rfl rfl) (aC (L 0 rfl rfl) aN)))) (allC (by simp [topV]) (allC (by simp [topV]) (allC (by simp [topV]) (allC (ow132.osne (k := 0) rfl) allN)))) (fill1 rfl rfl (nr rfl) (fill1 rfl rfl (nr rfl) (fill1 rfl rfl (nr rfl) (fill1 rfl (ow132.oscells (k := 0) rfl) (nr rfl) rfl))))) ?_
       have f135 := f114.up ((le117.trans le121).trans le130)
       obtain ⟨V136, eV140, le137, f138, ow139⟩ := ow132.osfz (k := 0) rfl
       rw [← eV140]
       have f142 := f135.up le137
       obtain ⟨x143, hx144, h145⟩ := bindS h127
       refine O.call (V := V136) rfl rfl (.inl rfl) rfl en11 (aC (L 12 rfl rfl) (aC (L 0 rfl rfl) aN)) (wk_ref11_Same V136 _ x105 (⟨p0.name, p0.params, w64 (10 + p1.spill), x125⟩ : TFunc) v113 v128 f142 f138 ow139 _ hx144) (fun v146 V147 le148 hp149 => by obtain ⟨rfl, ow150⟩ := hp149; exact (fun _ => (okH.cons rfl (okH.cons (Or.inl rfl) (okH.cons (Or.inl rfl) (okH.cons (Or.inl rfl) (okH.cons (Or.inl rfl) (okH.cons (Or.inl rfl) (okH.cons (Or.inl rfl) (okH.nil (fun r h => nomatch h))))))))))) (fun v146 V147 le148 hp149 => ?_)
       obtain ⟨rfl, ow150⟩ := hp149
       refine U.p rfl rfl (.inl rfl) (S.not rfl (L 0 rfl rfl)) ?_
       refine U.done (nr rfl) ?_
       refine WP.cond _ (L 0 rfl rfl) rfl (fun c151 => ?_) (fun c151 => ?_)
       ·have h152 := ifT c151 h145
        have k153 : x143 = false := nT c151
        refine WP.usreg rfl ?_
        refine U.p rfl rfl (.inl rfl) (S.assign rfl K) ?_
        refine U.done (nr rfl) ?_
        refine WP.ret ?_
        refine sqR ?_
        refine fin.slot (.inr rfl) rfl (L 0 rfl rfl) ⟨V147, rfl, (((((((((le7.trans le12).trans le20).trans le62).trans le110).trans le117).trans le121).trans le130).trans le137).trans le148), ?_⟩
        have ow154 := ow150.drop 0 rfl
        have ow155 := ow154.drop 0 rfl
        have ow156 := ow155.drop 0 rfl
        have e157 := Option.some.inj h152
        subst e157
        exact ⟨rfl, ow156⟩
       ·have h158 := ifF c151 h145
        have k159 : x143 = true := nF c151
        refine WP.skip ?_
        refine sqN ?_
        refine WP.usreg rfl ?_
        refine U.k rfl rfl (.inl rfl) (S.loadB rfl (L 21 rfl rfl) Try.underlying31 rfl ti31 (ow150.own (k := 2) rfl).get rfl) nd ?_
        have f160 := f124.up ((le130.trans le137).trans le148)
        obtain ⟨x161, hx162, h163⟩ := bindS h158
        refine O.call (V := V147) rfl rfl (.inl rfl) rfl en13 (aC (L 0 rfl rfl) aN) (wk_regs_Map_Used V147 _ p1 v3 f160 ow150 _ hx162) (fun _ _ _ _ => nd) (fun v164 V165 le166 hp167 => ?_)
        obtain ⟨_, rfl, ow168⟩ := hp167
        refine U.p rfl rfl (.inl rfl) (S.assign rfl (L 0 rfl rfl)) ?_
        refine U.done (nr rfl) ?_
        refine WP.usreg rfl ?_
        refine U.p rfl rfl (.inl rfl) (S.assign rfl K) ?_
        refine U.done (nr rfl) ?_
        refine WP.seq ?_
        refine WP.usreg rfl ?_
        refine U.p rfl rfl (.inl rfl) (S.assign rfl K) ?_
        refine U.done (nr rfl) ?_
        refine WP.blk ?_
        have ow173 := ow168.drop 1 rfl
        have ow174 := ow173.drop 1 rfl
        have ow175 := ow174.pick 0 rfl
        have ow176 := ow175.pick 1 rfl
        unfold law13_RegsRename_l2 at h163
        obtain ⟨n178, hn177⟩ := loopO_some.1 h163
        refine WP.loopI2 (fun n l V' => ∃ (x171 : Int) (x172 : Int), l = [(3, .pointer (some ⟨b10, 0, none⟩)), (8, v164), (9, .int .i64 x171), (10, .int .i64 x172)] ∧ V165.le V' ∧ Ow V' (.pt b10 (.cells 0 [v3, .int .i64 p1.spill]) :: .os (RT.int .i64) v164 x161 :: Rs) ∧ itO (fun s => law13_RegsRename_l2b p1 x161 s.1 s.2) n (x171, x172) = some r) n178 _ ⟨0, 0, rfl, .refl _, ow176, hn177⟩ (allCons (L 26 rfl rfl) (allCons (L 2 rfl rfl) (allCons (L 1 rfl rfl) (allCons (L 0 rfl rfl) allNil)))) ?_
        rintro _ _ V179 ⟨x171, x172, rfl, le180, ow181, h185⟩
        obtain ⟨m182, q183, rfl, h186, e184⟩ := itS h185
        replace h186 : law13_RegsRename_l2b p1 x161 x171 x172 = some q183 := h186
        unfold law13_RegsRename_l2b at h186
        refine WP.seq ?_
        refine WP.usreg rfl ?_
        refine U.p rfl rfl (.inl rfl) (S.move rfl (L 3 rfl rfl)) ?_
        refine U.p rfl rfl (.inl rfl) (S.lss rfl (L 0 rfl rfl) K) ?_
        refine U.done (nr rfl) ?_
        refine WP.cond _ (L 0 rfl rfl) rfl (fun c187 => ?_) (fun c187 => ?_)
        ·have h188 := ifT c187 h186
         refine WP.skip ?_
         refine sqN ?_
         refine WP.seqI (fun l V' => ∃ (x189 : Int), l = [(3, .pointer (some ⟨b10, 0, none⟩)), (8, v164), (9, .int .i64 x189), (10, .int .i64 x172)] ∧ V179.le V' ∧ Ow V' (.pt b10 (.cells 0 [v3, .int .i64 p1.spill]) :: .os (RT.int .i64) v164 x161 :: Rs) ∧ law13_RegsRename_k1 x172 x189 = some q183) ?_ ?_
         ·rintro _ V190 ⟨x189, rfl, le191, ow192, h193⟩
          unfold law13_RegsRename_k1 at h193
          refine WP.ureg rfl ?_
          refine U.p rfl rfl (.inl rfl) (S.move rfl (L 3 rfl rfl)) ?_
          refine U.p rfl rfl (.inl rfl) (S.add rfl (L 0 rfl rfl) K) ?_
          refine U.p rfl rfl (.inl rfl) (S.assign rfl (L 0 rfl rfl)) ?_
          refine U.done (nr rfl) ?_
          refine sqN ?_
          exact ⟨_, V190, rfl, ⟨m182, Nat.lt_succ_self _, x189, w64 (x172 + 1), rfl, (le180.trans le191), ow192, backS h193 e184⟩, (allCons (L 3 rfl rfl) (allCons (L 4 rfl rfl) (allCons (L 5 rfl rfl) (allCons (L 0 rfl rfl) allNil))))⟩
         ·skip
          refine WP.blk ?_
          refine WP.usreg rfl ?_
          refine U.p (v := .pointer (some ⟨b10, 0, none⟩)) rfl rfl (.inl rfl) (S.fieldAddr rfl (L 2 rfl rfl) Try.underlying31 rfl ti27 rfl rfl) ?_
          refine U.k rfl rfl (.inl rfl) (S.load rfl (L 0 rfl rfl) Try.underlying27 rfl ((ow181.own (k := 0) rfl).cell rfl)) nd ?_
          refine U.p rfl rfl (.inl rfl) (f160.1.len rfl (L 0 rfl rfl) Try.underlying27) ?_
          refine U.p rfl rfl (.inl rfl) (S.move rfl K) ?_
          refine U.done (nr rfl) ?_
          refine WP.blk ?_
          unfold law13_RegsRename_l3 at h188
          obtain ⟨n196, hn195⟩ := loopO_some.1 h188
          refine WP.loopI2 (fun n l V' => ∃ (x194 : Int), l = [(3, .pointer (some ⟨b10, 0, none⟩)), (8, v164), (9, .int .i64 x171), (10, .int .i64 x172), (72, v3), (73, .int .i64 (p1.at_.length : Int)), (74, .int .i64 x194)] ∧ V179.le V' ∧ Ow V' (.pt b10 (.cells 0 [v3, .int .i64 p1.spill]) :: .os (RT.int .i64) v164 x161 :: Rs) ∧ itO (fun s => law13_RegsRename_l3b p1 x161 x171 x172 s) n x194 = some q183) n196 _ ⟨0, rfl, .refl _, ow181, hn195⟩ (allCons (L 6 rfl rfl) (allCons (L 7 rfl rfl) (allCons (L 8 rfl rfl) (allCons (L 9 rfl rfl) (allCons (L 2 rfl rfl) (allCons (L 1 rfl rfl) (allCons (L 0 rfl rfl) allNil))))))) ?_
          rintro _ _ V197 ⟨x194, rfl, le198, ow199, h203⟩
          obtain ⟨m200, q201, rfl, h204, e202⟩ := itS h203
          replace h204 : law13_RegsRename_l3b p1 x161 x171 x172 x194 = some q201 := h204
          unfold law13_RegsRename_l3b at h204
          refine WP.usreg rfl ?_
          refine U.p rfl rfl (.inl rfl) (S.lss rfl (L 6 rfl rfl) (L 5 rfl rfl)) ?_
          refine U.done (nr rfl) ?_
          refine WP.seq ?_
          refine WP.cond _ (L 0 rfl rfl) rfl (fun c205 => ?_) (fun c205 => ?_)
          ·have h206 := ifT c205 h204
           refine WP.skip ?_
           refine sqN ?_
           refine WP.seq ?_
           refine WP.blk ?_
           refine WP.usreg rfl ?_
           obtain ⟨x207, hx208, h209⟩ := bindS h206
           obtain ⟨b210, o211, c212, cs213, hv214, hf215, hr216, hc217⟩ := f160.at hx208
           obtain rfl : cs213 = [.int .i64 x207] := hr216
           refine U.p rfl rfl (.inl rfl) (S.index rfl ((L 5 rfl rfl).trans hv214) (L 7 rfl rfl) Try.underlying27 ti3 (ix_ge hx208) (ix_lt hx208)) ?_
           refine U.k rfl rfl (.inl rfl) (S.load rfl (L 0 rfl rfl) Try.underlying3 rfl (((le166.trans le180).trans le198).cell hf215 (hc217 0 _ rfl))) nd ?_
           refine U.p rfl rfl (.inl rfl) (S.assign rfl (L 0 rfl rfl)) ?_
           refine U.done (nr rfl) ?_
           refine WP.usreg rfl ?_
           refine U.p rfl rfl (.inl rfl) (S.move rfl (L 0 rfl rfl)) ?_
           refine U.p rfl rfl (.inl rfl) (S.move rfl (L 8 rfl rfl)) ?_
           refine U.p rfl rfl (.inl rfl) (S.eqlI rfl (L 1 rfl rfl) (L 0 rfl rfl)) ?_
           refine U.done (nr rfl) ?_
           refine WP.cond _ (L 0 rfl rfl) rfl (fun c218 => ?_) (fun c218 => ?_)
           ·have h219 := ifT c218 h209
            refine WP.seq ?_
            refine WP.usreg rfl ?_
            refine U.p rfl rfl (.inl rfl) (S.move rfl (L 9 rfl rfl)) ?_
            refine U.p rfl rfl (.inl rfl) (S.move rfl (L 9 rfl rfl)) ?_
            refine U.p rfl rfl (.inl rfl) (ow199.oslen (k := 1) rfl rfl (L 0 rfl rfl) Try.underlying27) ?_
            refine U.p rfl rfl (.inl rfl) (S.geq rfl (L 2 rfl rfl) (L 0 rfl rfl)) ?_
            refine U.p rfl rfl (.inl rfl) (S.move rfl (L 0 rfl rfl)) ?_
            obtain ⟨y220, hy221, h222⟩ := bindS h219
            refine U.joinX 12 (fun e H => ∃ (u223 u224 u225 u226 u227 u228 : Value), H = V197.H ∧ e = [(92, .bool y220), (91, u223), (90, u224), (89, u225), (88, u226), (87, u227), (86, u228)]) ?_ ?_
            ·rintro _ _ ⟨u223, u224, u225, u226, u227, u228, rfl, rfl⟩
             refine U.done (nr rfl) ?_
             refine WP.cond _ (L 0 rfl rfl) rfl (fun c232 => ?_) (fun c232 => ?_)
             ·have h233 := ifT c232 h222
              refine WP.usreg rfl ?_
              refine U.p rfl rfl (.inl rfl) (S.assign rfl K) ?_
              refine U.done (nr rfl) ?_
              refine WP.ret ?_
              refine sqR (blkR (sqR (sqR (blkR (blkR (sqR (sqR (blkR (sqR ?_)))))))))
              have h234 := exitS h233 e202
              have h235 := exitS h234 e184
              refine fin.slot (.inr rfl) rfl (L 0 rfl rfl) ⟨V197, rfl, ((((((((((((le7.trans le12).trans le20).trans le62).trans le110).trans le117).trans le121).trans le130).trans le137).trans le148).trans le166).trans le180).trans le198), ?_⟩
              have ow236 := ow199.drop 0 rfl
              have ow237 := ow236.drop 0 rfl
              have e238 := Option.some.inj h235
              subst e238
              exact ⟨rfl, ow237⟩
             ·have h239 := ifF c232 h222
              refine WP.skip ?_
              refine sqN ?_
              refine WP.usreg rfl ?_
              refine U.p rfl rfl (.inl rfl) (S.move rfl (L 21 rfl rfl)) ?_
              refine U.p rfl rfl (.inl rfl) (S.add rfl (L 0 rfl rfl) K) ?_
              refine U.p rfl rfl (.inl rfl) (S.assign rfl (L 0 rfl rfl)) ?_
              refine U.done (nr rfl) ?_
              refine WP.exit ?_
              refine blkO rfl (sqE (sqE (blkE (blkN (sqN ?_)))))
              have h240 := exitS h239 e202
              exact ⟨_, V197, rfl, ⟨w64 (x171 + 1), rfl, le198, ow199, h240⟩, (allCons (L 22 rfl rfl) (allCons (L 23 rfl rfl) (allCons (L 0 rfl rfl) (allCons (L 25 rfl rfl) allNil))))⟩
            ·intro kk
             refine bcase (b := decide ((x161.length : Int) ≤ x171)) (fun g241 => ?_) (fun g241 => ?_)
             ·have h242 := ifT g241 hy221
              refine U.x rfl rfl rfl rfl ((L 0 rfl rfl).trans (cB g241)) (by decide) ?_
              refine U.x rfl rfl rfl rfl ((L 1 rfl rfl).trans (cB g241)) (by decide) ?_
              refine U.x rfl rfl rfl rfl ((L 2 rfl rfl).trans (cB g241)) (by decide) ?_
              refine U.x rfl rfl rfl rfl ((L 3 rfl rfl).trans (cB g241)) (by decide) ?_
              refine U.x rfl rfl rfl rfl ((L 4 rfl rfl).trans (cB g241)) (by decide) ?_
              refine U.x rfl rfl rfl rfl ((L 5 rfl rfl).trans (cB g241)) (by decide) ?_
              refine U.p rfl rfl (.inl rfl) (S.pickT rfl ((L 6 rfl rfl).trans (cB g241)) K) ?_
              have e243 := Option.some.inj h242
              subst e243
              exact kk [(92, .bool true), (91, .tuple #[]), (90, .tuple #[]), (89, .tuple #[]), (88, .tuple #[]), (87, .tuple #[]), (86, .tuple #[])] _ ⟨.tuple #[], .tuple #[], .tuple #[], .tuple #[], .tuple #[], .tuple #[], rfl, rfl⟩
             ·have h244 := ifF g241 hy221
              refine U.p rfl rfl (.inr ⟨_, _, _, rfl, rfl, ((L 0 rfl rfl).trans (cB g241))⟩) (S.move rfl (L 13 rfl rfl)) ?_
              refine U.p rfl rfl (.inr ⟨_, _, _, rfl, rfl, ((L 1 rfl rfl).trans (cB g241))⟩) (S.move rfl (L 15 rfl rfl)) ?_
              obtain ⟨x245, hx246, h247⟩ := bindS h244
              obtain ⟨b248, o249, n250, c251, hv252⟩ := ow199.ospt (k := 1) rfl hx246
              obtain ⟨_, hv253, _⟩ := ow199.osel (k := 1) rfl hv252 hx246
              refine U.p rfl rfl (.inr ⟨_, _, _, rfl, rfl, ((L 2 rfl rfl).trans (cB g241))⟩) (S.index rfl ((L 1 rfl rfl).trans hv253) (L 0 rfl rfl) Try.underlying27 ti3 (ix_ge hx246) (ix_lt hx246)) ?_
              obtain ⟨cs254, hv255, hlt256, hr257, hc258⟩ := ow199.osel (k := 1) rfl hv252 hx246
              obtain rfl : cs254 = [.int .i64 x245] := hr257
              refine U.k rfl rfl (.inr ⟨_, _, _, rfl, rfl, ((L 3 rfl rfl).trans (cB g241))⟩) (S.load rfl (L 0 rfl rfl) Try.underlying3 rfl (hc258 0 _ rfl)) nd ?_
              refine U.p rfl rfl (.inr ⟨_, _, _, rfl, rfl, ((L 4 rfl rfl).trans (cB g241))⟩) (S.move rfl (L 19 rfl rfl)) ?_
              refine U.p rfl rfl (.inr ⟨_, _, _, rfl, rfl, ((L 5 rfl rfl).trans (cB g241))⟩) (S.neqI rfl (L 1 rfl rfl) (L 0 rfl rfl)) ?_
              refine U.p rfl rfl (.inl rfl) (S.pickF rfl ((L 6 rfl rfl).trans (cB g241)) (L 0 rfl rfl)) ?_
              have e259 := Option.some.inj h247
              subst e259
              exact kk [(92, .bool (decide (x245 ≠ x172))), (91, .bool (decide (x245 ≠ x172))), (90, .int .i64 x172), (89, .int .i64 x245), (88, .pointer (some ⟨b248, o249 + Int.toNat x171 * 1, none⟩)), (87, .int .i64 x171), (86, v164)] _ ⟨.bool (decide (x245 ≠ x172)), .int .i64 x172, .int .i64 x245, .pointer (some ⟨b248, o249 + Int.toNat x171 * 1, none⟩), .int .i64 x171, v164, rfl, rfl⟩
           ·have h260 := ifF c218 h209
            refine WP.skip ?_
            refine blkN (sqN ?_)
            refine WP.ureg rfl ?_
            refine U.p rfl rfl (.inl rfl) (S.add rfl (L 13 rfl rfl) K) ?_
            refine U.p rfl rfl (.inl rfl) (S.move rfl (L 0 rfl rfl)) ?_
            refine U.done (nr rfl) ?_
            refine sqN ?_
            exact ⟨_, V197, rfl, ⟨m200, Nat.lt_succ_self _, w64 (x194 + 1), rfl, le198, ow199, backS h260 e202⟩, (allCons (L 9 rfl rfl) (allCons (L 10 rfl rfl) (allCons (L 11 rfl rfl) (allCons (L 12 rfl rfl) (allCons (L 13 rfl rfl) (allCons (L 14 rfl rfl) (allCons (L 0 rfl rfl) allNil)))))))⟩
          ·have h261 := ifF c205 h204
           refine WP.exit ?_
           refine sqE (sqE (blkE (blkN (sqN ?_))))
           have h262 := exitS h261 e202
           exact ⟨_, V197, rfl, ⟨x171, rfl, le198, ow199, h262⟩, (allCons (L 1 rfl rfl) (allCons (L 2 rfl rfl) (allCons (L 3 rfl rfl) (allCons (L 4 rfl rfl) allNil))))⟩
        ·have h263 := ifF c187 h186
         refine WP.exit ?_
         refine sqE (sqE (blkE (sqN ?_)))
         have h264 := exitS h263 e184
         refine WP.usreg rfl ?_
         refine U.p rfl rfl (.inl rfl) (S.move rfl (L 4 rfl rfl)) ?_
         refine U.p rfl rfl (.inl rfl) (S.move rfl (L 4 rfl rfl)) ?_
         refine U.p rfl rfl (.inl rfl) (ow181.oslen (k := 1) rfl rfl (L 0 rfl rfl) Try.underlying27) ?_
         refine U.p rfl rfl (.inl rfl) (S.eqlI rfl (L 2 rfl rfl) (L 0 rfl rfl)) ?_
         refine U.p rfl rfl (.inl rfl) (S.assign rfl (L 0 rfl rfl)) ?_
         refine U.done (nr rfl) ?_
         refine WP.ret ?_
         refine fin.slot (.inr rfl) rfl (L 0 rfl rfl) ⟨V179, rfl, (((((((((((le7.trans le12).trans le20).trans le62).trans le110).trans le117).trans le121).trans le130).trans le137).trans le148).trans le166).trans le180), ?_⟩
         have ow265 := ow181.drop 0 rfl
         have ow266 := ow265.drop 0 rfl
         have e267 := Option.some.inj h264
         subst e267
         exact ⟨rfl, ow266⟩
    ·intro kk
     refine bcase (b := ((decide (60 < (p0.code.length : Int))) || (decide (60 < (p1.at_.length : Int)))) || (decide (1099511627776 < p1.spill))) (fun g268 => ?_) (fun g268 => ?_)
     ·skip
      refine U.x rfl rfl rfl rfl ((L 0 rfl rfl).trans (cB g268)) (by decide) ?_
      refine U.x rfl rfl rfl rfl ((L 1 rfl rfl).trans (cB g268)) (by decide) ?_
      refine U.x rfl rfl rfl rfl ((L 2 rfl rfl).trans (cB g268)) (by decide) ?_
      refine U.p rfl rfl (.inl rfl) (S.pickT rfl ((L 3 rfl rfl).trans (cB g268)) K) ?_
      exact kk [(34, .bool true), (33, .tuple #[]), (32, .tuple #[]), (31, .tuple #[])] _ ⟨.tuple #[], .tuple #[], .tuple #[], rfl, (by rw [g268, Bool.true_or])⟩
     ·skip
      refine U.p (v := .pointer (some ⟨b10, 1, none⟩)) rfl rfl (.inr ⟨_, _, _, rfl, rfl, ((L 0 rfl rfl).trans (cB g268))⟩) (S.fieldAddr rfl (L 19 rfl rfl) Try.underlying31 rfl ti3 rfl rfl) ?_
      refine U.k rfl rfl (.inr ⟨_, _, _, rfl, rfl, ((L 1 rfl rfl).trans (cB g268))⟩) (S.load rfl (L 0 rfl rfl) Try.underlying3 rfl ((ow22.own (k := 0) rfl).cell rfl)) nd ?_
      refine U.p rfl rfl (.inr ⟨_, _, _, rfl, rfl, ((L 2 rfl rfl).trans (cB g268))⟩) (S.lss rfl (L 0 rfl rfl) K) ?_
      refine U.p rfl rfl (.inl rfl) (S.pickF rfl ((L 3 rfl rfl).trans (cB g268)) (L 0 rfl rfl)) ?_
      exact kk [(34, .bool (decide (p1.spill < (-1099511627776)))), (33, .bool (decide (p1.spill < (-1099511627776)))), (32, .int .i64 p1.spill), (31, .pointer (some ⟨b10, 1, none⟩))] _ ⟨.bool (decide (p1.spill < (-1099511627776))), .int .i64 p1.spill, .pointer (some ⟨b10, 1, none⟩), rfl, (by rw [g268, Bool.false_or])⟩
   ·intro kk
    refine bcase (b := (decide (60 < (p0.code.length : Int))) || (decide (60 < (p1.at_.length : Int)))) (fun g269 => ?_) (fun g269 => ?_)
    ·skip
     refine U.x rfl rfl rfl rfl ((L 0 rfl rfl).trans (cB g269)) (by decide) ?_
     refine U.x rfl rfl rfl rfl ((L 1 rfl rfl).trans (cB g269)) (by decide) ?_
     refine U.x rfl rfl rfl rfl ((L 2 rfl rfl).trans (cB g269)) (by decide) ?_
     refine U.p rfl rfl (.inl rfl) (S.pickT rfl ((L 3 rfl rfl).trans (cB g269)) K) ?_
     exact kk [(29, .bool true), (28, .tuple #[]), (27, .tuple #[]), (26, .tuple #[])] _ ⟨.tuple #[], .tuple #[], .tuple #[], rfl, (by rw [g269, Bool.true_or])⟩
    ·skip
     refine U.p (v := .pointer (some ⟨b10, 1, none⟩)) rfl rfl (.inr ⟨_, _, _, rfl, rfl, ((L 0 rfl rfl).trans (cB g269))⟩) (S.fieldAddr rfl (L 14 rfl rfl) Try.underlying31 rfl ti3 rfl rfl) ?_
     refine U.k rfl rfl (.inr ⟨_, _, _, rfl, rfl, ((L 1 rfl rfl).trans (cB g269))⟩) (S.load rfl (L 0 rfl rfl) Try.underlying3 rfl ((ow22.own (k := 0) rfl).cell rfl)) nd ?_
     refine U.p rfl rfl (.inr ⟨_, _, _, rfl, rfl, ((L 2 rfl rfl).trans (cB g269))⟩) (S.gtr rfl (L 0 rfl rfl) K) ?_
     refine U.p rfl rfl (.inl rfl) (S.pickF rfl ((L 3 rfl rfl).trans (cB g269)) (L 0 rfl rfl)) ?_
     exact kk [(29, .bool (decide (1099511627776 < p1.spill))), (28, .bool (decide (1099511627776 < p1.spill))), (27, .int .i64 p1.spill), (26, .pointer (some ⟨b10, 1, none⟩))] _ ⟨.bool (decide (1099511627776 < p1.spill)), .int .i64 p1.spill, .pointer (some ⟨b10, 1, none⟩), rfl, (by rw [g269, Bool.false_or])⟩
  ·intro kk
   refine bcase (b := decide (60 < (p0.code.length : Int))) (fun g270 => ?_) (fun g270 => ?_)
   ·skip
    refine U.x rfl rfl rfl rfl ((L 0 rfl rfl).trans (cB g270)) (by decide) ?_
    refine U.x rfl rfl rfl rfl ((L 1 rfl rfl).trans (cB g270)) (by decide) ?_
    refine U.x rfl rfl rfl rfl ((L 2 rfl rfl).trans (cB g270)) (by decide) ?_
    refine U.x rfl rfl rfl rfl ((L 3 rfl rfl).trans (cB g270)) (by decide) ?_
    refine U.p rfl rfl (.inl rfl) (S.pickT rfl ((L 4 rfl rfl).trans (cB g270)) K) ?_
    exact kk [(24, .bool true), (23, .tuple #[]), (22, .tuple #[]), (21, .tuple #[]), (20, .tuple #[])] _ ⟨.tuple #[], .tuple #[], .tuple #[], .tuple #[], rfl, (by rw [g270, Bool.true_or])⟩
   ·skip
    refine U.p (v := .pointer (some ⟨b10, 0, none⟩)) rfl rfl (.inr ⟨_, _, _, rfl, rfl, ((L 0 rfl rfl).trans (cB g270))⟩) (S.fieldAddr rfl (L 8 rfl rfl) Try.underlying31 rfl ti27 rfl rfl) ?_
    refine U.k rfl rfl (.inr ⟨_, _, _, rfl, rfl, ((L 1 rfl rfl).trans (cB g270))⟩) (S.load rfl (L 0 rfl rfl) Try.underlying27 rfl ((ow22.own (k := 0) rfl).cell rfl)) nd ?_
    refine U.p rfl rfl (.inr ⟨_, _, _, rfl, rfl, ((L 2 rfl rfl).trans (cB g270))⟩) (f4.1.len rfl (L 0 rfl rfl) Try.underlying27) ?_
    refine U.p rfl rfl (.inr ⟨_, _, _, rfl, rfl, ((L 3 rfl rfl).trans (cB g270))⟩) (S.gtr rfl (L 0 rfl rfl) K) ?_
    refine U.p rfl rfl (.inl rfl) (S.pickF rfl ((L 4 rfl rfl).trans (cB g270)) (L 0 rfl rfl)) ?_
    exact kk [(24, .bool (decide (60 < (p1.at_.length : Int)))), (23, .bool (decide (60 < (p1.at_.length : Int)))), (22, .int .i64 (p1.at_.length : Int)), (21, v3), (20, .pointer (some ⟨b10, 0, none⟩))] _ ⟨.bool (decide (60 < (p1.at_.length : Int))), .int .i64 (p1.at_.length : Int), v3, .pointer (some ⟨b10, 0, none⟩), rfl, (by rw [g270, Bool.false_or])⟩
end Go.Vm.G13
