/-
  What the functions compute is what the plain ones say, for all inputs at which those answer.
-/
import Derived.Test.YtllkfanfdbnogaaEWG10
set_option linter.unusedSimpArgs false
set_option linter.unusedVariables false
namespace Go.Vm.G10
open Go Go.Proofs

set_option maxHeartbeats 4000000 in
theorem wk_ref10_reads (V : Vw) (Rs : List At) (p0 : TIns) (p1 : Int) (v1 : Value) (f2 : Fz (RT.int .i64) V v1 p0.args) (ow : Ow V (Rs)) (r : Bool) (h : ref10_reads p0 p1 = some r) : ∃ v V', Cl Try.prog 0 23 #[.agg #[.int .i64 p0.op, .int .i64 p0.d, .int .i64 p0.a, .int .i64 p0.b, .int .i64 p0.imm, v1, .int .i64 p0.what, .bool p0.volatile, .bool p0.final], .int .i64 p1] V.H v V'.H ∧ V.le V' ∧ (v = .bool r ∧ Ow V' (Rs)) := by
  refine Ct.of (Nat.zero_le _) Try.func23 rfl (Nat.le_of_ble_eq_true rfl) ?_
  unfold ref10_reads at h
  refine WP.usreg rfl ?_
  refine O.box ow rfl rfl (.inl rfl) rfl (L 0 rfl rfl) (by simp [topV]) rfl nd (fun b3 V4 le5 ow6 => ?_)
  refine U.p rfl rfl (.inl rfl) (S.assign rfl K) ?_
  refine U.done (Nat.le_of_ble_eq_true rfl) ?_
  refine WP.seq ?_
  refine WP.usreg rfl ?_
  refine U.p (v := .pointer (some ⟨b3, 5, none⟩)) rfl rfl (.inl rfl) (S.fieldAddr rfl (L 1 rfl rfl) Try.underlying33 rfl ti31 rfl rfl) ?_
  refine U.k rfl rfl (.inl rfl) (S.load rfl (L 0 rfl rfl) Try.underlying31 rfl ((ow6.own (k := 0) rfl).cell rfl)) nd ?_
  refine U.p rfl rfl (.inl rfl) (f2.1.len rfl (L 0 rfl rfl) Try.underlying31) ?_
  refine U.p rfl rfl (.inl rfl) (S.move rfl K) ?_
  refine U.done (Nat.le_of_ble_eq_true rfl) ?_
  refine WP.blk ?_
  unfold ref10_reads_l1 at h
  obtain ⟨n10, hn9⟩ := loopO_some.1 h
  refine WP.loopI2 (fun n l V' => ∃ (x8 : Int), l = [(1, .int .i64 p1), (2, .pointer (some ⟨b3, 0, none⟩)), (8, v1), (9, .int .i64 (p0.args.length : Int)), (10, .int .i64 x8)] ∧ V4.le V' ∧ Ow V' (.pt b3 (.cells 0 [.int .i64 p0.op, .int .i64 p0.d, .int .i64 p0.a, .int .i64 p0.b, .int .i64 p0.imm, v1, .int .i64 p0.what, .bool p0.volatile, .bool p0.final]) :: Rs) ∧ itO (fun s => ref10_reads_l1b p0 p1 s) n x8 = some r) n10 _ ⟨0, rfl, .refl _, ow6, hn9⟩ (allCons (L 7 rfl rfl) (allCons (L 5 rfl rfl) (allCons (L 2 rfl rfl) (allCons (L 1 rfl rfl) (allCons (L 0 rfl rfl) allNil))))) ?_
  rintro _ _ V11 ⟨x8, rfl, le12, ow13, h17⟩
  obtain ⟨m14, q15, rfl, h18, e16⟩ := itS h17
  replace h18 : ref10_reads_l1b p0 p1 x8 = some q15 := h18
  unfold ref10_reads_l1b at h18
  refine WP.usreg rfl ?_
  refine U.p rfl rfl (.inl rfl) (S.lss rfl (L 4 rfl rfl) (L 3 rfl rfl)) ?_
  refine U.done (Nat.le_of_ble_eq_true rfl) ?_
  refine WP.seq ?_
  refine WP.cond _ (L 0 rfl rfl) rfl (fun c19 => ?_) (fun c19 => ?_)
  · have h20 := ifT c19 h18
    refine WP.skip ?_
    refine sqN ?_
    refine WP.seq ?_
    refine WP.blk ?_
    refine WP.usreg rfl ?_
    obtain ⟨x21, hx22, h23⟩ := bindS h20
    obtain ⟨b24, o25, c26, cs27, hv28, hf29, hr30, hc31⟩ := f2.at hx22
    obtain rfl : cs27 = [.int .i64 x21] := hr30
    refine U.p rfl rfl (.inl rfl) (S.index rfl ((L 3 rfl rfl).trans hv28) (L 5 rfl rfl) Try.underlying31 ti3 (ix_ge hx22) (ix_lt hx22)) ?_
    refine U.k rfl rfl (.inl rfl) (S.load rfl (L 0 rfl rfl) Try.underlying3 rfl ((le5.trans le12).cell hf29 (hc31 0 _ rfl))) nd ?_
    refine U.p rfl rfl (.inl rfl) (S.assign rfl (L 0 rfl rfl)) ?_
    refine U.done (Nat.le_of_ble_eq_true rfl) ?_
    refine WP.usreg rfl ?_
    refine U.p rfl rfl (.inl rfl) (S.move rfl (L 0 rfl rfl)) ?_
    refine U.p rfl rfl (.inl rfl) (S.move rfl (L 5 rfl rfl)) ?_
    refine U.p rfl rfl (.inl rfl) (S.eqlI rfl (L 1 rfl rfl) (L 0 rfl rfl)) ?_
    refine U.done (Nat.le_of_ble_eq_true rfl) ?_
    refine WP.cond _ (L 0 rfl rfl) rfl (fun c32 => ?_) (fun c32 => ?_)
    · have h33 := ifT c32 h23
      refine WP.usreg rfl ?_
      refine U.p rfl rfl (.inl rfl) (S.assign rfl K) ?_
      refine U.done (Nat.le_of_ble_eq_true rfl) ?_
      refine WP.ret ?_
      refine blkR (sqR (sqR (blkR (sqR ?_))))
      have h34 := exitS h33 e16
      refine fin.slot (.inr rfl) rfl (L 0 rfl rfl) ⟨V11, rfl, (le5.trans le12), ?_⟩
      have ow35 := ow13.drop 0 rfl
      have e36 := Option.some.inj h34
      subst e36
      exact ⟨rfl, ow35⟩
    · have h37 := ifF c32 h23
      refine WP.skip ?_
      refine blkN (sqN ?_)
      refine WP.ureg rfl ?_
      refine U.p rfl rfl (.inl rfl) (S.add rfl (L 11 rfl rfl) K) ?_
      refine U.p rfl rfl (.inl rfl) (S.move rfl (L 0 rfl rfl)) ?_
      refine U.done (Nat.le_of_ble_eq_true rfl) ?_
      refine sqN ?_
      exact ⟨_, V11, rfl, ⟨m14, Nat.lt_succ_self _, w64 (x8 + 1), rfl, le12, ow13, backS h37 e16⟩, (allCons (L 9 rfl rfl) (allCons (L 10 rfl rfl) (allCons (L 11 rfl rfl) (allCons (L 12 rfl rfl) (allCons (L 0 rfl rfl) allNil)))))⟩
  · have h38 := ifF c19 h18
    refine WP.exit ?_
    refine sqE (sqE (blkE (sqN ?_)))
    have h39 := exitS h38 e16
    refine WP.usreg rfl ?_
    refine U.p (v := .pointer (some ⟨b3, 2, none⟩)) rfl rfl (.inl rfl) (S.fieldAddr rfl (L 2 rfl rfl) Try.underlying33 rfl ti3 rfl rfl) ?_
    refine U.k rfl rfl (.inl rfl) (S.load rfl (L 0 rfl rfl) Try.underlying3 rfl ((ow13.own (k := 0) rfl).cell rfl)) nd ?_
    refine U.p rfl rfl (.inl rfl) (S.move rfl (L 3 rfl rfl)) ?_
    refine U.p rfl rfl (.inl rfl) (S.eqlI rfl (L 1 rfl rfl) (L 0 rfl rfl)) ?_
    refine U.p rfl rfl (.inl rfl) (S.move rfl (L 0 rfl rfl)) ?_
    refine U.joinX 10 (fun e H => ∃ (u40 u41 u42 u43 : Value), H = V11.H ∧ e = [(27, .bool ((decide (p0.a = p1)) || (decide (p0.b = p1)))), (26, u40), (25, u41), (24, u42), (23, u43)]) ?_ ?_
    · rintro _ _ ⟨u40, u41, u42, u43, rfl, rfl⟩
      refine U.p rfl rfl (.inl rfl) (S.assign rfl (L 0 rfl rfl)) ?_
      refine U.done (Nat.le_of_ble_eq_true rfl) ?_
      refine WP.ret ?_
      refine fin.slot (.inr rfl) rfl (L 0 rfl rfl) ⟨V11, rfl, (le5.trans le12), ?_⟩
      have ow47 := ow13.drop 0 rfl
      have e48 := Option.some.inj h39
      subst e48
      exact ⟨rfl, ow47⟩
    · intro kk
      refine bcase (b := decide (p0.a = p1)) (fun g49 => ?_) (fun g49 => ?_)
      · skip
        refine U.x rfl rfl rfl rfl ((L 0 rfl rfl).trans (congrArg Value.bool g49)) (by decide) ?_
        refine U.x rfl rfl rfl rfl ((L 1 rfl rfl).trans (congrArg Value.bool g49)) (by decide) ?_
        refine U.x rfl rfl rfl rfl ((L 2 rfl rfl).trans (congrArg Value.bool g49)) (by decide) ?_
        refine U.x rfl rfl rfl rfl ((L 3 rfl rfl).trans (congrArg Value.bool g49)) (by decide) ?_
        refine U.p rfl rfl (.inl rfl) (S.pickT rfl ((L 4 rfl rfl).trans (congrArg Value.bool g49)) K) ?_
        exact kk [(27, .bool true), (26, .tuple #[]), (25, .tuple #[]), (24, .tuple #[]), (23, .tuple #[])] _ ⟨.tuple #[], .tuple #[], .tuple #[], .tuple #[], rfl, (by rw [g49, Bool.true_or])⟩
      · skip
        refine U.p (v := .pointer (some ⟨b3, 3, none⟩)) rfl rfl (.inr ⟨_, _, _, rfl, rfl, ((L 0 rfl rfl).trans (congrArg Value.bool g49))⟩) (S.fieldAddr rfl (L 7 rfl rfl) Try.underlying33 rfl ti3 rfl rfl) ?_
        refine U.k rfl rfl (.inr ⟨_, _, _, rfl, rfl, ((L 1 rfl rfl).trans (congrArg Value.bool g49))⟩) (S.load rfl (L 0 rfl rfl) Try.underlying3 rfl ((ow13.own (k := 0) rfl).cell rfl)) nd ?_
        refine U.p rfl rfl (.inr ⟨_, _, _, rfl, rfl, ((L 2 rfl rfl).trans (congrArg Value.bool g49))⟩) (S.move rfl (L 8 rfl rfl)) ?_
        refine U.p rfl rfl (.inr ⟨_, _, _, rfl, rfl, ((L 3 rfl rfl).trans (congrArg Value.bool g49))⟩) (S.eqlI rfl (L 1 rfl rfl) (L 0 rfl rfl)) ?_
        refine U.p rfl rfl (.inl rfl) (S.pickF rfl ((L 4 rfl rfl).trans (congrArg Value.bool g49)) (L 0 rfl rfl)) ?_
        exact kk [(27, .bool (decide (p0.b = p1))), (26, .bool (decide (p0.b = p1))), (25, .int .i64 p1), (24, .int .i64 p0.b), (23, .pointer (some ⟨b3, 3, none⟩))] _ ⟨.bool (decide (p0.b = p1)), .int .i64 p1, .int .i64 p0.b, .pointer (some ⟨b3, 3, none⟩), rfl, (by rw [g49, Bool.false_or])⟩

set_option maxHeartbeats 4000000 in
theorem wk_ref10_Next (V : Vw) (Rs : List At) (p0 : TFunc) (p1 : Int) (v1 : Value) (f2 : Fz RT_TIns V v1 p0.code) (ow : Ow V (Rs)) (r : List Int) (h : ref10_Next p0 p1 = some r) : ∃ v V', Cl Try.prog 0 16 #[.agg #[.string p0.name, .int .i64 p0.params, .int .i64 p0.regs, v1], .int .i64 p1] V.H v V'.H ∧ V.le V' ∧ (∃ (v3 : Value), v = v3 ∧ Ow V' (.os (RT.int .i64) v3 r :: Rs)) := by
  refine Ct.of (Nat.zero_le _) Try.func16 rfl (Nat.le_of_ble_eq_true rfl) ?_
  unfold ref10_Next at h
  refine WP.usreg rfl ?_
  refine O.box ow rfl rfl (.inl rfl) rfl (L 0 rfl rfl) (by simp [topV]) rfl nd (fun b5 V6 le7 ow8 => ?_)
  refine U.p rfl rfl (.inl rfl) (S.assign rfl K) ?_
  refine U.done (Nat.le_of_ble_eq_true rfl) ?_
  refine WP.seq ?_
  refine WP.usreg rfl ?_
  refine U.p rfl rfl (.inl rfl) (S.move rfl (L 3 rfl rfl)) ?_
  refine U.p rfl rfl (.inl rfl) (S.lss rfl (L 0 rfl rfl) K) ?_
  refine U.p rfl rfl (.inl rfl) (S.move rfl (L 0 rfl rfl)) ?_
  refine U.joinX 9 (fun e H => ∃ (u10 u11 u12 u13 u14 : Value), H = V6.H ∧ e = [(17, .bool ((decide (p1 < 0)) || (decide ((p0.code.length : Int) ≤ p1)))), (16, u10), (15, u11), (14, u12), (13, u13), (12, u14)]) ?_ ?_
  · rintro _ _ ⟨u10, u11, u12, u13, u14, rfl, rfl⟩
    refine U.done (Nat.le_of_ble_eq_true rfl) ?_
    refine WP.cond _ (L 0 rfl rfl) rfl (fun c18 => ?_) (fun c18 => ?_)
    · have h19 := ifT c18 h
      refine WP.usreg rfl ?_
      refine U.p rfl rfl (.inl rfl) (S.assign rfl K) ?_
      refine U.done (Nat.le_of_ble_eq_true rfl) ?_
      refine WP.ret ?_
      refine sqR ?_
      have ow20 := ow8.nil (RT.int .i64)
      refine fin.slot (.inr rfl) rfl (L 0 rfl rfl) ⟨V6, rfl, le7, ?_⟩
      have ow22 := ow20.drop 1 rfl
      have e23 := Option.some.inj h19
      subst e23
      exact ⟨(.slice none 0 0), rfl, ow22⟩
    · have h24 := ifF c18 h
      refine WP.skip ?_
      refine sqN ?_
      refine WP.usreg rfl ?_
      refine U.p (v := .pointer (some ⟨b5, 3, none⟩)) rfl rfl (.inl rfl) (S.fieldAddr rfl (L 10 rfl rfl) Try.underlying24 rfl ti22 rfl rfl) ?_
      refine U.k rfl rfl (.inl rfl) (S.load rfl (L 0 rfl rfl) Try.underlying22 rfl ((ow8.own (k := 0) rfl).cell rfl)) nd ?_
      refine U.p rfl rfl (.inl rfl) (S.move rfl (L 14 rfl rfl)) ?_
      obtain ⟨x25, hx26, h27⟩ := bindS h24
      obtain ⟨b28, o29, c30, cs31, hv32, hf33, hr34, hc35⟩ := f2.at hx26
      obtain ⟨v36, rfl, f37⟩ := hr34
      refine U.p rfl rfl (.inl rfl) (S.index rfl ((L 1 rfl rfl).trans hv32) (L 0 rfl rfl) Try.underlying22 ti33 (ix_ge hx26) (ix_lt hx26)) ?_
      refine U.k rfl rfl (.inl rfl) (S.loadN (cs := [.int .i64 x25.op, .int .i64 x25.d, .int .i64 x25.a, .int .i64 x25.b, .int .i64 x25.imm, v36, .int .i64 x25.what, .bool x25.volatile, .bool x25.final]) rfl (L 0 rfl rfl) Try.underlying33 rfl ti33 rfl (fun j v hj => le7.cell hf33 (hc35 j v hj))) nd ?_
      refine O.alloc ow8 rfl rfl (.inl rfl) rfl ti33 rfl rfl nd (fun b38 V39 le40 ow41 => ?_)
      refine O.store (k := 0) (cs := [.int .i64 x25.op, .int .i64 x25.d, .int .i64 x25.a, .int .i64 x25.b, .int .i64 x25.imm, v36, .int .i64 x25.what, .bool x25.volatile, .bool x25.final]) (c' := [.int .i64 x25.op, .int .i64 x25.d, .int .i64 x25.a, .int .i64 x25.b, .int .i64 x25.imm, v36, .int .i64 x25.what, .bool x25.volatile, .bool x25.final]) ow41 rfl rfl rfl (.inl rfl) rfl (L 0 rfl rfl) (L 1 rfl rfl) ti33 (by simp [topV]) rfl rfl (Nat.le_of_ble_eq_true rfl) (by have q0 := f37.one; simp only [List.all_cons, List.all_nil, q0]; rfl) rfl nd (fun V43 le44 ow45 => ?_)
      refine U.done (Nat.le_of_ble_eq_true rfl) ?_
      refine WP.usreg rfl ?_
      refine U.p rfl rfl (.inl rfl) (S.assign rfl K) ?_
      refine U.done (Nat.le_of_ble_eq_true rfl) ?_
      refine WP.seqI (fun l V' => ∃ (v47 : Value) (xs48 : List Int), l = [(2, .pointer (some ⟨b5, 0, none⟩)), (5, .pointer (some ⟨b38, 0, none⟩)), (6, v47)] ∧ V43.le V' ∧ Ow V' (.pt b5 (.cells 0 [.string p0.name, .int .i64 p0.params, .int .i64 p0.regs, v1]) :: .pt b38 (.cells 9 [.int .i64 x25.op, .int .i64 x25.d, .int .i64 x25.a, .int .i64 x25.b, .int .i64 x25.imm, v36, .int .i64 x25.what, .bool x25.volatile, .bool x25.final]) :: .os (RT.int .i64) v47 xs48 :: Rs) ∧ ref10_Next_k1 p0 x25 xs48 = some r) ?_ ?_
      · rintro _ V49 ⟨v47, xs48, rfl, le50, ow51, h52⟩
        unfold ref10_Next_k1 at h52
        refine WP.seqI (fun l V' => ∃ (v54 : Value) (xs55 : List Int), l = [(6, v54)] ∧ V49.le V' ∧ Ow V' (.os (RT.int .i64) v54 xs55 :: Rs) ∧ ref10_Next_k2 xs55 = some r) ?_ ?_
        · rintro _ V56 ⟨v54, xs55, rfl, le57, ow58, h59⟩
          unfold ref10_Next_k2 at h59
          refine WP.usreg rfl ?_
          refine U.p rfl rfl (.inl rfl) (S.move rfl (L 0 rfl rfl)) ?_
          refine U.p rfl rfl (.inl rfl) (S.assign rfl (L 0 rfl rfl)) ?_
          refine U.done (Nat.le_of_ble_eq_true rfl) ?_
          refine WP.ret ?_
          refine fin.slot (.inr rfl) rfl (L 0 rfl rfl) ⟨V56, rfl, ((((le7.trans le40).trans le44).trans le50).trans le57), ?_⟩
          have e60 := Option.some.inj h59
          subst e60
          exact ⟨v54, rfl, ow58⟩
        · skip
          refine WP.usreg rfl ?_
          refine U.p (v := .pointer (some ⟨b38, 0, none⟩)) rfl rfl (.inl rfl) (S.fieldAddr rfl (L 1 rfl rfl) Try.underlying33 rfl ti3 rfl rfl) ?_
          refine U.k rfl rfl (.inl rfl) (S.load rfl (L 0 rfl rfl) Try.underlying3 rfl ((ow51.own (k := 1) rfl).cell rfl)) nd ?_
          refine U.p rfl rfl (.inl rfl) (S.eqlI rfl (L 0 rfl rfl) K) ?_
          refine U.p rfl rfl (.inl rfl) (S.move rfl (L 0 rfl rfl)) ?_
          refine U.joinX 8 (fun e H => ∃ (u61 u62 u63 : Value), H = V49.H ∧ e = [(56, .bool ((decide (x25.op = 12)) || (decide (x25.op = 13)))), (55, u61), (54, u62), (53, u63)]) ?_ ?_
          · rintro _ _ ⟨u61, u62, u63, rfl, rfl⟩
            refine U.p rfl rfl (.inl rfl) (S.move rfl (L 0 rfl rfl)) ?_
            refine U.joinX 13 (fun e H => ∃ (u67 u68 u69 : Value), H = V49.H ∧ e = [(61, .bool (((decide (x25.op = 12)) || (decide (x25.op = 13))) || (decide (x25.op = 17)))), (60, u67), (59, u68), (58, u69)]) ?_ ?_
            · rintro _ _ ⟨u67, u68, u69, rfl, rfl⟩
              refine U.done (Nat.le_of_ble_eq_true rfl) ?_
              refine WP.cond _ (L 0 rfl rfl) rfl (fun c73 => ?_) (fun c73 => ?_)
              · have h74 := ifT c73 h52
                refine WP.usreg rfl ?_
                refine U.p (v := .pointer (some ⟨b5, 3, none⟩)) rfl rfl (.inl rfl) (S.fieldAddr rfl (L 13 rfl rfl) Try.underlying24 rfl ti22 rfl rfl) ?_
                refine U.k rfl rfl (.inl rfl) (S.load rfl (L 0 rfl rfl) Try.underlying22 rfl ((ow51.own (k := 0) rfl).cell rfl)) nd ?_
                refine U.p rfl rfl (.inl rfl) (f2.1.len rfl (L 0 rfl rfl) Try.underlying22) ?_
                refine U.p rfl rfl (.inl rfl) (S.move rfl K) ?_
                refine U.done (Nat.le_of_ble_eq_true rfl) ?_
                refine WP.blk ?_
                have ow79 := ow51.drop 0 rfl
                unfold ref10_Next_l1 at h74
                obtain ⟨n81, hn80⟩ := loopO_some.1 h74
                refine WP.loopI2 (fun n l V' => ∃ (v76 : Value) (xs77 : List Int) (x78 : Int), l = [(5, .pointer (some ⟨b38, 0, none⟩)), (6, v76), (63, v1), (64, .int .i64 (p0.code.length : Int)), (65, .int .i64 x78)] ∧ V49.le V' ∧ Ow V' (.pt b38 (.cells 9 [.int .i64 x25.op, .int .i64 x25.d, .int .i64 x25.a, .int .i64 x25.b, .int .i64 x25.imm, v36, .int .i64 x25.what, .bool x25.volatile, .bool x25.final]) :: .os (RT.int .i64) v76 xs77 :: Rs) ∧ itO (fun s => ref10_Next_l1b p0 x25 s.1 s.2) n (xs77, x78) = some r) n81 _ ⟨v47, xs48, 0, rfl, .refl _, ow79, hn80⟩ (allCons (L 18 rfl rfl) (allCons (L 19 rfl rfl) (allCons (L 2 rfl rfl) (allCons (L 1 rfl rfl) (allCons (L 0 rfl rfl) allNil))))) ?_
                rintro _ _ V82 ⟨v76, xs77, x78, rfl, le83, ow84, h88⟩
                obtain ⟨m85, q86, rfl, h89, e87⟩ := itS h88
                replace h89 : ref10_Next_l1b p0 x25 xs77 x78 = some q86 := h89
                unfold ref10_Next_l1b at h89
                refine WP.usreg rfl ?_
                refine U.p rfl rfl (.inl rfl) (S.lss rfl (L 4 rfl rfl) (L 3 rfl rfl)) ?_
                refine U.done (Nat.le_of_ble_eq_true rfl) ?_
                refine WP.seq ?_
                refine WP.cond _ (L 0 rfl rfl) rfl (fun c90 => ?_) (fun c90 => ?_)
                · have h91 := ifT c90 h89
                  refine WP.skip ?_
                  refine sqN ?_
                  refine WP.seqI (fun l V' => ∃ (v93 : Value) (xs94 : List Int), l = [(5, .pointer (some ⟨b38, 0, none⟩)), (6, v93), (63, v1), (64, .int .i64 (p0.code.length : Int)), (65, .int .i64 x78)] ∧ V82.le V' ∧ Ow V' (.pt b38 (.cells 9 [.int .i64 x25.op, .int .i64 x25.d, .int .i64 x25.a, .int .i64 x25.b, .int .i64 x25.imm, v36, .int .i64 x25.what, .bool x25.volatile, .bool x25.final]) :: .os (RT.int .i64) v93 xs94 :: Rs) ∧ ref10_Next_k3 x78 xs94 = some q86) ?_ ?_
                  · rintro _ V95 ⟨v93, xs94, rfl, le96, ow97, h98⟩
                    unfold ref10_Next_k3 at h98
                    refine WP.ureg rfl ?_
                    refine U.p rfl rfl (.inl rfl) (S.add rfl (L 4 rfl rfl) K) ?_
                    refine U.p rfl rfl (.inl rfl) (S.move rfl (L 0 rfl rfl)) ?_
                    refine U.done (Nat.le_of_ble_eq_true rfl) ?_
                    refine sqN ?_
                    exact ⟨_, V95, rfl, ⟨m85, Nat.lt_succ_self _, v93, xs94, w64 (x78 + 1), rfl, (le83.trans le96), ow97, backS h98 e87⟩, (allCons (L 2 rfl rfl) (allCons (L 3 rfl rfl) (allCons (L 4 rfl rfl) (allCons (L 5 rfl rfl) (allCons (L 0 rfl rfl) allNil)))))⟩
                  · skip
                    refine WP.blk ?_
                    refine WP.usreg rfl ?_
                    refine U.p rfl rfl (.inl rfl) (S.move rfl (L 5 rfl rfl)) ?_
                    obtain ⟨x99, hx100, h101⟩ := bindS h91
                    obtain ⟨b102, o103, c104, cs105, hv106, hf107, hr108, hc109⟩ := f2.at hx100
                    obtain ⟨v110, rfl, f111⟩ := hr108
                    refine U.p rfl rfl (.inl rfl) (S.index rfl ((L 4 rfl rfl).trans hv106) (L 6 rfl rfl) Try.underlying22 ti33 (ix_ge hx100) (ix_lt hx100)) ?_
                    refine U.k rfl rfl (.inl rfl) (S.loadN (cs := [.int .i64 x99.op, .int .i64 x99.d, .int .i64 x99.a, .int .i64 x99.b, .int .i64 x99.imm, v110, .int .i64 x99.what, .bool x99.volatile, .bool x99.final]) rfl (L 0 rfl rfl) Try.underlying33 rfl ti33 rfl (fun j v hj => ((((le7.trans le40).trans le44).trans le50).trans le83).cell hf107 (hc109 j v hj))) nd ?_
                    refine O.alloc ow84 rfl rfl (.inl rfl) rfl ti33 rfl rfl nd (fun b112 V113 le114 ow115 => ?_)
                    refine U.p rfl rfl (.inl rfl) (S.assign rfl (L 3 rfl rfl)) ?_
                    refine O.store (k := 0) (cs := [.int .i64 x99.op, .int .i64 x99.d, .int .i64 x99.a, .int .i64 x99.b, .int .i64 x99.imm, v110, .int .i64 x99.what, .bool x99.volatile, .bool x99.final]) (c' := [.int .i64 x99.op, .int .i64 x99.d, .int .i64 x99.a, .int .i64 x99.b, .int .i64 x99.imm, v110, .int .i64 x99.what, .bool x99.volatile, .bool x99.final]) ow115 rfl rfl rfl (.inl rfl) rfl (L 1 rfl rfl) (L 2 rfl rfl) ti33 (by simp [topV]) rfl rfl (Nat.le_of_ble_eq_true rfl) (by have q0 := f111.one; simp only [List.all_cons, List.all_nil, q0]; rfl) rfl nd (fun V117 le118 ow119 => ?_)
                    refine U.done (Nat.le_of_ble_eq_true rfl) ?_
                    refine WP.usreg rfl ?_
                    refine U.p (v := .pointer (some ⟨b112, 0, none⟩)) rfl rfl (.inl rfl) (S.fieldAddr rfl (L 1 rfl rfl) Try.underlying33 rfl ti3 rfl rfl) ?_
                    refine U.k rfl rfl (.inl rfl) (S.load rfl (L 0 rfl rfl) Try.underlying3 rfl ((ow119.own (k := 0) rfl).cell rfl)) nd ?_
                    refine U.p rfl rfl (.inl rfl) (S.eqlI rfl (L 0 rfl rfl) K) ?_
                    refine U.p rfl rfl (.inl rfl) (S.move rfl (L 0 rfl rfl)) ?_
                    refine U.joinX 10 (fun e H => ∃ (u120 u121 u122 u123 u124 : Value), H = V117.H ∧ e = [(79, .bool ((decide (x99.op = 11)) && (decide (x99.imm = x25.imm)))), (78, u120), (77, u121), (76, u122), (75, u123), (74, u124)]) ?_ ?_
                    · rintro _ _ ⟨u120, u121, u122, u123, u124, rfl, rfl⟩
                      refine U.p rfl rfl (.inl rfl) (S.move rfl (L 0 rfl rfl)) ?_
                      obtain ⟨y128, hy129, h130⟩ := bindS h101
                      refine U.joinX 22 (fun e H => ∃ (u131 u132 u133 u134 u135 u136 u137 u138 u139 u140 : Value), H = V117.H ∧ e = [(91, .bool y128), (90, u131), (89, u132), (88, u133), (87, u134), (86, u135), (85, u136), (84, u137), (83, u138), (82, u139), (81, u140)]) ?_ ?_
                      · rintro _ _ ⟨u131, u132, u133, u134, u135, u136, u137, u138, u139, u140, rfl, rfl⟩
                        refine U.done (Nat.le_of_ble_eq_true rfl) ?_
                        refine WP.cond _ (L 0 rfl rfl) rfl (fun c144 => ?_) (fun c144 => ?_)
                        · have h145 := ifT c144 h130
                          refine WP.ureg rfl ?_
                          refine U.p rfl rfl (.inl rfl) (S.move rfl (L 29 rfl rfl)) ?_
                          refine U.p rfl rfl (.inl rfl) (S.move rfl (L 23 rfl rfl)) ?_
                          refine O.lit (R := (RT.int .i64)) ow119 rfl rfl (.inl rfl) rfl Try.underlying31 ti3 rfl rfl rfl (Nat.le_of_ble_eq_true rfl) rfl (aC (L 0 rfl rfl) aN) (.cons _ _ x78 _ (by simp [topV]) rfl .nil) (fun _ => nd) (fun v146 V147 le148 ow149 => ?_)
                          obtain ⟨xs151, hx152, h153⟩ := bindS h145
                          refine O.append (k := 3) ow149 rfl rfl rfl (.inl rfl) rfl (L 2 rfl rfl) (L 0 rfl rfl) Try.underlying31 ti3 rfl rfl (Nat.le_of_ble_eq_true rfl) (ow149.src (k := 0) rfl Try.underlying31) hx152 (fun _ _ => nd) (fun v154 V155 le156 ow157 => ?_)
                          refine U.p rfl rfl (.inl rfl) (S.assign rfl (L 0 rfl rfl)) ?_
                          refine U.done (Nat.le_of_ble_eq_true rfl) ?_
                          refine blkN (sqN ?_)
                          have ow159 := ow157.drop 0 rfl
                          have ow160 := ow159.drop 0 rfl
                          exact ⟨_, V155, rfl, ⟨v154, xs151, rfl, (((le114.trans le118).trans le148).trans le156), ow160, h153⟩, (allCons (L 33 rfl rfl) (allCons (L 0 rfl rfl) (allCons (L 35 rfl rfl) (allCons (L 36 rfl rfl) (allCons (L 37 rfl rfl) allNil)))))⟩
                        · have h161 := ifF c144 h130
                          refine WP.skip ?_
                          refine blkN (sqN ?_)
                          have ow162 := ow119.drop 0 rfl
                          exact ⟨_, V117, rfl, ⟨v76, xs77, rfl, (le114.trans le118), ow162, h161⟩, (allCons (L 28 rfl rfl) (allCons (L 29 rfl rfl) (allCons (L 30 rfl rfl) (allCons (L 31 rfl rfl) (allCons (L 32 rfl rfl) allNil)))))⟩
                      · intro kk
                        refine bcase (b := (decide (x99.op = 11)) && (decide (x99.imm = x25.imm))) (fun g163 => ?_) (fun g163 => ?_)
                        · have h164 := ifT g163 hy129
                          refine U.p rfl rfl (.inr ⟨_, _, _, rfl, rfl, ((L 0 rfl rfl).trans (congrArg Value.bool g163))⟩) (S.move rfl (L 18 rfl rfl)) ?_
                          refine U.p rfl rfl (.inr ⟨_, _, _, rfl, rfl, ((L 1 rfl rfl).trans (congrArg Value.bool g163))⟩) (ow119.oslen (k := 2) rfl rfl (L 0 rfl rfl) Try.underlying31) ?_
                          refine U.p rfl rfl (.inr ⟨_, _, _, rfl, rfl, ((L 2 rfl rfl).trans (congrArg Value.bool g163))⟩) (S.eqlI rfl (L 0 rfl rfl) K) ?_
                          refine U.p rfl rfl (.inr ⟨_, _, _, rfl, rfl, ((L 3 rfl rfl).trans (congrArg Value.bool g163))⟩) (S.move rfl (L 0 rfl rfl)) ?_
                          obtain ⟨y165, hy166, h167⟩ := bindS h164
                          refine U.joinX 21 (fun e H => ∃ (u168 u169 u170 u171 u172 : Value), H = V117.H ∧ e = [(90, .bool y165), (89, u168), (88, u169), (87, u170), (86, u171), (85, u172)]) ?_ ?_
                          · rintro _ _ ⟨u168, u169, u170, u171, u172, rfl, rfl⟩
                            refine U.p rfl rfl (.inl rfl) (S.pickT rfl ((L 10 rfl rfl).trans (congrArg Value.bool g163)) (L 0 rfl rfl)) ?_
                            have e176 := Option.some.inj h167
                            subst e176
                            exact kk [(91, .bool y165), (90, .bool y165), (89, u168), (88, u169), (87, u170), (86, u171), (85, u172), (84, .bool (decide ((xs77.length : Int) = 0))), (83, .bool (decide ((xs77.length : Int) = 0))), (82, .int .i64 (xs77.length : Int)), (81, v76)] _ ⟨.bool y165, u168, u169, u170, u171, u172, .bool (decide ((xs77.length : Int) = 0)), .bool (decide ((xs77.length : Int) = 0)), .int .i64 (xs77.length : Int), v76, rfl, rfl⟩
                          · intro kk
                            refine bcase (b := decide ((xs77.length : Int) = 0)) (fun g177 => ?_) (fun g177 => ?_)
                            · have h178 := ifT g177 hy166
                              refine U.x rfl rfl rfl rfl ((L 0 rfl rfl).trans (congrArg Value.bool g177)) (by decide) ?_
                              refine U.x rfl rfl rfl rfl ((L 1 rfl rfl).trans (congrArg Value.bool g177)) (by decide) ?_
                              refine U.x rfl rfl rfl rfl ((L 2 rfl rfl).trans (congrArg Value.bool g177)) (by decide) ?_
                              refine U.x rfl rfl rfl rfl ((L 3 rfl rfl).trans (congrArg Value.bool g177)) (by decide) ?_
                              refine U.x rfl rfl rfl rfl ((L 4 rfl rfl).trans (congrArg Value.bool g177)) (by decide) ?_
                              refine U.p rfl rfl (.inr ⟨_, _, _, rfl, rfl, ((L 9 rfl rfl).trans (congrArg Value.bool g163))⟩) (S.pickT rfl ((L 5 rfl rfl).trans (congrArg Value.bool g177)) K) ?_
                              have e179 := Option.some.inj h178
                              subst e179
                              exact kk [(90, .bool true), (89, .tuple #[]), (88, .tuple #[]), (87, .tuple #[]), (86, .tuple #[]), (85, .tuple #[])] _ ⟨.tuple #[], .tuple #[], .tuple #[], .tuple #[], .tuple #[], rfl, rfl⟩
                            · have h180 := ifF g177 hy166
                              refine U.p rfl rfl (.inr ⟨_, _, _, rfl, rfl, ((L 0 rfl rfl).trans (congrArg Value.bool g177))⟩) (S.move rfl (L 22 rfl rfl)) ?_
                              obtain ⟨x181, hx182, h183⟩ := bindS h180
                              obtain ⟨b184, o185, n186, c187, hv188⟩ := ow119.ospt (k := 2) rfl hx182
                              obtain ⟨_, hv189, _⟩ := ow119.osel (k := 2) rfl hv188 hx182
                              refine U.p rfl rfl (.inr ⟨_, _, _, rfl, rfl, ((L 1 rfl rfl).trans (congrArg Value.bool g177))⟩) (S.index rfl ((L 0 rfl rfl).trans hv189) K Try.underlying31 ti3 (ix_ge hx182) (ix_lt hx182)) ?_
                              obtain ⟨cs190, hv191, hlt192, hr193, hc194⟩ := ow119.osel (k := 2) rfl hv188 hx182
                              obtain rfl : cs190 = [.int .i64 x181] := hr193
                              refine U.k rfl rfl (.inr ⟨_, _, _, rfl, rfl, ((L 2 rfl rfl).trans (congrArg Value.bool g177))⟩) (S.load rfl (L 0 rfl rfl) Try.underlying3 rfl (hc194 0 _ rfl)) nd ?_
                              refine U.p rfl rfl (.inr ⟨_, _, _, rfl, rfl, ((L 3 rfl rfl).trans (congrArg Value.bool g177))⟩) (S.move rfl (L 18 rfl rfl)) ?_
                              refine U.p rfl rfl (.inr ⟨_, _, _, rfl, rfl, ((L 4 rfl rfl).trans (congrArg Value.bool g177))⟩) (S.neqI rfl (L 1 rfl rfl) (L 0 rfl rfl)) ?_
                              refine U.p rfl rfl (.inr ⟨_, _, _, rfl, rfl, ((L 9 rfl rfl).trans (congrArg Value.bool g163))⟩) (S.pickF rfl ((L 5 rfl rfl).trans (congrArg Value.bool g177)) (L 0 rfl rfl)) ?_
                              have e195 := Option.some.inj h183
                              subst e195
                              exact kk [(90, .bool (decide (x181 ≠ x78))), (89, .bool (decide (x181 ≠ x78))), (88, .int .i64 x78), (87, .int .i64 x181), (86, .pointer (some ⟨b184, o185 + Int.toNat 0 * 1, none⟩)), (85, v76)] _ ⟨.bool (decide (x181 ≠ x78)), .int .i64 x78, .int .i64 x181, .pointer (some ⟨b184, o185 + Int.toNat 0 * 1, none⟩), v76, rfl, rfl⟩
                        · have h196 := ifF g163 hy129
                          refine U.x rfl rfl rfl rfl ((L 0 rfl rfl).trans (congrArg Value.bool g163)) (by decide) ?_
                          refine U.x rfl rfl rfl rfl ((L 1 rfl rfl).trans (congrArg Value.bool g163)) (by decide) ?_
                          refine U.x rfl rfl rfl rfl ((L 2 rfl rfl).trans (congrArg Value.bool g163)) (by decide) ?_
                          refine U.x rfl rfl rfl rfl ((L 3 rfl rfl).trans (congrArg Value.bool g163)) (by decide) ?_
                          refine U.z rfl rfl rfl rfl (L 0 rfl rfl) ?_
                          refine U.z rfl rfl rfl rfl (L 1 rfl rfl) ?_
                          refine U.z rfl rfl rfl rfl (L 2 rfl rfl) ?_
                          refine U.z rfl rfl rfl rfl (L 3 rfl rfl) ?_
                          refine U.z rfl rfl rfl rfl (L 4 rfl rfl) ?_
                          refine U.x rfl rfl rfl rfl ((L 9 rfl rfl).trans (congrArg Value.bool g163)) (by decide) ?_
                          refine U.p rfl rfl (.inl rfl) (S.pickF rfl ((L 10 rfl rfl).trans (congrArg Value.bool g163)) K) ?_
                          have e197 := Option.some.inj h196
                          subst e197
                          exact kk [(91, .bool false), (90, .tuple #[]), (89, .tuple #[]), (88, .tuple #[]), (87, .tuple #[]), (86, .tuple #[]), (85, .tuple #[]), (84, .tuple #[]), (83, .tuple #[]), (82, .tuple #[]), (81, .tuple #[])] _ ⟨.tuple #[], .tuple #[], .tuple #[], .tuple #[], .tuple #[], .tuple #[], .tuple #[], .tuple #[], .tuple #[], .tuple #[], rfl, rfl⟩
                    · intro kk
                      refine bcase (b := decide (x99.op = 11)) (fun g198 => ?_) (fun g198 => ?_)
                      · skip
                        refine U.p (v := .pointer (some ⟨b112, 4, none⟩)) rfl rfl (.inr ⟨_, _, _, rfl, rfl, ((L 0 rfl rfl).trans (congrArg Value.bool g198))⟩) (S.fieldAddr rfl (L 5 rfl rfl) Try.underlying33 rfl ti3 rfl rfl) ?_
                        refine U.k rfl rfl (.inr ⟨_, _, _, rfl, rfl, ((L 1 rfl rfl).trans (congrArg Value.bool g198))⟩) (S.load rfl (L 0 rfl rfl) Try.underlying3 rfl ((ow119.own (k := 0) rfl).cell rfl)) nd ?_
                        refine U.p (v := .pointer (some ⟨b38, 4, none⟩)) rfl rfl (.inr ⟨_, _, _, rfl, rfl, ((L 2 rfl rfl).trans (congrArg Value.bool g198))⟩) (S.fieldAddr rfl (L 12 rfl rfl) Try.underlying33 rfl ti3 rfl rfl) ?_
                        refine U.k rfl rfl (.inr ⟨_, _, _, rfl, rfl, ((L 3 rfl rfl).trans (congrArg Value.bool g198))⟩) (S.load rfl (L 0 rfl rfl) Try.underlying3 rfl ((ow119.own (k := 1) rfl).cell rfl)) nd ?_
                        refine U.p rfl rfl (.inr ⟨_, _, _, rfl, rfl, ((L 4 rfl rfl).trans (congrArg Value.bool g198))⟩) (S.eqlI rfl (L 2 rfl rfl) (L 0 rfl rfl)) ?_
                        refine U.p rfl rfl (.inl rfl) (S.pickT rfl ((L 5 rfl rfl).trans (congrArg Value.bool g198)) (L 0 rfl rfl)) ?_
                        exact kk [(79, .bool (decide (x99.imm = x25.imm))), (78, .bool (decide (x99.imm = x25.imm))), (77, .int .i64 x25.imm), (76, .pointer (some ⟨b38, 4, none⟩)), (75, .int .i64 x99.imm), (74, .pointer (some ⟨b112, 4, none⟩))] _ ⟨.bool (decide (x99.imm = x25.imm)), .int .i64 x25.imm, .pointer (some ⟨b38, 4, none⟩), .int .i64 x99.imm, .pointer (some ⟨b112, 4, none⟩), rfl, (by rw [g198, Bool.true_and])⟩
                      · skip
                        refine U.x rfl rfl rfl rfl ((L 0 rfl rfl).trans (congrArg Value.bool g198)) (by decide) ?_
                        refine U.x rfl rfl rfl rfl ((L 1 rfl rfl).trans (congrArg Value.bool g198)) (by decide) ?_
                        refine U.x rfl rfl rfl rfl ((L 2 rfl rfl).trans (congrArg Value.bool g198)) (by decide) ?_
                        refine U.x rfl rfl rfl rfl ((L 3 rfl rfl).trans (congrArg Value.bool g198)) (by decide) ?_
                        refine U.x rfl rfl rfl rfl ((L 4 rfl rfl).trans (congrArg Value.bool g198)) (by decide) ?_
                        refine U.p rfl rfl (.inl rfl) (S.pickF rfl ((L 5 rfl rfl).trans (congrArg Value.bool g198)) K) ?_
                        exact kk [(79, .bool false), (78, .tuple #[]), (77, .tuple #[]), (76, .tuple #[]), (75, .tuple #[]), (74, .tuple #[])] _ ⟨.tuple #[], .tuple #[], .tuple #[], .tuple #[], .tuple #[], rfl, (by rw [g198, Bool.false_and])⟩
                · have h199 := ifF c90 h89
                  refine WP.exit ?_
                  refine sqE (sqE (blkE (sqN ?_)))
                  have h200 := exitS h199 e87
                  have ow201 := ow84.drop 0 rfl
                  exact ⟨_, V82, rfl, ⟨v76, xs77, rfl, le83, ow201, h200⟩, (allCons (L 2 rfl rfl) allNil)⟩
              · have h202 := ifF c73 h52
                refine WP.skip ?_
                refine sqN ?_
                have ow203 := ow51.drop 0 rfl
                have ow204 := ow203.drop 0 rfl
                exact ⟨_, V49, rfl, ⟨v47, xs48, rfl, (.refl _), ow204, h202⟩, (allCons (L 15 rfl rfl) allNil)⟩
            · intro kk
              refine bcase (b := (decide (x25.op = 12)) || (decide (x25.op = 13))) (fun g205 => ?_) (fun g205 => ?_)
              · skip
                refine U.x rfl rfl rfl rfl ((L 0 rfl rfl).trans (congrArg Value.bool g205)) (by decide) ?_
                refine U.x rfl rfl rfl rfl ((L 1 rfl rfl).trans (congrArg Value.bool g205)) (by decide) ?_
                refine U.x rfl rfl rfl rfl ((L 2 rfl rfl).trans (congrArg Value.bool g205)) (by decide) ?_
                refine U.p rfl rfl (.inl rfl) (S.pickT rfl ((L 3 rfl rfl).trans (congrArg Value.bool g205)) K) ?_
                exact kk [(61, .bool true), (60, .tuple #[]), (59, .tuple #[]), (58, .tuple #[])] _ ⟨.tuple #[], .tuple #[], .tuple #[], rfl, (by rw [g205, Bool.true_or])⟩
              · skip
                refine U.p (v := .pointer (some ⟨b38, 0, none⟩)) rfl rfl (.inr ⟨_, _, _, rfl, rfl, ((L 0 rfl rfl).trans (congrArg Value.bool g205))⟩) (S.fieldAddr rfl (L 10 rfl rfl) Try.underlying33 rfl ti3 rfl rfl) ?_
                refine U.k rfl rfl (.inr ⟨_, _, _, rfl, rfl, ((L 1 rfl rfl).trans (congrArg Value.bool g205))⟩) (S.load rfl (L 0 rfl rfl) Try.underlying3 rfl ((ow51.own (k := 1) rfl).cell rfl)) nd ?_
                refine U.p rfl rfl (.inr ⟨_, _, _, rfl, rfl, ((L 2 rfl rfl).trans (congrArg Value.bool g205))⟩) (S.eqlI rfl (L 0 rfl rfl) K) ?_
                refine U.p rfl rfl (.inl rfl) (S.pickF rfl ((L 3 rfl rfl).trans (congrArg Value.bool g205)) (L 0 rfl rfl)) ?_
                exact kk [(61, .bool (decide (x25.op = 17))), (60, .bool (decide (x25.op = 17))), (59, .int .i64 x25.op), (58, .pointer (some ⟨b38, 0, none⟩))] _ ⟨.bool (decide (x25.op = 17)), .int .i64 x25.op, .pointer (some ⟨b38, 0, none⟩), rfl, (by rw [g205, Bool.false_or])⟩
          · intro kk
            refine bcase (b := decide (x25.op = 12)) (fun g206 => ?_) (fun g206 => ?_)
            · skip
              refine U.x rfl rfl rfl rfl ((L 0 rfl rfl).trans (congrArg Value.bool g206)) (by decide) ?_
              refine U.x rfl rfl rfl rfl ((L 1 rfl rfl).trans (congrArg Value.bool g206)) (by decide) ?_
              refine U.x rfl rfl rfl rfl ((L 2 rfl rfl).trans (congrArg Value.bool g206)) (by decide) ?_
              refine U.p rfl rfl (.inl rfl) (S.pickT rfl ((L 3 rfl rfl).trans (congrArg Value.bool g206)) K) ?_
              exact kk [(56, .bool true), (55, .tuple #[]), (54, .tuple #[]), (53, .tuple #[])] _ ⟨.tuple #[], .tuple #[], .tuple #[], rfl, (by rw [g206, Bool.true_or])⟩
            · skip
              refine U.p (v := .pointer (some ⟨b38, 0, none⟩)) rfl rfl (.inr ⟨_, _, _, rfl, rfl, ((L 0 rfl rfl).trans (congrArg Value.bool g206))⟩) (S.fieldAddr rfl (L 5 rfl rfl) Try.underlying33 rfl ti3 rfl rfl) ?_
              refine U.k rfl rfl (.inr ⟨_, _, _, rfl, rfl, ((L 1 rfl rfl).trans (congrArg Value.bool g206))⟩) (S.load rfl (L 0 rfl rfl) Try.underlying3 rfl ((ow51.own (k := 1) rfl).cell rfl)) nd ?_
              refine U.p rfl rfl (.inr ⟨_, _, _, rfl, rfl, ((L 2 rfl rfl).trans (congrArg Value.bool g206))⟩) (S.eqlI rfl (L 0 rfl rfl) K) ?_
              refine U.p rfl rfl (.inl rfl) (S.pickF rfl ((L 3 rfl rfl).trans (congrArg Value.bool g206)) (L 0 rfl rfl)) ?_
              exact kk [(56, .bool (decide (x25.op = 13))), (55, .bool (decide (x25.op = 13))), (54, .int .i64 x25.op), (53, .pointer (some ⟨b38, 0, none⟩))] _ ⟨.bool (decide (x25.op = 13)), .int .i64 x25.op, .pointer (some ⟨b38, 0, none⟩), rfl, (by rw [g206, Bool.false_or])⟩
      · skip
        refine WP.usreg rfl ?_
        refine U.p (v := .pointer (some ⟨b38, 0, none⟩)) rfl rfl (.inl rfl) (S.fieldAddr rfl (L 1 rfl rfl) Try.underlying33 rfl ti3 rfl rfl) ?_
        refine U.k rfl rfl (.inl rfl) (S.load rfl (L 0 rfl rfl) Try.underlying3 rfl ((ow45.own (k := 0) rfl).cell rfl)) nd ?_
        refine U.p rfl rfl (.inl rfl) (S.neqI rfl (L 0 rfl rfl) K) ?_
        refine U.p rfl rfl (.inl rfl) (S.move rfl (L 0 rfl rfl)) ?_
        refine U.joinX 8 (fun e H => ∃ (u207 u208 u209 : Value), H = V43.H ∧ e = [(30, .bool ((decide (x25.op ≠ 12)) && (decide (x25.op ≠ 15)))), (29, u207), (28, u208), (27, u209)]) ?_ ?_
        · rintro _ _ ⟨u207, u208, u209, rfl, rfl⟩
          refine U.p rfl rfl (.inl rfl) (S.move rfl (L 0 rfl rfl)) ?_
          refine U.joinX 13 (fun e H => ∃ (u213 u214 u215 : Value), H = V43.H ∧ e = [(35, .bool (((decide (x25.op ≠ 12)) && (decide (x25.op ≠ 15))) && (decide (x25.op ≠ 16)))), (34, u213), (33, u214), (32, u215)]) ?_ ?_
          · rintro _ _ ⟨u213, u214, u215, rfl, rfl⟩
            refine U.p rfl rfl (.inl rfl) (S.move rfl (L 0 rfl rfl)) ?_
            refine U.joinX 21 (fun e H => ∃ (u219 u220 u221 u222 u223 u224 : Value), H = V43.H ∧ e = [(43, .bool ((((decide (x25.op ≠ 12)) && (decide (x25.op ≠ 15))) && (decide (x25.op ≠ 16))) && (decide ((w64 (p1 + 1)) < (p0.code.length : Int))))), (42, u219), (41, u220), (40, u221), (39, u222), (38, u223), (37, u224)]) ?_ ?_
            · rintro _ _ ⟨u219, u220, u221, u222, u223, u224, rfl, rfl⟩
              refine U.done (Nat.le_of_ble_eq_true rfl) ?_
              refine WP.cond _ (L 0 rfl rfl) rfl (fun c228 => ?_) (fun c228 => ?_)
              · have h229 := ifT c228 h27
                refine WP.ureg rfl ?_
                refine U.p rfl rfl (.inl rfl) (S.move rfl (L 21 rfl rfl)) ?_
                refine U.p rfl rfl (.inl rfl) (S.move rfl (L 41 rfl rfl)) ?_
                refine U.p rfl rfl (.inl rfl) (S.add rfl (L 0 rfl rfl) K) ?_
                refine O.lit (R := (RT.int .i64)) ow45 rfl rfl (.inl rfl) rfl Try.underlying31 ti3 rfl rfl rfl (Nat.le_of_ble_eq_true rfl) rfl (aC (L 0 rfl rfl) aN) (.cons _ _ (w64 (p1 + 1)) _ (by simp [topV]) rfl .nil) (fun _ => nd) (fun v230 V231 le232 ow233 => ?_)
                have ow235 := ow233.nil (RT.int .i64)
                obtain ⟨xs237, hx238, h239⟩ := bindS h229
                refine O.append (k := 0) ow235 rfl rfl rfl (.inl rfl) rfl (L 3 rfl rfl) (L 0 rfl rfl) Try.underlying31 ti3 rfl rfl (Nat.le_of_ble_eq_true rfl) (ow235.src (k := 1) rfl Try.underlying31) hx238 (fun _ _ => nd) (fun v240 V241 le242 ow243 => ?_)
                refine U.p rfl rfl (.inl rfl) (S.assign rfl (L 0 rfl rfl)) ?_
                refine U.done (Nat.le_of_ble_eq_true rfl) ?_
                refine sqN ?_
                have ow245 := ow243.drop 1 rfl
                have ow246 := ow245.pick 0 rfl
                have ow247 := ow246.pick 1 rfl
                have ow248 := ow247.pick 2 rfl
                exact ⟨_, V241, rfl, ⟨v240, xs237, rfl, (le232.trans le242), ow248, h239⟩, (allCons (L 44 rfl rfl) (allCons (L 28 rfl rfl) (allCons (L 0 rfl rfl) allNil)))⟩
              · have h249 := ifF c228 h27
                refine WP.skip ?_
                refine sqN ?_
                have ow250 := ow45.nil (RT.int .i64)
                have ow252 := ow250.pick 0 rfl
                have ow253 := ow252.pick 1 rfl
                have ow254 := ow253.pick 2 rfl
                exact ⟨_, V43, rfl, ⟨(.slice none 0 0), [], rfl, (.refl _), ow254, h249⟩, (allCons (L 38 rfl rfl) (allCons (L 22 rfl rfl) (allCons (L 21 rfl rfl) allNil)))⟩
            · intro kk
              refine bcase (b := ((decide (x25.op ≠ 12)) && (decide (x25.op ≠ 15))) && (decide (x25.op ≠ 16))) (fun g255 => ?_) (fun g255 => ?_)
              · skip
                refine U.p rfl rfl (.inr ⟨_, _, _, rfl, rfl, ((L 0 rfl rfl).trans (congrArg Value.bool g255))⟩) (S.move rfl (L 33 rfl rfl)) ?_
                refine U.p rfl rfl (.inr ⟨_, _, _, rfl, rfl, ((L 1 rfl rfl).trans (congrArg Value.bool g255))⟩) (S.add rfl (L 0 rfl rfl) K) ?_
                refine U.p (v := .pointer (some ⟨b5, 3, none⟩)) rfl rfl (.inr ⟨_, _, _, rfl, rfl, ((L 2 rfl rfl).trans (congrArg Value.bool g255))⟩) (S.fieldAddr rfl (L 33 rfl rfl) Try.underlying24 rfl ti22 rfl rfl) ?_
                refine U.k rfl rfl (.inr ⟨_, _, _, rfl, rfl, ((L 3 rfl rfl).trans (congrArg Value.bool g255))⟩) (S.load rfl (L 0 rfl rfl) Try.underlying22 rfl ((ow45.own (k := 1) rfl).cell rfl)) nd ?_
                refine U.p rfl rfl (.inr ⟨_, _, _, rfl, rfl, ((L 4 rfl rfl).trans (congrArg Value.bool g255))⟩) (f2.1.len rfl (L 0 rfl rfl) Try.underlying22) ?_
                refine U.p rfl rfl (.inr ⟨_, _, _, rfl, rfl, ((L 5 rfl rfl).trans (congrArg Value.bool g255))⟩) (S.lss rfl (L 3 rfl rfl) (L 0 rfl rfl)) ?_
                refine U.p rfl rfl (.inl rfl) (S.pickT rfl ((L 6 rfl rfl).trans (congrArg Value.bool g255)) (L 0 rfl rfl)) ?_
                exact kk [(43, .bool (decide ((w64 (p1 + 1)) < (p0.code.length : Int)))), (42, .bool (decide ((w64 (p1 + 1)) < (p0.code.length : Int)))), (41, .int .i64 (p0.code.length : Int)), (40, v1), (39, .pointer (some ⟨b5, 3, none⟩)), (38, .int .i64 (w64 (p1 + 1))), (37, .int .i64 p1)] _ ⟨.bool (decide ((w64 (p1 + 1)) < (p0.code.length : Int))), .int .i64 (p0.code.length : Int), v1, .pointer (some ⟨b5, 3, none⟩), .int .i64 (w64 (p1 + 1)), .int .i64 p1, rfl, (by rw [g255, Bool.true_and])⟩
              · skip
                refine U.x rfl rfl rfl rfl ((L 0 rfl rfl).trans (congrArg Value.bool g255)) (by decide) ?_
                refine U.x rfl rfl rfl rfl ((L 1 rfl rfl).trans (congrArg Value.bool g255)) (by decide) ?_
                refine U.x rfl rfl rfl rfl ((L 2 rfl rfl).trans (congrArg Value.bool g255)) (by decide) ?_
                refine U.x rfl rfl rfl rfl ((L 3 rfl rfl).trans (congrArg Value.bool g255)) (by decide) ?_
                refine U.x rfl rfl rfl rfl ((L 4 rfl rfl).trans (congrArg Value.bool g255)) (by decide) ?_
                refine U.x rfl rfl rfl rfl ((L 5 rfl rfl).trans (congrArg Value.bool g255)) (by decide) ?_
                refine U.p rfl rfl (.inl rfl) (S.pickF rfl ((L 6 rfl rfl).trans (congrArg Value.bool g255)) K) ?_
                exact kk [(43, .bool false), (42, .tuple #[]), (41, .tuple #[]), (40, .tuple #[]), (39, .tuple #[]), (38, .tuple #[]), (37, .tuple #[])] _ ⟨.tuple #[], .tuple #[], .tuple #[], .tuple #[], .tuple #[], .tuple #[], rfl, (by rw [g255, Bool.false_and])⟩
          · intro kk
            refine bcase (b := (decide (x25.op ≠ 12)) && (decide (x25.op ≠ 15))) (fun g256 => ?_) (fun g256 => ?_)
            · skip
              refine U.p (v := .pointer (some ⟨b38, 0, none⟩)) rfl rfl (.inr ⟨_, _, _, rfl, rfl, ((L 0 rfl rfl).trans (congrArg Value.bool g256))⟩) (S.fieldAddr rfl (L 10 rfl rfl) Try.underlying33 rfl ti3 rfl rfl) ?_
              refine U.k rfl rfl (.inr ⟨_, _, _, rfl, rfl, ((L 1 rfl rfl).trans (congrArg Value.bool g256))⟩) (S.load rfl (L 0 rfl rfl) Try.underlying3 rfl ((ow45.own (k := 0) rfl).cell rfl)) nd ?_
              refine U.p rfl rfl (.inr ⟨_, _, _, rfl, rfl, ((L 2 rfl rfl).trans (congrArg Value.bool g256))⟩) (S.neqI rfl (L 0 rfl rfl) K) ?_
              refine U.p rfl rfl (.inl rfl) (S.pickT rfl ((L 3 rfl rfl).trans (congrArg Value.bool g256)) (L 0 rfl rfl)) ?_
              exact kk [(35, .bool (decide (x25.op ≠ 16))), (34, .bool (decide (x25.op ≠ 16))), (33, .int .i64 x25.op), (32, .pointer (some ⟨b38, 0, none⟩))] _ ⟨.bool (decide (x25.op ≠ 16)), .int .i64 x25.op, .pointer (some ⟨b38, 0, none⟩), rfl, (by rw [g256, Bool.true_and])⟩
            · skip
              refine U.x rfl rfl rfl rfl ((L 0 rfl rfl).trans (congrArg Value.bool g256)) (by decide) ?_
              refine U.x rfl rfl rfl rfl ((L 1 rfl rfl).trans (congrArg Value.bool g256)) (by decide) ?_
              refine U.x rfl rfl rfl rfl ((L 2 rfl rfl).trans (congrArg Value.bool g256)) (by decide) ?_
              refine U.p rfl rfl (.inl rfl) (S.pickF rfl ((L 3 rfl rfl).trans (congrArg Value.bool g256)) K) ?_
              exact kk [(35, .bool false), (34, .tuple #[]), (33, .tuple #[]), (32, .tuple #[])] _ ⟨.tuple #[], .tuple #[], .tuple #[], rfl, (by rw [g256, Bool.false_and])⟩
        · intro kk
          refine bcase (b := decide (x25.op ≠ 12)) (fun g257 => ?_) (fun g257 => ?_)
          · skip
            refine U.p (v := .pointer (some ⟨b38, 0, none⟩)) rfl rfl (.inr ⟨_, _, _, rfl, rfl, ((L 0 rfl rfl).trans (congrArg Value.bool g257))⟩) (S.fieldAddr rfl (L 5 rfl rfl) Try.underlying33 rfl ti3 rfl rfl) ?_
            refine U.k rfl rfl (.inr ⟨_, _, _, rfl, rfl, ((L 1 rfl rfl).trans (congrArg Value.bool g257))⟩) (S.load rfl (L 0 rfl rfl) Try.underlying3 rfl ((ow45.own (k := 0) rfl).cell rfl)) nd ?_
            refine U.p rfl rfl (.inr ⟨_, _, _, rfl, rfl, ((L 2 rfl rfl).trans (congrArg Value.bool g257))⟩) (S.neqI rfl (L 0 rfl rfl) K) ?_
            refine U.p rfl rfl (.inl rfl) (S.pickT rfl ((L 3 rfl rfl).trans (congrArg Value.bool g257)) (L 0 rfl rfl)) ?_
            exact kk [(30, .bool (decide (x25.op ≠ 15))), (29, .bool (decide (x25.op ≠ 15))), (28, .int .i64 x25.op), (27, .pointer (some ⟨b38, 0, none⟩))] _ ⟨.bool (decide (x25.op ≠ 15)), .int .i64 x25.op, .pointer (some ⟨b38, 0, none⟩), rfl, (by rw [g257, Bool.true_and])⟩
          · skip
            refine U.x rfl rfl rfl rfl ((L 0 rfl rfl).trans (congrArg Value.bool g257)) (by decide) ?_
            refine U.x rfl rfl rfl rfl ((L 1 rfl rfl).trans (congrArg Value.bool g257)) (by decide) ?_
            refine U.x rfl rfl rfl rfl ((L 2 rfl rfl).trans (congrArg Value.bool g257)) (by decide) ?_
            refine U.p rfl rfl (.inl rfl) (S.pickF rfl ((L 3 rfl rfl).trans (congrArg Value.bool g257)) K) ?_
            exact kk [(30, .bool false), (29, .tuple #[]), (28, .tuple #[]), (27, .tuple #[])] _ ⟨.tuple #[], .tuple #[], .tuple #[], rfl, (by rw [g257, Bool.false_and])⟩
  · intro kk
    refine bcase (b := decide (p1 < 0)) (fun g258 => ?_) (fun g258 => ?_)
    · skip
      refine U.x rfl rfl rfl rfl ((L 0 rfl rfl).trans (congrArg Value.bool g258)) (by decide) ?_
      refine U.x rfl rfl rfl rfl ((L 1 rfl rfl).trans (congrArg Value.bool g258)) (by decide) ?_
      refine U.x rfl rfl rfl rfl ((L 2 rfl rfl).trans (congrArg Value.bool g258)) (by decide) ?_
      refine U.x rfl rfl rfl rfl ((L 3 rfl rfl).trans (congrArg Value.bool g258)) (by decide) ?_
      refine U.x rfl rfl rfl rfl ((L 4 rfl rfl).trans (congrArg Value.bool g258)) (by decide) ?_
      refine U.p rfl rfl (.inl rfl) (S.pickT rfl ((L 5 rfl rfl).trans (congrArg Value.bool g258)) K) ?_
      exact kk [(17, .bool true), (16, .tuple #[]), (15, .tuple #[]), (14, .tuple #[]), (13, .tuple #[]), (12, .tuple #[])] _ ⟨.tuple #[], .tuple #[], .tuple #[], .tuple #[], .tuple #[], rfl, (by rw [g258, Bool.true_or])⟩
    · skip
      refine U.p rfl rfl (.inr ⟨_, _, _, rfl, rfl, ((L 0 rfl rfl).trans (congrArg Value.bool g258))⟩) (S.move rfl (L 6 rfl rfl)) ?_
      refine U.p (v := .pointer (some ⟨b5, 3, none⟩)) rfl rfl (.inr ⟨_, _, _, rfl, rfl, ((L 1 rfl rfl).trans (congrArg Value.bool g258))⟩) (S.fieldAddr rfl (L 5 rfl rfl) Try.underlying24 rfl ti22 rfl rfl) ?_
      refine U.k rfl rfl (.inr ⟨_, _, _, rfl, rfl, ((L 2 rfl rfl).trans (congrArg Value.bool g258))⟩) (S.load rfl (L 0 rfl rfl) Try.underlying22 rfl ((ow8.own (k := 0) rfl).cell rfl)) nd ?_
      refine U.p rfl rfl (.inr ⟨_, _, _, rfl, rfl, ((L 3 rfl rfl).trans (congrArg Value.bool g258))⟩) (f2.1.len rfl (L 0 rfl rfl) Try.underlying22) ?_
      refine U.p rfl rfl (.inr ⟨_, _, _, rfl, rfl, ((L 4 rfl rfl).trans (congrArg Value.bool g258))⟩) (S.geq rfl (L 3 rfl rfl) (L 0 rfl rfl)) ?_
      refine U.p rfl rfl (.inl rfl) (S.pickF rfl ((L 5 rfl rfl).trans (congrArg Value.bool g258)) (L 0 rfl rfl)) ?_
      exact kk [(17, .bool (decide ((p0.code.length : Int) ≤ p1))), (16, .bool (decide ((p0.code.length : Int) ≤ p1))), (15, .int .i64 (p0.code.length : Int)), (14, v1), (13, .pointer (some ⟨b5, 3, none⟩)), (12, .int .i64 p1)] _ ⟨.bool (decide ((p0.code.length : Int) ≤ p1)), .int .i64 (p0.code.length : Int), v1, .pointer (some ⟨b5, 3, none⟩), .int .i64 p1, rfl, (by rw [g258, Bool.false_or])⟩

set_option maxHeartbeats 4000000 in
theorem wk_ref10_Needed (V : Vw) (Rs : List At) (p0 : TFunc) (p1 : Int) (p2 : Int) (v1 : Value) (f2 : Fz RT_TIns V v1 p0.code) (ow : Ow V (Rs)) (r : Bool) (h : ref10_Needed p0 p1 p2 = some r) : ∃ v V', Cl Try.prog 0 11 #[.agg #[.string p0.name, .int .i64 p0.params, .int .i64 p0.regs, v1], .int .i64 p1, .int .i64 p2] V.H v V'.H ∧ V.le V' ∧ (v = .bool r ∧ Ow V' (Rs)) := by
  refine Ct.of (Nat.zero_le _) Try.func11 rfl (Nat.le_of_ble_eq_true rfl) ?_
  unfold ref10_Needed at h
  refine WP.usreg rfl ?_
  refine O.box ow rfl rfl (.inl rfl) rfl (L 0 rfl rfl) (by simp [topV]) rfl nd (fun b3 V4 le5 ow6 => ?_)
  refine U.p rfl rfl (.inl rfl) (S.assign rfl K) ?_
  refine U.done (Nat.le_of_ble_eq_true rfl) ?_
  refine WP.usreg rfl ?_
  refine U.p (v := .pointer (some ⟨b3, 3, none⟩)) rfl rfl (.inl rfl) (S.fieldAddr rfl (L 1 rfl rfl) Try.underlying24 rfl ti22 rfl rfl) ?_
  refine U.k rfl rfl (.inl rfl) (S.load rfl (L 0 rfl rfl) Try.underlying22 rfl ((ow6.own (k := 0) rfl).cell rfl)) nd ?_
  refine U.p rfl rfl (.inl rfl) (f2.1.len rfl (L 0 rfl rfl) Try.underlying22) ?_
  obtain ⟨xs8, hx9, h10⟩ := bindS h
  refine O.make (R := RT.bool) ow6 rfl rfl (.inl rfl) rfl (L 0 rfl rfl) (L 0 rfl rfl) Try.underlying29 ti4 rfl rfl rfl (Nat.le_of_ble_eq_true rfl) rfl hx9 (fun _ => nd) (fun v11 V12 le13 ow14 => ?_)
  refine U.p rfl rfl (.inl rfl) (S.assign rfl (L 0 rfl rfl)) ?_
  refine U.done (Nat.le_of_ble_eq_true rfl) ?_
  refine WP.usreg rfl ?_
  refine U.p rfl rfl (.inl rfl) (S.move rfl (L 9 rfl rfl)) ?_
  refine O.lit (R := (RT.int .i64)) ow14 rfl rfl (.inl rfl) rfl Try.underlying31 ti3 rfl rfl rfl (Nat.le_of_ble_eq_true rfl) rfl (aC (L 0 rfl rfl) aN) (.cons _ _ p2 _ (by simp [topV]) rfl .nil) (fun _ => nd) (fun v16 V17 le18 ow19 => ?_)
  refine U.p rfl rfl (.inl rfl) (S.assign rfl (L 0 rfl rfl)) ?_
  refine U.done (Nat.le_of_ble_eq_true rfl) ?_
  refine WP.seq ?_
  refine WP.blk ?_
  have ow25 := ow19.pick 0 rfl
  have ow26 := ow25.pick 1 rfl
  have ow27 := ow26.pick 2 rfl
  unfold ref10_Needed_l1 at h10
  obtain ⟨n29, hn28⟩ := loopO_some.1 h10
  refine WP.loopI2 (fun n l V' => ∃ (xs21 : List Bool) (v23 : Value) (xs24 : List Int), l = [(1, .int .i64 p1), (3, .pointer (some ⟨b3, 0, none⟩)), (7, v11), (8, v23)] ∧ V17.le V' ∧ Ow V' (.pt b3 (.cells 0 [.string p0.name, .int .i64 p0.params, .int .i64 p0.regs, v1]) :: .os RT.bool v11 xs21 :: .os (RT.int .i64) v23 xs24 :: Rs) ∧ itO (fun s => ref10_Needed_l1b p0 p1 s.1 s.2) n (xs21, xs24) = some r) n29 _ ⟨xs8, v16, [p2], rfl, .refl _, ow27, hn28⟩ (allCons (L 11 rfl rfl) (allCons (L 9 rfl rfl) (allCons (L 3 rfl rfl) (allCons (L 0 rfl rfl) allNil)))) ?_
  rintro _ _ V30 ⟨xs21, v23, xs24, rfl, le31, ow32, h36⟩
  obtain ⟨m33, q34, rfl, h37, e35⟩ := itS h36
  replace h37 : ref10_Needed_l1b p0 p1 xs21 xs24 = some q34 := h37
  unfold ref10_Needed_l1b at h37
  refine WP.seq ?_
  refine WP.usreg rfl ?_
  refine U.p rfl rfl (.inl rfl) (S.move rfl (L 3 rfl rfl)) ?_
  refine U.p rfl rfl (.inl rfl) (ow32.oslen (k := 2) rfl rfl (L 0 rfl rfl) Try.underlying31) ?_
  refine U.p rfl rfl (.inl rfl) (S.gtr rfl (L 0 rfl rfl) K) ?_
  refine U.done (Nat.le_of_ble_eq_true rfl) ?_
  refine WP.cond _ (L 0 rfl rfl) rfl (fun c38 => ?_) (fun c38 => ?_)
  · have h39 := ifT c38 h37
    refine WP.skip ?_
    refine sqN ?_
    refine WP.blk ?_
    refine WP.usreg rfl ?_
    refine U.p rfl rfl (.inl rfl) (S.move rfl (L 6 rfl rfl)) ?_
    obtain ⟨x40, hx41, h42⟩ := bindS h39
    obtain ⟨b43, o44, n45, c46, hv47⟩ := ow32.ospt (k := 2) rfl hx41
    obtain ⟨_, hv48, _⟩ := ow32.osel (k := 2) rfl hv47 hx41
    refine U.p rfl rfl (.inl rfl) (S.index rfl ((L 0 rfl rfl).trans hv48) K Try.underlying31 ti3 (ix_ge hx41) (ix_lt hx41)) ?_
    obtain ⟨cs49, hv50, hlt51, hr52, hc53⟩ := ow32.osel (k := 2) rfl hv47 hx41
    obtain rfl : cs49 = [.int .i64 x40] := hr52
    refine U.k rfl rfl (.inl rfl) (S.load rfl (L 0 rfl rfl) Try.underlying3 rfl (hc53 0 _ rfl)) nd ?_
    refine U.p rfl rfl (.inl rfl) (S.assign rfl (L 0 rfl rfl)) ?_
    refine U.done (Nat.le_of_ble_eq_true rfl) ?_
    refine WP.usreg rfl ?_
    refine U.p rfl rfl (.inl rfl) (S.move rfl (L 10 rfl rfl)) ?_
    obtain ⟨xs54, hx55, h56⟩ := bindS h42
    refine O.subO (k := 2) ow32 rfl hx55 rfl rfl (.inl rfl) rfl (L 0 rfl rfl) Try.underlying31 ti3 ⟨.inr ⟨_, _, rfl, K⟩, .inl ⟨rfl, rfl⟩, .inl rfl⟩ (fun v57 ow60 => ?_)
    refine U.p rfl rfl (.inl rfl) (S.assign rfl (L 0 rfl rfl)) ?_
    refine U.done (Nat.le_of_ble_eq_true rfl) ?_
    refine WP.seq ?_
    refine WP.usreg rfl ?_
    refine U.p rfl rfl (.inl rfl) (S.move rfl (L 12 rfl rfl)) ?_
    refine U.p rfl rfl (.inl rfl) (S.move rfl (L 4 rfl rfl)) ?_
    obtain ⟨x62, hx63, h64⟩ := bindS h56
    obtain ⟨b65, o66, n67, c68, hv69⟩ := ow60.ospt (k := 1) rfl hx63
    obtain ⟨_, hv70, _⟩ := ow60.osel (k := 1) rfl hv69 hx63
    refine U.p rfl rfl (.inl rfl) (S.index rfl ((L 1 rfl rfl).trans hv70) (L 0 rfl rfl) Try.underlying29 ti4 (ix_ge hx63) (ix_lt hx63)) ?_
    obtain ⟨cs71, hv72, hlt73, hr74, hc75⟩ := ow60.osel (k := 1) rfl hv69 hx63
    obtain rfl : cs71 = [.bool x62] := hr74
    refine U.k rfl rfl (.inl rfl) (S.load rfl (L 0 rfl rfl) Try.underlying4 rfl (hc75 0 _ rfl)) nd ?_
    refine U.done (Nat.le_of_ble_eq_true rfl) ?_
    refine WP.cond _ (L 0 rfl rfl) rfl (fun c76 => ?_) (fun c76 => ?_)
    · have h77 := ifT c76 h64
      refine WP.exit ?_
      refine sqE (blkE (sqN ?_))
      exact ⟨_, V30, rfl, ⟨m33, Nat.lt_succ_self _, xs21, v57, xs54, rfl, le31, ow60, backS h77 e35⟩, (allCons (L 14 rfl rfl) (allCons (L 15 rfl rfl) (allCons (L 16 rfl rfl) (allCons (L 4 rfl rfl) allNil))))⟩
    · have h78 := ifF c76 h64
      refine WP.skip ?_
      refine sqN ?_
      refine WP.usreg rfl ?_
      refine U.p rfl rfl (.inl rfl) (S.move rfl (L 16 rfl rfl)) ?_
      refine U.p rfl rfl (.inl rfl) (S.move rfl (L 8 rfl rfl)) ?_
      obtain ⟨x79, hx80, h81⟩ := bindS h78
      obtain ⟨_, hv82, _⟩ := ow60.osel (k := 1) rfl hv69 hx80
      refine U.p rfl rfl (.inl rfl) (S.index rfl ((L 1 rfl rfl).trans hv82) (L 0 rfl rfl) Try.underlying29 ti4 (ix_ge hx80) (ix_lt hx80)) ?_
      obtain ⟨cs83, hv84, hlt85, hr86, hc87⟩ := ow60.osel (k := 1) rfl hv69 hx80
      obtain rfl : cs83 = [.bool x79] := hr86
      refine O.storeE (k := 1) (R := RT.bool) (j := 0) (y := true) (cs := [.bool true]) ow60 rfl hv84 rfl rfl (.inl rfl) rfl (L 0 rfl rfl) K ti4 hx80 (by simp [topV]) rfl rfl rfl (full rfl) (fun _ _ => nd) (fun V88 le89 ow90 => ?_)
      refine U.done (Nat.le_of_ble_eq_true rfl) ?_
      refine WP.seq ?_
      refine WP.usreg rfl ?_
      refine U.p (v := .pointer (some ⟨b3, 3, none⟩)) rfl rfl (.inl rfl) (S.fieldAddr rfl (L 18 rfl rfl) Try.underlying24 rfl ti22 rfl rfl) ?_
      refine U.k rfl rfl (.inl rfl) (S.load rfl (L 0 rfl rfl) Try.underlying22 rfl ((ow90.own (k := 0) rfl).cell rfl)) nd ?_
      refine U.p rfl rfl (.inl rfl) (S.move rfl (L 12 rfl rfl)) ?_
      obtain ⟨x91, hx92, h93⟩ := bindS h81
      obtain ⟨b94, o95, c96, cs97, hv98, hf99, hr100, hc101⟩ := f2.at hx92
      obtain ⟨v102, rfl, f103⟩ := hr100
      refine U.p rfl rfl (.inl rfl) (S.index rfl ((L 1 rfl rfl).trans hv98) (L 0 rfl rfl) Try.underlying22 ti33 (ix_ge hx92) (ix_lt hx92)) ?_
      refine U.k rfl rfl (.inl rfl) (S.loadN (cs := [.int .i64 x91.op, .int .i64 x91.d, .int .i64 x91.a, .int .i64 x91.b, .int .i64 x91.imm, v102, .int .i64 x91.what, .bool x91.volatile, .bool x91.final]) rfl (L 0 rfl rfl) Try.underlying33 rfl ti33 rfl (fun j v hj => ((((le5.trans le13).trans le18).trans le31).trans le89).cell hf99 (hc101 j v hj))) nd ?_
      refine U.p rfl rfl (.inl rfl) (S.move rfl (L 22 rfl rfl)) ?_
      have f104 := f103.up ((((le5.trans le13).trans le18).trans le31).trans le89)
      obtain ⟨x105, hx106, h107⟩ := bindS h93
      refine O.call (V := V88) rfl rfl (.inl rfl) rfl en23 (aC (L 1 rfl rfl) (aC (L 0 rfl rfl) aN)) (wk_ref10_reads V88 _ x91 p1 v102 f104 ow90 _ hx106) (fun _ _ _ _ => nd) (fun v108 V109 le110 hp111 => ?_)
      obtain ⟨rfl, ow112⟩ := hp111
      refine U.done (Nat.le_of_ble_eq_true rfl) ?_
      refine WP.cond _ (L 0 rfl rfl) rfl (fun c113 => ?_) (fun c113 => ?_)
      · have h114 := ifT c113 h107
        refine WP.usreg rfl ?_
        refine U.p rfl rfl (.inl rfl) (S.assign rfl K) ?_
        refine U.done (Nat.le_of_ble_eq_true rfl) ?_
        refine WP.ret ?_
        refine sqR (blkR (sqR (blkR (sqR ?_))))
        have h115 := exitS h114 e35
        refine fin.slot (.inr rfl) rfl (L 0 rfl rfl) ⟨V109, rfl, (((((le5.trans le13).trans le18).trans le31).trans le89).trans le110), ?_⟩
        have ow116 := ow112.drop 0 rfl
        have ow117 := ow116.drop 0 rfl
        have ow118 := ow117.drop 0 rfl
        have e119 := Option.some.inj h115
        subst e119
        exact ⟨rfl, ow118⟩
      · have h120 := ifF c113 h107
        refine WP.skip ?_
        refine sqN ?_
        refine WP.usreg rfl ?_
        refine U.p (v := .pointer (some ⟨b3, 3, none⟩)) rfl rfl (.inl rfl) (S.fieldAddr rfl (L 25 rfl rfl) Try.underlying24 rfl ti22 rfl rfl) ?_
        refine U.k rfl rfl (.inl rfl) (S.load rfl (L 0 rfl rfl) Try.underlying22 rfl ((ow112.own (k := 0) rfl).cell rfl)) nd ?_
        refine U.p rfl rfl (.inl rfl) (S.move rfl (L 19 rfl rfl)) ?_
        obtain ⟨x121, hx122, h123⟩ := bindS h120
        obtain ⟨b124, o125, c126, cs127, hv128, hf129, hr130, hc131⟩ := f2.at hx122
        obtain ⟨v132, rfl, f133⟩ := hr130
        refine U.p rfl rfl (.inl rfl) (S.index rfl ((L 1 rfl rfl).trans hv128) (L 0 rfl rfl) Try.underlying22 ti33 (ix_ge hx122) (ix_lt hx122)) ?_
        refine U.p (v := .pointer (some ⟨b124, o125 + Int.toNat x40 * 9 + 1, none⟩)) rfl rfl (.inl rfl) (S.fieldAddr rfl (L 0 rfl rfl) Try.underlying33 rfl ti3 rfl rfl) ?_
        refine U.k rfl rfl (.inl rfl) (S.load rfl (L 0 rfl rfl) Try.underlying3 rfl ((((((le5.trans le13).trans le18).trans le31).trans le89).trans le110).cell hf129 (hc131 1 _ rfl))) nd ?_
        refine U.p rfl rfl (.inl rfl) (S.move rfl (L 30 rfl rfl)) ?_
        refine U.p rfl rfl (.inl rfl) (S.neqI rfl (L 1 rfl rfl) (L 0 rfl rfl)) ?_
        refine U.done (Nat.le_of_ble_eq_true rfl) ?_
        refine WP.cond _ (L 0 rfl rfl) rfl (fun c134 => ?_) (fun c134 => ?_)
        · have h135 := ifT c134 h123
          refine WP.ureg rfl ?_
          refine U.p rfl rfl (.inl rfl) (S.move rfl (L 22 rfl rfl)) ?_
          refine U.k rfl rfl (.inl rfl) (S.loadB rfl (L 34 rfl rfl) Try.underlying24 rfl ti24 (ow112.own (k := 0) rfl).get rfl) nd ?_
          refine U.p rfl rfl (.inl rfl) (S.move rfl (L 27 rfl rfl)) ?_
          have f136 := f2.up (((((le5.trans le13).trans le18).trans le31).trans le89).trans le110)
          obtain ⟨x137, hx138, h139⟩ := bindS h135
          refine O.call (V := V109) rfl rfl (.inl rfl) rfl en16 (aC (L 1 rfl rfl) (aC (L 0 rfl rfl) aN)) (wk_ref10_Next V109 _ p0 x40 v1 f136 ow112 _ hx138) (fun _ _ _ _ => nd) (fun v140 V141 le142 hp143 => ?_)
          obtain ⟨_, rfl, ow144⟩ := hp143
          obtain ⟨xs147, hx148, h149⟩ := bindS h139
          refine O.append (k := 3) ow144 rfl rfl rfl (.inl rfl) rfl (L 3 rfl rfl) (L 0 rfl rfl) Try.underlying31 ti3 rfl rfl (Nat.le_of_ble_eq_true rfl) (ow144.src (k := 0) rfl Try.underlying31) hx148 (fun _ _ => nd) (fun v150 V151 le152 ow153 => ?_)
          refine U.p rfl rfl (.inl rfl) (S.assign rfl (L 0 rfl rfl)) ?_
          refine U.done (Nat.le_of_ble_eq_true rfl) ?_
          refine blkN (sqN ?_)
          have ow155 := ow153.drop 0 rfl
          exact ⟨_, V151, rfl, ⟨m33, Nat.lt_succ_self _, xs21.set (Int.toNat x40) true, v150, xs147, rfl, ((((le31.trans le89).trans le110).trans le142).trans le152), ow155, backS h149 e35⟩, (allCons (L 38 rfl rfl) (allCons (L 39 rfl rfl) (allCons (L 40 rfl rfl) (allCons (L 0 rfl rfl) allNil))))⟩
        · have h156 := ifF c134 h123
          refine WP.skip ?_
          refine blkN (sqN ?_)
          exact ⟨_, V109, rfl, ⟨m33, Nat.lt_succ_self _, xs21.set (Int.toNat x40) true, v57, xs54, rfl, ((le31.trans le89).trans le110), ow112, backS h156 e35⟩, (allCons (L 32 rfl rfl) (allCons (L 33 rfl rfl) (allCons (L 34 rfl rfl) (allCons (L 22 rfl rfl) allNil))))⟩
  · have h157 := ifF c38 h37
    refine WP.exit ?_
    refine sqE (sqE (blkE (sqN ?_)))
    have h158 := exitS h157 e35
    refine WP.usreg rfl ?_
    refine U.p rfl rfl (.inl rfl) (S.assign rfl K) ?_
    refine U.done (Nat.le_of_ble_eq_true rfl) ?_
    refine WP.ret ?_
    refine fin.slot (.inr rfl) rfl (L 0 rfl rfl) ⟨V30, rfl, (((le5.trans le13).trans le18).trans le31), ?_⟩
    have ow159 := ow32.drop 0 rfl
    have ow160 := ow159.drop 0 rfl
    have ow161 := ow160.drop 0 rfl
    have e162 := Option.some.inj h158
    subst e162
    exact ⟨rfl, ow161⟩

set_option maxHeartbeats 4000000 in
theorem wk_law10_FlowLive (V : Vw) (Rs : List At) (p0 : TFunc) (v1 : Value) (f2 : Fz RT_TIns V v1 p0.code) (ow : Ow V (Rs)) (r : Bool) (h : law10_FlowLive p0 = some r) : ∃ v V', Cl Try.prog 0 3 #[.agg #[.string p0.name, .int .i64 p0.params, .int .i64 p0.regs, v1]] V.H v V'.H ∧ V.le V' ∧ (v = .bool r ∧ Ow V' (Rs)) := by
  refine Ct.of (Nat.zero_le _) Try.func3 rfl (Nat.le_of_ble_eq_true rfl) ?_
  unfold law10_FlowLive at h
  refine WP.usreg rfl ?_
  refine O.box ow rfl rfl (.inl rfl) rfl (L 0 rfl rfl) (by simp [topV]) rfl nd (fun b3 V4 le5 ow6 => ?_)
  refine U.p rfl rfl (.inl rfl) (S.assign rfl K) ?_
  refine U.done (Nat.le_of_ble_eq_true rfl) ?_
  refine WP.seq ?_
  refine WP.usreg rfl ?_
  obtain ⟨x8, hx9, h10⟩ := bindS h
  refine O.call (V := V4) rfl rfl (.inl rfl) rfl en8 aN (wk_law10_alive V4 _ ow6 _ hx9) (fun _ _ _ _ => nd) (fun v11 V12 le13 hp14 => ?_)
  obtain ⟨rfl, ow15⟩ := hp14
  refine U.p rfl rfl (.inl rfl) (S.not rfl (L 0 rfl rfl)) ?_
  refine U.done (Nat.le_of_ble_eq_true rfl) ?_
  refine WP.cond _ (L 0 rfl rfl) rfl (fun c16 => ?_) (fun c16 => ?_)
  · have h17 := ifT c16 h10
    have k18 : x8 = false := by simpa using c16
    refine WP.usreg rfl ?_
    refine U.p rfl rfl (.inl rfl) (S.assign rfl K) ?_
    refine U.done (Nat.le_of_ble_eq_true rfl) ?_
    refine WP.ret ?_
    refine sqR ?_
    refine fin.slot (.inr rfl) rfl (L 0 rfl rfl) ⟨V12, rfl, (le5.trans le13), ?_⟩
    have ow19 := ow15.drop 0 rfl
    have e20 := Option.some.inj h17
    subst e20
    exact ⟨rfl, ow19⟩
  · have h21 := ifF c16 h10
    have k22 : x8 = true := by simpa using c16
    refine WP.skip ?_
    refine sqN ?_
    refine WP.seq ?_
    refine WP.usreg rfl ?_
    refine U.k rfl rfl (.inl rfl) (S.loadB rfl (L 3 rfl rfl) Try.underlying24 rfl ti24 (ow15.own (k := 0) rfl).get rfl) nd ?_
    have f23 := f2.up (le5.trans le13)
    obtain ⟨x24, hx25, h26⟩ := bindS h21
    refine O.call (V := V12) rfl rfl (.inl rfl) rfl en9 (aC (L 0 rfl rfl) aN) (wk_law10_great V12 _ p0 v1 f23 ow15 _ hx25) (fun _ _ _ _ => nd) (fun v27 V28 le29 hp30 => ?_)
    obtain ⟨rfl, ow31⟩ := hp30
    refine U.done (Nat.le_of_ble_eq_true rfl) ?_
    refine WP.cond _ (L 0 rfl rfl) rfl (fun c32 => ?_) (fun c32 => ?_)
    · have h33 := ifT c32 h26
      refine WP.usreg rfl ?_
      refine U.p rfl rfl (.inl rfl) (S.assign rfl K) ?_
      refine U.done (Nat.le_of_ble_eq_true rfl) ?_
      refine WP.ret ?_
      refine sqR ?_
      refine fin.slot (.inr rfl) rfl (L 0 rfl rfl) ⟨V28, rfl, ((le5.trans le13).trans le29), ?_⟩
      have ow34 := ow31.drop 0 rfl
      have e35 := Option.some.inj h33
      subst e35
      exact ⟨rfl, ow34⟩
    · have h36 := ifF c32 h26
      refine WP.skip ?_
      refine sqN ?_
      refine WP.usreg rfl ?_
      refine U.k rfl rfl (.inl rfl) (S.loadB rfl (L 5 rfl rfl) Try.underlying24 rfl ti24 (ow31.own (k := 0) rfl).get rfl) nd ?_
      have f37 := f23.up le29
      obtain ⟨x38, hx39, h40⟩ := bindS h36
      refine O.call (V := V28) rfl rfl (.inl rfl) rfl en10 (aC (L 0 rfl rfl) aN) (wk_flow_Live V28 _ p0 v1 f37 ow31 _ hx39) (fun _ _ _ _ => nd) (fun v41 V42 le43 hp44 => ?_)
      obtain ⟨_, rfl, ow45⟩ := hp44
      refine U.p rfl rfl (.inl rfl) (S.assign rfl (L 0 rfl rfl)) ?_
      refine U.done (Nat.le_of_ble_eq_true rfl) ?_
      refine WP.seq ?_
      refine WP.usreg rfl ?_
      refine U.p rfl rfl (.inl rfl) (S.move rfl (L 0 rfl rfl)) ?_
      refine U.p rfl rfl (.inl rfl) (ow45.oslen (k := 0) rfl rfl (L 0 rfl rfl) Try.underlying27) ?_
      refine U.p (v := .pointer (some ⟨b3, 3, none⟩)) rfl rfl (.inl rfl) (S.fieldAddr rfl (L 10 rfl rfl) Try.underlying24 rfl ti22 rfl rfl) ?_
      refine U.k rfl rfl (.inl rfl) (S.load rfl (L 0 rfl rfl) Try.underlying22 rfl ((ow45.own (k := 1) rfl).cell rfl)) nd ?_
      refine U.p rfl rfl (.inl rfl) (f37.1.len rfl (L 0 rfl rfl) Try.underlying22) ?_
      refine U.p rfl rfl (.inl rfl) (S.neqI rfl (L 3 rfl rfl) (L 0 rfl rfl)) ?_
      refine U.done (Nat.le_of_ble_eq_true rfl) ?_
      refine WP.cond _ (L 0 rfl rfl) rfl (fun c48 => ?_) (fun c48 => ?_)
      · have h49 := ifT c48 h40
        refine WP.usreg rfl ?_
        refine U.p rfl rfl (.inl rfl) (S.assign rfl K) ?_
        refine U.done (Nat.le_of_ble_eq_true rfl) ?_
        refine WP.ret ?_
        refine sqR ?_
        refine fin.slot (.inr rfl) rfl (L 0 rfl rfl) ⟨V42, rfl, (((le5.trans le13).trans le29).trans le43), ?_⟩
        have ow50 := ow45.drop 0 rfl
        have ow51 := ow50.drop 0 rfl
        have e52 := Option.some.inj h49
        subst e52
        exact ⟨rfl, ow51⟩
      · have h53 := ifF c48 h40
        refine WP.skip ?_
        refine sqN ?_
        refine WP.seq ?_
        refine WP.usreg rfl ?_
        refine U.p rfl rfl (.inl rfl) (S.move rfl (L 6 rfl rfl)) ?_
        refine U.p rfl rfl (.inl rfl) (ow45.oslen (k := 0) rfl rfl (L 0 rfl rfl) Try.underlying27) ?_
        refine U.p rfl rfl (.inl rfl) (S.move rfl K) ?_
        refine U.done (Nat.le_of_ble_eq_true rfl) ?_
        refine WP.blk ?_
        have ow55 := ow45.pick 0 rfl
        have ow56 := ow55.pick 1 rfl
        unfold law10_FlowLive_l1 at h53
        obtain ⟨n58, hn57⟩ := loopO_some.1 h53
        refine WP.loopI2 (fun n l V' => ∃ (x54 : Int), l = [(1, .pointer (some ⟨b3, 0, none⟩)), (3, v41), (20, .int .i64 (x38.length : Int)), (21, .int .i64 x54)] ∧ V42.le V' ∧ Ow V' (.pt b3 (.cells 0 [.string p0.name, .int .i64 p0.params, .int .i64 p0.regs, v1]) :: .os (RT.sl RT.bool) v41 x38 :: Rs) ∧ itO (fun s => law10_FlowLive_l1b p0 x38 s) n x54 = some r) n58 _ ⟨0, rfl, .refl _, ow56, hn57⟩ (allCons (L 17 rfl rfl) (allCons (L 9 rfl rfl) (allCons (L 1 rfl rfl) (allCons (L 0 rfl rfl) allNil)))) ?_
        rintro _ _ V59 ⟨x54, rfl, le60, ow61, h65⟩
        obtain ⟨m62, q63, rfl, h66, e64⟩ := itS h65
        replace h66 : law10_FlowLive_l1b p0 x38 x54 = some q63 := h66
        unfold law10_FlowLive_l1b at h66
        refine WP.usreg rfl ?_
        refine U.p rfl rfl (.inl rfl) (S.lss rfl (L 3 rfl rfl) (L 2 rfl rfl)) ?_
        refine U.done (Nat.le_of_ble_eq_true rfl) ?_
        refine WP.seq ?_
        refine WP.cond _ (L 0 rfl rfl) rfl (fun c67 => ?_) (fun c67 => ?_)
        · have h68 := ifT c67 h66
          refine WP.skip ?_
          refine sqN ?_
          refine WP.seq ?_
          refine WP.blk ?_
          refine WP.usreg rfl ?_
          refine U.p rfl rfl (.inl rfl) (S.move rfl (L 4 rfl rfl)) ?_
          refine U.p rfl rfl (.inl rfl) (S.assign rfl (L 0 rfl rfl)) ?_
          refine U.done (Nat.le_of_ble_eq_true rfl) ?_
          refine WP.seq ?_
          refine WP.usdreg rfl rfl rfl ?_
          refine U.p rfl rfl (.inl rfl) (S.move rfl (L 4 rfl rfl)) ?_
          refine U.p rfl rfl (.inl rfl) (S.move rfl (L 1 rfl rfl)) ?_
          obtain ⟨x69, hx70, h71⟩ := bindS h68
          obtain ⟨b72, o73, n74, c75, hv76⟩ := ow61.ospt (k := 1) rfl hx70
          obtain ⟨_, hv77, _⟩ := ow61.osel (k := 1) rfl hv76 hx70
          refine U.p rfl rfl (.inl rfl) (S.index rfl ((L 1 rfl rfl).trans hv77) (L 0 rfl rfl) Try.underlying27 ti29 (ix_ge hx70) (ix_lt hx70)) ?_
          obtain ⟨cs78, hv79, hlt80, hr81, hc82⟩ := ow61.osel (k := 1) rfl hv76 hx70
          obtain ⟨v83, rfl, f84⟩ := hr81
          refine U.k rfl rfl (.inl rfl) (S.load rfl (L 0 rfl rfl) Try.underlying29 rfl (hc82 0 _ rfl)) (fun _ => (okH.nil (fun r h => by cases h; exact hlt80))) ?_
          refine U.p rfl rfl (.inl rfl) (f84.1.len rfl (L 0 rfl rfl) Try.underlying29) ?_
          refine U.p (v := .pointer (some ⟨b3, 2, none⟩)) rfl rfl (.inl rfl) (S.fieldAddr rfl (L 8 rfl rfl) Try.underlying24 rfl ti3 rfl rfl) ?_
          refine U.k rfl rfl (.inl rfl) (S.load rfl (L 0 rfl rfl) Try.underlying3 rfl ((ow61.own (k := 0) rfl).cell rfl)) (fun _ => (okH.cons trivial (okH.nil (fun r h => by cases h; exact (ow61.own (k := 0) rfl).lt)))) ?_
          refine U.p rfl rfl (.inl rfl) (S.neqI rfl (L 2 rfl rfl) (L 0 rfl rfl)) ?_
          refine U.done (Nat.le_of_ble_eq_true rfl) ?_
          refine WP.cond _ (L 0 rfl rfl) rfl (fun c85 => ?_) (fun c85 => ?_)
          · have h86 := ifT c85 h71
            refine WP.usreg rfl ?_
            refine U.p rfl rfl (.inl rfl) (S.assign rfl K) ?_
            refine U.done (Nat.le_of_ble_eq_true rfl) ?_
            refine WP.ret ?_
            refine sqR (blkR (sqR (sqR (blkR (sqR ?_)))))
            have h87 := exitS h86 e64
            refine fin.slot (.inr rfl) rfl (L 0 rfl rfl) ⟨V59, rfl, ((((le5.trans le13).trans le29).trans le43).trans le60), ?_⟩
            have ow88 := ow61.drop 0 rfl
            have ow89 := ow88.drop 0 rfl
            have e90 := Option.some.inj h87
            subst e90
            exact ⟨rfl, ow89⟩
          · have h91 := ifF c85 h71
            refine WP.skip ?_
            refine sqN ?_
            refine WP.usreg rfl ?_
            refine U.p rfl rfl (.inl rfl) (S.move rfl (L 12 rfl rfl)) ?_
            refine U.p rfl rfl (.inl rfl) (S.move rfl (L 9 rfl rfl)) ?_
            obtain ⟨x92, hx93, h94⟩ := bindS h91
            obtain ⟨_, hv95, _⟩ := ow61.osel (k := 1) rfl hv76 hx93
            refine U.p rfl rfl (.inl rfl) (S.index rfl ((L 1 rfl rfl).trans hv95) (L 0 rfl rfl) Try.underlying27 ti29 (ix_ge hx93) (ix_lt hx93)) ?_
            obtain ⟨cs96, hv97, hlt98, hr99, hc100⟩ := ow61.osel (k := 1) rfl hv76 hx93
            obtain ⟨v101, rfl, f102⟩ := hr99
            refine U.k rfl rfl (.inl rfl) (S.load rfl (L 0 rfl rfl) Try.underlying29 rfl (hc100 0 _ rfl)) nd ?_
            refine U.p rfl rfl (.inl rfl) (f102.1.len rfl (L 0 rfl rfl) Try.underlying29) ?_
            refine U.p rfl rfl (.inl rfl) (S.move rfl K) ?_
            refine U.done (Nat.le_of_ble_eq_true rfl) ?_
            refine WP.blk ?_
            unfold law10_FlowLive_l2 at h94
            obtain ⟨n105, hn104⟩ := loopO_some.1 h94
            refine WP.loopI2 (fun n l V' => ∃ (x103 : Int), l = [(1, .pointer (some ⟨b3, 0, none⟩)), (3, v41), (4, .int .i64 x54), (20, .int .i64 (x38.length : Int)), (21, .int .i64 x54), (35, v101), (36, .int .i64 (x92.length : Int)), (37, .int .i64 x103)] ∧ V59.le V' ∧ Ow V' (.pt b3 (.cells 0 [.string p0.name, .int .i64 p0.params, .int .i64 p0.regs, v1]) :: .os (RT.sl RT.bool) v41 x38 :: Rs) ∧ itO (fun s => law10_FlowLive_l2b p0 x54 x92 s) n x103 = some q63) n105 _ ⟨0, rfl, .refl _, ow61, hn104⟩ (allCons (L 17 rfl rfl) (allCons (L 18 rfl rfl) (allCons (L 14 rfl rfl) (allCons (L 19 rfl rfl) (allCons (L 20 rfl rfl) (allCons (L 2 rfl rfl) (allCons (L 1 rfl rfl) (allCons (L 0 rfl rfl) allNil)))))))) ?_
            rintro _ _ V106 ⟨x103, rfl, le107, ow108, h112⟩
            obtain ⟨m109, q110, rfl, h113, e111⟩ := itS h112
            replace h113 : law10_FlowLive_l2b p0 x54 x92 x103 = some q110 := h113
            unfold law10_FlowLive_l2b at h113
            refine WP.usreg rfl ?_
            refine U.p rfl rfl (.inl rfl) (S.lss rfl (L 7 rfl rfl) (L 6 rfl rfl)) ?_
            refine U.done (Nat.le_of_ble_eq_true rfl) ?_
            refine WP.seq ?_
            refine WP.cond _ (L 0 rfl rfl) rfl (fun c114 => ?_) (fun c114 => ?_)
            · have h115 := ifT c114 h113
              refine WP.skip ?_
              refine sqN ?_
              refine WP.seq ?_
              refine WP.blk ?_
              refine WP.usreg rfl ?_
              refine U.p rfl rfl (.inl rfl) (S.move rfl (L 8 rfl rfl)) ?_
              obtain ⟨x116, hx117, h118⟩ := bindS h115
              obtain ⟨b119, o120, c121, cs122, hv123, hf124, hr125, hc126⟩ := f102.at hx117
              obtain rfl : cs122 = [.bool x116] := hr125
              refine U.p rfl rfl (.inl rfl) (S.index rfl ((L 7 rfl rfl).trans hv123) (L 9 rfl rfl) Try.underlying29 ti4 (ix_ge hx117) (ix_lt hx117)) ?_
              refine U.k rfl rfl (.inl rfl) (S.load rfl (L 0 rfl rfl) Try.underlying4 rfl (le107.cell hf124 (hc126 0 _ rfl))) nd ?_
              refine U.p rfl rfl (.inl rfl) (S.assign rfl (L 2 rfl rfl)) ?_
              refine U.p rfl rfl (.inl rfl) (S.assign rfl (L 1 rfl rfl)) ?_
              refine U.done (Nat.le_of_ble_eq_true rfl) ?_
              refine WP.usreg rfl ?_
              refine U.p rfl rfl (.inl rfl) (S.move rfl (L 0 rfl rfl)) ?_
              refine U.k rfl rfl (.inl rfl) (S.loadB rfl (L 7 rfl rfl) Try.underlying24 rfl ti24 (ow108.own (k := 0) rfl).get rfl) nd ?_
              refine U.p rfl rfl (.inl rfl) (S.move rfl (L 3 rfl rfl)) ?_
              refine U.p rfl rfl (.inl rfl) (S.move rfl (L 11 rfl rfl)) ?_
              have f127 := f37.up ((le43.trans le60).trans le107)
              obtain ⟨x128, hx129, h130⟩ := bindS h118
              refine O.call (V := V106) rfl rfl (.inl rfl) rfl en11 (aC (L 2 rfl rfl) (aC (L 1 rfl rfl) (aC (L 0 rfl rfl) aN))) (wk_ref10_Needed V106 _ p0 x103 x54 v1 f127 ow108 _ hx129) (fun _ _ _ _ => nd) (fun v131 V132 le133 hp134 => ?_)
              obtain ⟨rfl, ow135⟩ := hp134
              refine U.p rfl rfl (.inl rfl) (S.neqB rfl (L 4 rfl rfl) (L 0 rfl rfl) Try.underlying4) ?_
              refine U.done (Nat.le_of_ble_eq_true rfl) ?_
              refine WP.cond _ (L 0 rfl rfl) rfl (fun c136 => ?_) (fun c136 => ?_)
              · have h137 := ifT c136 h130
                have k138 : (x116 == x128) = false := by simpa using c136
                refine WP.usreg rfl ?_
                refine U.p rfl rfl (.inl rfl) (S.assign rfl K) ?_
                refine U.done (Nat.le_of_ble_eq_true rfl) ?_
                refine WP.ret ?_
                refine blkR (sqR (sqR (blkR (blkR (sqR (sqR (blkR (sqR ?_))))))))
                have h139 := exitS h137 e111
                have h140 := exitS h139 e64
                refine fin.slot (.inr rfl) rfl (L 0 rfl rfl) ⟨V132, rfl, ((((((le5.trans le13).trans le29).trans le43).trans le60).trans le107).trans le133), ?_⟩
                have ow141 := ow135.drop 0 rfl
                have ow142 := ow141.drop 0 rfl
                have e143 := Option.some.inj h140
                subst e143
                exact ⟨rfl, ow142⟩
              · have h144 := ifF c136 h130
                have k145 : (x116 == x128) = true := by simpa using c136
                refine WP.skip ?_
                refine blkN (sqN ?_)
                refine WP.ureg rfl ?_
                refine U.p rfl rfl (.inl rfl) (S.add rfl (L 19 rfl rfl) K) ?_
                refine U.p rfl rfl (.inl rfl) (S.move rfl (L 0 rfl rfl)) ?_
                refine U.done (Nat.le_of_ble_eq_true rfl) ?_
                refine sqN ?_
                exact ⟨_, V132, rfl, ⟨m109, Nat.lt_succ_self _, w64 (x103 + 1), rfl, (le107.trans le133), ow135, backS h144 e111⟩, (allCons (L 14 rfl rfl) (allCons (L 15 rfl rfl) (allCons (L 16 rfl rfl) (allCons (L 17 rfl rfl) (allCons (L 18 rfl rfl) (allCons (L 19 rfl rfl) (allCons (L 20 rfl rfl) (allCons (L 0 rfl rfl) allNil))))))))⟩
            · have h146 := ifF c114 h113
              refine WP.exit ?_
              refine sqE (sqE (blkE (blkN (sqN ?_))))
              have h147 := exitS h146 e111
              refine WP.ureg rfl ?_
              refine U.p rfl rfl (.inl rfl) (S.add rfl (L 5 rfl rfl) K) ?_
              refine U.p rfl rfl (.inl rfl) (S.move rfl (L 0 rfl rfl)) ?_
              refine U.done (Nat.le_of_ble_eq_true rfl) ?_
              refine sqN ?_
              exact ⟨_, V106, rfl, ⟨m62, Nat.lt_succ_self _, w64 (x54 + 1), rfl, (le60.trans le107), ow108, backS h147 e64⟩, (allCons (L 3 rfl rfl) (allCons (L 4 rfl rfl) (allCons (L 6 rfl rfl) (allCons (L 0 rfl rfl) allNil))))⟩
        · have h148 := ifF c67 h66
          refine WP.exit ?_
          refine sqE (sqE (blkE (sqN ?_)))
          have h149 := exitS h148 e64
          refine WP.usreg rfl ?_
          refine U.p rfl rfl (.inl rfl) (S.assign rfl K) ?_
          refine U.done (Nat.le_of_ble_eq_true rfl) ?_
          refine WP.ret ?_
          refine fin.slot (.inr rfl) rfl (L 0 rfl rfl) ⟨V59, rfl, ((((le5.trans le13).trans le29).trans le43).trans le60), ?_⟩
          have ow150 := ow61.drop 0 rfl
          have ow151 := ow150.drop 0 rfl
          have e152 := Option.some.inj h149
          subst e152
          exact ⟨rfl, ow151⟩

set_option maxHeartbeats 4000000 in
theorem wk_law10_FlowReads (V : Vw) (Rs : List At) (p0 : TFunc) (v1 : Value) (f2 : Fz RT_TIns V v1 p0.code) (ow : Ow V (Rs)) (r : Bool) (h : law10_FlowReads p0 = some r) : ∃ v V', Cl Try.prog 0 4 #[.agg #[.string p0.name, .int .i64 p0.params, .int .i64 p0.regs, v1]] V.H v V'.H ∧ V.le V' ∧ (v = .bool r ∧ Ow V' (Rs)) := by
  refine Ct.of (Nat.zero_le _) Try.func4 rfl (Nat.le_of_ble_eq_true rfl) ?_
  unfold law10_FlowReads at h
  refine WP.usreg rfl ?_
  refine O.box ow rfl rfl (.inl rfl) rfl (L 0 rfl rfl) (by simp [topV]) rfl nd (fun b3 V4 le5 ow6 => ?_)
  refine U.p rfl rfl (.inl rfl) (S.assign rfl K) ?_
  refine U.done (Nat.le_of_ble_eq_true rfl) ?_
  refine WP.seq ?_
  refine WP.usreg rfl ?_
  obtain ⟨x8, hx9, h10⟩ := bindS h
  refine O.call (V := V4) rfl rfl (.inl rfl) rfl en8 aN (wk_law10_alive V4 _ ow6 _ hx9) (fun _ _ _ _ => nd) (fun v11 V12 le13 hp14 => ?_)
  obtain ⟨rfl, ow15⟩ := hp14
  refine U.p rfl rfl (.inl rfl) (S.not rfl (L 0 rfl rfl)) ?_
  refine U.done (Nat.le_of_ble_eq_true rfl) ?_
  refine WP.cond _ (L 0 rfl rfl) rfl (fun c16 => ?_) (fun c16 => ?_)
  · have h17 := ifT c16 h10
    have k18 : x8 = false := by simpa using c16
    refine WP.usreg rfl ?_
    refine U.p rfl rfl (.inl rfl) (S.assign rfl K) ?_
    refine U.done (Nat.le_of_ble_eq_true rfl) ?_
    refine WP.ret ?_
    refine sqR ?_
    refine fin.slot (.inr rfl) rfl (L 0 rfl rfl) ⟨V12, rfl, (le5.trans le13), ?_⟩
    have ow19 := ow15.drop 0 rfl
    have e20 := Option.some.inj h17
    subst e20
    exact ⟨rfl, ow19⟩
  · have h21 := ifF c16 h10
    have k22 : x8 = true := by simpa using c16
    refine WP.skip ?_
    refine sqN ?_
    refine WP.seq ?_
    refine WP.usreg rfl ?_
    refine U.k rfl rfl (.inl rfl) (S.loadB rfl (L 3 rfl rfl) Try.underlying24 rfl ti24 (ow15.own (k := 0) rfl).get rfl) nd ?_
    have f23 := f2.up (le5.trans le13)
    obtain ⟨x24, hx25, h26⟩ := bindS h21
    refine O.call (V := V12) rfl rfl (.inl rfl) rfl en9 (aC (L 0 rfl rfl) aN) (wk_law10_great V12 _ p0 v1 f23 ow15 _ hx25) (fun _ _ _ _ => nd) (fun v27 V28 le29 hp30 => ?_)
    obtain ⟨rfl, ow31⟩ := hp30
    refine U.done (Nat.le_of_ble_eq_true rfl) ?_
    refine WP.cond _ (L 0 rfl rfl) rfl (fun c32 => ?_) (fun c32 => ?_)
    · have h33 := ifT c32 h26
      refine WP.usreg rfl ?_
      refine U.p rfl rfl (.inl rfl) (S.assign rfl K) ?_
      refine U.done (Nat.le_of_ble_eq_true rfl) ?_
      refine WP.ret ?_
      refine sqR ?_
      refine fin.slot (.inr rfl) rfl (L 0 rfl rfl) ⟨V28, rfl, ((le5.trans le13).trans le29), ?_⟩
      have ow34 := ow31.drop 0 rfl
      have e35 := Option.some.inj h33
      subst e35
      exact ⟨rfl, ow34⟩
    · have h36 := ifF c32 h26
      refine WP.skip ?_
      refine sqN ?_
      refine WP.usreg rfl ?_
      refine U.k rfl rfl (.inl rfl) (S.loadB rfl (L 5 rfl rfl) Try.underlying24 rfl ti24 (ow31.own (k := 0) rfl).get rfl) nd ?_
      have f37 := f23.up le29
      obtain ⟨x38, hx39, h40⟩ := bindS h36
      refine O.call (V := V28) rfl rfl (.inl rfl) rfl en10 (aC (L 0 rfl rfl) aN) (wk_flow_Live V28 _ p0 v1 f37 ow31 _ hx39) (fun _ _ _ _ => nd) (fun v41 V42 le43 hp44 => ?_)
      obtain ⟨_, rfl, ow45⟩ := hp44
      refine U.p rfl rfl (.inl rfl) (S.assign rfl (L 0 rfl rfl)) ?_
      refine U.done (Nat.le_of_ble_eq_true rfl) ?_
      refine WP.seq ?_
      refine WP.usreg rfl ?_
      refine U.p (v := .pointer (some ⟨b3, 3, none⟩)) rfl rfl (.inl rfl) (S.fieldAddr rfl (L 8 rfl rfl) Try.underlying24 rfl ti22 rfl rfl) ?_
      refine U.k rfl rfl (.inl rfl) (S.load rfl (L 0 rfl rfl) Try.underlying22 rfl ((ow45.own (k := 1) rfl).cell rfl)) nd ?_
      refine U.p rfl rfl (.inl rfl) (f37.1.len rfl (L 0 rfl rfl) Try.underlying22) ?_
      refine U.p rfl rfl (.inl rfl) (S.move rfl K) ?_
      refine U.done (Nat.le_of_ble_eq_true rfl) ?_
      refine WP.blk ?_
      have ow49 := ow45.pick 0 rfl
      have ow50 := ow49.pick 1 rfl
      unfold law10_FlowReads_l1 at h40
      obtain ⟨n52, hn51⟩ := loopO_some.1 h40
      refine WP.loopI2 (fun n l V' => ∃ (x48 : Int), l = [(1, .pointer (some ⟨b3, 0, none⟩)), (3, v41), (21, v1), (22, .int .i64 (p0.code.length : Int)), (23, .int .i64 x48)] ∧ V42.le V' ∧ Ow V' (.pt b3 (.cells 0 [.string p0.name, .int .i64 p0.params, .int .i64 p0.regs, v1]) :: .os (RT.sl RT.bool) v41 x38 :: Rs) ∧ itO (fun s => law10_FlowReads_l1b p0 x38 s) n x48 = some r) n52 _ ⟨0, rfl, .refl _, ow50, hn51⟩ (allCons (L 12 rfl rfl) (allCons (L 4 rfl rfl) (allCons (L 2 rfl rfl) (allCons (L 1 rfl rfl) (allCons (L 0 rfl rfl) allNil))))) ?_
      rintro _ _ V53 ⟨x48, rfl, le54, ow55, h59⟩
      obtain ⟨m56, q57, rfl, h60, e58⟩ := itS h59
      replace h60 : law10_FlowReads_l1b p0 x38 x48 = some q57 := h60
      unfold law10_FlowReads_l1b at h60
      refine WP.usreg rfl ?_
      refine U.p rfl rfl (.inl rfl) (S.lss rfl (L 4 rfl rfl) (L 3 rfl rfl)) ?_
      refine U.done (Nat.le_of_ble_eq_true rfl) ?_
      refine WP.seq ?_
      refine WP.cond _ (L 0 rfl rfl) rfl (fun c61 => ?_) (fun c61 => ?_)
      · have h62 := ifT c61 h60
        refine WP.skip ?_
        refine sqN ?_
        refine WP.seq ?_
        refine WP.blk ?_
        refine WP.usreg rfl ?_
        refine U.p rfl rfl (.inl rfl) (S.move rfl (L 5 rfl rfl)) ?_
        obtain ⟨x63, hx64, h65⟩ := bindS h62
        obtain ⟨b66, o67, c68, cs69, hv70, hf71, hr72, hc73⟩ := f37.at hx64
        obtain ⟨v74, rfl, f75⟩ := hr72
        refine U.p rfl rfl (.inl rfl) (S.index rfl ((L 4 rfl rfl).trans hv70) (L 6 rfl rfl) Try.underlying22 ti33 (ix_ge hx64) (ix_lt hx64)) ?_
        refine U.k rfl rfl (.inl rfl) (S.loadN (cs := [.int .i64 x63.op, .int .i64 x63.d, .int .i64 x63.a, .int .i64 x63.b, .int .i64 x63.imm, v74, .int .i64 x63.what, .bool x63.volatile, .bool x63.final]) rfl (L 0 rfl rfl) Try.underlying33 rfl ti33 rfl (fun j v hj => (le43.trans le54).cell hf71 (hc73 j v hj))) nd ?_
        refine O.alloc ow55 rfl rfl (.inl rfl) rfl ti33 rfl rfl nd (fun b76 V77 le78 ow79 => ?_)
        refine U.p rfl rfl (.inl rfl) (S.assign rfl (L 3 rfl rfl)) ?_
        refine O.store (k := 0) (cs := [.int .i64 x63.op, .int .i64 x63.d, .int .i64 x63.a, .int .i64 x63.b, .int .i64 x63.imm, v74, .int .i64 x63.what, .bool x63.volatile, .bool x63.final]) (c' := [.int .i64 x63.op, .int .i64 x63.d, .int .i64 x63.a, .int .i64 x63.b, .int .i64 x63.imm, v74, .int .i64 x63.what, .bool x63.volatile, .bool x63.final]) ow79 rfl rfl rfl (.inl rfl) rfl (L 1 rfl rfl) (L 2 rfl rfl) ti33 (by simp [topV]) rfl rfl (Nat.le_of_ble_eq_true rfl) (by have q0 := f75.one; simp only [List.all_cons, List.all_nil, q0]; rfl) rfl nd (fun V81 le82 ow83 => ?_)
        refine U.done (Nat.le_of_ble_eq_true rfl) ?_
        refine WP.seq ?_
        refine WP.usreg rfl ?_
        refine U.k rfl rfl (.inl rfl) (S.loadB rfl (L 1 rfl rfl) Try.underlying33 rfl ti33 (ow83.own (k := 0) rfl).get rfl) nd ?_
        have f84 := f75.up (((le43.trans le54).trans le78).trans le82)
        obtain ⟨x85, hx86, h87⟩ := bindS h65
        refine O.call (V := V81) rfl rfl (.inl rfl) rfl en12 (aC (L 0 rfl rfl) aN) (wk_ir_Uses V81 _ x63 v74 f84 ow83 _ hx86) (fun _ _ _ _ => nd) (fun v88 V89 le90 hp91 => ?_)
        obtain ⟨_, rfl, ow92⟩ := hp91
        refine U.p rfl rfl (.inl rfl) (ow92.oslen (k := 0) rfl rfl (L 0 rfl rfl) Try.underlying31) ?_
        refine U.p rfl rfl (.inl rfl) (S.move rfl K) ?_
        refine U.done (Nat.le_of_ble_eq_true rfl) ?_
        refine WP.blk ?_
        have ow96 := ow92.pick 0 rfl
        have ow97 := ow96.pick 1 rfl
        have ow98 := ow97.pick 3 rfl
        have ow99 := ow98.pick 3 rfl
        unfold law10_FlowReads_l2 at h87
        obtain ⟨n101, hn100⟩ := loopO_some.1 h87
        refine WP.loopI2 (fun n l V' => ∃ (x95 : Int), l = [(1, .pointer (some ⟨b3, 0, none⟩)), (3, v41), (4, .int .i64 x48), (5, .pointer (some ⟨b76, 0, none⟩)), (21, v1), (22, .int .i64 (p0.code.length : Int)), (23, .int .i64 x48), (29, v88), (30, .int .i64 (x85.length : Int)), (31, .int .i64 x95)] ∧ V89.le V' ∧ Ow V' (.pt b3 (.cells 0 [.string p0.name, .int .i64 p0.params, .int .i64 p0.regs, v1]) :: .os (RT.sl RT.bool) v41 x38 :: .pt b76 (.cells 9 [.int .i64 x63.op, .int .i64 x63.d, .int .i64 x63.a, .int .i64 x63.b, .int .i64 x63.imm, v74, .int .i64 x63.what, .bool x63.volatile, .bool x63.final]) :: .os (RT.int .i64) v88 x85 :: Rs) ∧ itO (fun s => law10_FlowReads_l2b p0 x38 x48 x63 x85 s) n x95 = some q57) n101 _ ⟨0, rfl, .refl _, ow99, hn100⟩ (allCons (L 10 rfl rfl) (allCons (L 11 rfl rfl) (allCons (L 4 rfl rfl) (allCons (L 5 rfl rfl) (allCons (L 12 rfl rfl) (allCons (L 13 rfl rfl) (allCons (L 14 rfl rfl) (allCons (L 2 rfl rfl) (allCons (L 1 rfl rfl) (allCons (L 0 rfl rfl) allNil)))))))))) ?_
        rintro _ _ V102 ⟨x95, rfl, le103, ow104, h108⟩
        obtain ⟨m105, q106, rfl, h109, e107⟩ := itS h108
        replace h109 : law10_FlowReads_l2b p0 x38 x48 x63 x85 x95 = some q106 := h109
        unfold law10_FlowReads_l2b at h109
        refine WP.usreg rfl ?_
        refine U.p rfl rfl (.inl rfl) (S.lss rfl (L 9 rfl rfl) (L 8 rfl rfl)) ?_
        refine U.done (Nat.le_of_ble_eq_true rfl) ?_
        refine WP.seq ?_
        refine WP.cond _ (L 0 rfl rfl) rfl (fun c110 => ?_) (fun c110 => ?_)
        · have h111 := ifT c110 h109
          refine WP.skip ?_
          refine sqN ?_
          refine WP.seq ?_
          refine WP.blk ?_
          refine WP.usreg rfl ?_
          obtain ⟨x112, hx113, h114⟩ := bindS h111
          obtain ⟨b115, o116, n117, c118, hv119⟩ := ow104.ospt (k := 3) rfl hx113
          obtain ⟨_, hv120, _⟩ := ow104.osel (k := 3) rfl hv119 hx113
          refine U.p rfl rfl (.inl rfl) (S.index rfl ((L 8 rfl rfl).trans hv120) (L 10 rfl rfl) Try.underlying31 ti3 (ix_ge hx113) (ix_lt hx113)) ?_
          obtain ⟨cs121, hv122, hlt123, hr124, hc125⟩ := ow104.osel (k := 3) rfl hv119 hx113
          obtain rfl : cs121 = [.int .i64 x112] := hr124
          refine U.k rfl rfl (.inl rfl) (S.load rfl (L 0 rfl rfl) Try.underlying3 rfl (hc125 0 _ rfl)) nd ?_
          refine U.p rfl rfl (.inl rfl) (S.assign rfl (L 0 rfl rfl)) ?_
          refine U.done (Nat.le_of_ble_eq_true rfl) ?_
          refine WP.usreg rfl ?_
          refine U.p rfl rfl (.inl rfl) (S.move rfl (L 5 rfl rfl)) ?_
          refine U.p rfl rfl (.inl rfl) (S.move rfl (L 7 rfl rfl)) ?_
          obtain ⟨x126, hx127, h128⟩ := bindS h114
          obtain ⟨b129, o130, n131, c132, hv133⟩ := ow104.ospt (k := 1) rfl hx127
          obtain ⟨_, hv134, _⟩ := ow104.osel (k := 1) rfl hv133 hx127
          refine U.p rfl rfl (.inl rfl) (S.index rfl ((L 1 rfl rfl).trans hv134) (L 0 rfl rfl) Try.underlying27 ti29 (ix_ge hx127) (ix_lt hx127)) ?_
          obtain ⟨cs135, hv136, hlt137, hr138, hc139⟩ := ow104.osel (k := 1) rfl hv133 hx127
          obtain ⟨v140, rfl, f141⟩ := hr138
          refine U.k rfl rfl (.inl rfl) (S.load rfl (L 0 rfl rfl) Try.underlying29 rfl (hc139 0 _ rfl)) nd ?_
          refine U.p rfl rfl (.inl rfl) (S.move rfl (L 4 rfl rfl)) ?_
          obtain ⟨x142, hx143, h144⟩ := bindS h128
          obtain ⟨b145, o146, c147, cs148, hv149, hf150, hr151, hc152⟩ := f141.at hx143
          obtain rfl : cs148 = [.bool x142] := hr151
          refine U.p rfl rfl (.inl rfl) (S.index rfl ((L 1 rfl rfl).trans hv149) (L 0 rfl rfl) Try.underlying29 ti4 (ix_ge hx143) (ix_lt hx143)) ?_
          refine U.k rfl rfl (.inl rfl) (S.load rfl (L 0 rfl rfl) Try.underlying4 rfl (hc152 0 _ rfl)) nd ?_
          refine U.p rfl rfl (.inl rfl) (S.not rfl (L 0 rfl rfl)) ?_
          refine U.done (Nat.le_of_ble_eq_true rfl) ?_
          refine WP.cond _ (L 0 rfl rfl) rfl (fun c153 => ?_) (fun c153 => ?_)
          · have h154 := ifT c153 h144
            have k155 : x142 = false := by simpa using c153
            refine WP.usreg rfl ?_
            refine U.p rfl rfl (.inl rfl) (S.assign rfl K) ?_
            refine U.done (Nat.le_of_ble_eq_true rfl) ?_
            refine WP.ret ?_
            refine blkR (sqR (sqR (blkR (sqR (blkR (sqR (sqR (blkR (sqR ?_)))))))))
            have h156 := exitS h154 e107
            have h157 := exitS h156 e58
            refine fin.slot (.inr rfl) rfl (L 0 rfl rfl) ⟨V102, rfl, ((((((((le5.trans le13).trans le29).trans le43).trans le54).trans le78).trans le82).trans le90).trans le103), ?_⟩
            have ow158 := ow104.drop 0 rfl
            have ow159 := ow158.drop 0 rfl
            have ow160 := ow159.drop 0 rfl
            have ow161 := ow160.drop 0 rfl
            have e162 := Option.some.inj h157
            subst e162
            exact ⟨rfl, ow161⟩
          · have h163 := ifF c153 h144
            have k164 : x142 = true := by simpa using c153
            refine WP.skip ?_
            refine blkN (sqN ?_)
            refine WP.ureg rfl ?_
            refine U.p rfl rfl (.inl rfl) (S.add rfl (L 21 rfl rfl) K) ?_
            refine U.p rfl rfl (.inl rfl) (S.move rfl (L 0 rfl rfl)) ?_
            refine U.done (Nat.le_of_ble_eq_true rfl) ?_
            refine sqN ?_
            exact ⟨_, V102, rfl, ⟨m105, Nat.lt_succ_self _, w64 (x95 + 1), rfl, le103, ow104, backS h163 e107⟩, (allCons (L 14 rfl rfl) (allCons (L 15 rfl rfl) (allCons (L 16 rfl rfl) (allCons (L 17 rfl rfl) (allCons (L 18 rfl rfl) (allCons (L 19 rfl rfl) (allCons (L 20 rfl rfl) (allCons (L 21 rfl rfl) (allCons (L 22 rfl rfl) (allCons (L 0 rfl rfl) allNil))))))))))⟩
        · have h165 := ifF c110 h109
          refine WP.exit ?_
          refine sqE (sqE (blkE (sqN ?_)))
          have h166 := exitS h165 e107
          refine WP.usreg rfl ?_
          refine U.p rfl rfl (.inl rfl) (S.move rfl (L 2 rfl rfl)) ?_
          refine U.p rfl rfl (.inl rfl) (S.move rfl (L 4 rfl rfl)) ?_
          obtain ⟨x167, hx168, h169⟩ := bindS h166
          obtain ⟨b170, o171, n172, c173, hv174⟩ := ow104.ospt (k := 1) rfl hx168
          obtain ⟨_, hv175, _⟩ := ow104.osel (k := 1) rfl hv174 hx168
          refine U.p rfl rfl (.inl rfl) (S.index rfl ((L 1 rfl rfl).trans hv175) (L 0 rfl rfl) Try.underlying27 ti29 (ix_ge hx168) (ix_lt hx168)) ?_
          obtain ⟨cs176, hv177, hlt178, hr179, hc180⟩ := ow104.osel (k := 1) rfl hv174 hx168
          obtain ⟨v181, rfl, f182⟩ := hr179
          refine U.k rfl rfl (.inl rfl) (S.load rfl (L 0 rfl rfl) Try.underlying29 rfl (hc180 0 _ rfl)) nd ?_
          refine U.p rfl rfl (.inl rfl) (f182.1.len rfl (L 0 rfl rfl) Try.underlying29) ?_
          refine U.p rfl rfl (.inl rfl) (S.move rfl K) ?_
          refine U.done (Nat.le_of_ble_eq_true rfl) ?_
          refine WP.blk ?_
          have ow184 := ow104.drop 3 rfl
          unfold law10_FlowReads_l3 at h169
          obtain ⟨n186, hn185⟩ := loopO_some.1 h169
          refine WP.loopI2 (fun n l V' => ∃ (x183 : Int), l = [(1, .pointer (some ⟨b3, 0, none⟩)), (3, v41), (4, .int .i64 x48), (5, .pointer (some ⟨b76, 0, none⟩)), (21, v1), (22, .int .i64 (p0.code.length : Int)), (23, .int .i64 x48), (48, .int .i64 (x167.length : Int)), (49, .int .i64 x183)] ∧ V102.le V' ∧ Ow V' (.pt b3 (.cells 0 [.string p0.name, .int .i64 p0.params, .int .i64 p0.regs, v1]) :: .os (RT.sl RT.bool) v41 x38 :: .pt b76 (.cells 9 [.int .i64 x63.op, .int .i64 x63.d, .int .i64 x63.a, .int .i64 x63.b, .int .i64 x63.imm, v74, .int .i64 x63.what, .bool x63.volatile, .bool x63.final]) :: Rs) ∧ itO (fun s => law10_FlowReads_l3b p0 x38 x48 x63 x167 s) n x183 = some q57) n186 _ ⟨0, rfl, .refl _, ow184, hn185⟩ (allCons (L 7 rfl rfl) (allCons (L 8 rfl rfl) (allCons (L 9 rfl rfl) (allCons (L 10 rfl rfl) (allCons (L 11 rfl rfl) (allCons (L 12 rfl rfl) (allCons (L 13 rfl rfl) (allCons (L 1 rfl rfl) (allCons (L 0 rfl rfl) allNil))))))))) ?_
          rintro _ _ V187 ⟨x183, rfl, le188, ow189, h193⟩
          obtain ⟨m190, q191, rfl, h194, e192⟩ := itS h193
          replace h194 : law10_FlowReads_l3b p0 x38 x48 x63 x167 x183 = some q191 := h194
          unfold law10_FlowReads_l3b at h194
          refine WP.usreg rfl ?_
          refine U.p rfl rfl (.inl rfl) (S.lss rfl (L 8 rfl rfl) (L 7 rfl rfl)) ?_
          refine U.done (Nat.le_of_ble_eq_true rfl) ?_
          refine WP.seq ?_
          refine WP.cond _ (L 0 rfl rfl) rfl (fun c195 => ?_) (fun c195 => ?_)
          · have h196 := ifT c195 h194
            refine WP.skip ?_
            refine sqN ?_
            refine WP.seqI (fun l V' => l = [(1, .pointer (some ⟨b3, 0, none⟩)), (3, v41), (4, .int .i64 x48), (5, .pointer (some ⟨b76, 0, none⟩)), (21, v1), (22, .int .i64 (p0.code.length : Int)), (23, .int .i64 x48), (48, .int .i64 (x167.length : Int)), (49, .int .i64 x183)] ∧ V187.le V' ∧ Ow V' (.pt b3 (.cells 0 [.string p0.name, .int .i64 p0.params, .int .i64 p0.regs, v1]) :: .os (RT.sl RT.bool) v41 x38 :: .pt b76 (.cells 9 [.int .i64 x63.op, .int .i64 x63.d, .int .i64 x63.a, .int .i64 x63.b, .int .i64 x63.imm, v74, .int .i64 x63.what, .bool x63.volatile, .bool x63.final]) :: Rs) ∧ law10_FlowReads_k1 x183  = some q191) ?_ ?_
            · rintro _ V197 ⟨rfl, le198, ow199, h200⟩
              unfold law10_FlowReads_k1 at h200
              refine WP.ureg rfl ?_
              refine U.p rfl rfl (.inl rfl) (S.add rfl (L 8 rfl rfl) K) ?_
              refine U.p rfl rfl (.inl rfl) (S.move rfl (L 0 rfl rfl)) ?_
              refine U.done (Nat.le_of_ble_eq_true rfl) ?_
              refine sqN ?_
              exact ⟨_, V197, rfl, ⟨m190, Nat.lt_succ_self _, w64 (x183 + 1), rfl, (le188.trans le198), ow199, backS h200 e192⟩, (allCons (L 2 rfl rfl) (allCons (L 3 rfl rfl) (allCons (L 4 rfl rfl) (allCons (L 5 rfl rfl) (allCons (L 6 rfl rfl) (allCons (L 7 rfl rfl) (allCons (L 8 rfl rfl) (allCons (L 9 rfl rfl) (allCons (L 0 rfl rfl) allNil)))))))))⟩
            · skip
              refine WP.blk ?_
              refine WP.usreg rfl ?_
              refine U.p rfl rfl (.inl rfl) (S.move rfl (L 9 rfl rfl)) ?_
              refine U.p rfl rfl (.inl rfl) (S.assign rfl (L 0 rfl rfl)) ?_
              refine U.done (Nat.le_of_ble_eq_true rfl) ?_
              refine WP.seq ?_
              refine WP.usreg rfl ?_
              refine U.p rfl rfl (.inl rfl) (S.move rfl (L 4 rfl rfl)) ?_
              refine U.p rfl rfl (.inl rfl) (S.move rfl (L 6 rfl rfl)) ?_
              obtain ⟨x201, hx202, h203⟩ := bindS h196
              obtain ⟨_, hv204, _⟩ := ow189.osel (k := 1) rfl hv174 hx202
              refine U.p rfl rfl (.inl rfl) (S.index rfl ((L 1 rfl rfl).trans hv204) (L 0 rfl rfl) Try.underlying27 ti29 (ix_ge hx202) (ix_lt hx202)) ?_
              obtain ⟨cs205, hv206, hlt207, hr208, hc209⟩ := ow189.osel (k := 1) rfl hv174 hx202
              obtain ⟨v210, rfl, f211⟩ := hr208
              refine U.k rfl rfl (.inl rfl) (S.load rfl (L 0 rfl rfl) Try.underlying29 rfl (hc209 0 _ rfl)) nd ?_
              refine U.p rfl rfl (.inl rfl) (S.move rfl (L 4 rfl rfl)) ?_
              obtain ⟨x212, hx213, h214⟩ := bindS h203
              obtain ⟨b215, o216, c217, cs218, hv219, hf220, hr221, hc222⟩ := f211.at hx213
              obtain rfl : cs218 = [.bool x212] := hr221
              refine U.p rfl rfl (.inl rfl) (S.index rfl ((L 1 rfl rfl).trans hv219) (L 0 rfl rfl) Try.underlying29 ti4 (ix_ge hx213) (ix_lt hx213)) ?_
              refine U.k rfl rfl (.inl rfl) (S.load rfl (L 0 rfl rfl) Try.underlying4 rfl (hc222 0 _ rfl)) nd ?_
              refine U.p rfl rfl (.inl rfl) (S.not rfl (L 0 rfl rfl)) ?_
              refine U.done (Nat.le_of_ble_eq_true rfl) ?_
              refine WP.cond _ (L 0 rfl rfl) rfl (fun c223 => ?_) (fun c223 => ?_)
              · have h224 := ifT c223 h214
                have k225 : x212 = false := by simpa using c223
                refine WP.exit ?_
                refine sqE (blkE (sqN ?_))
                exact ⟨_, V187, rfl, ⟨rfl, (.refl _), ow189, h224⟩, (allCons (L 11 rfl rfl) (allCons (L 12 rfl rfl) (allCons (L 13 rfl rfl) (allCons (L 14 rfl rfl) (allCons (L 15 rfl rfl) (allCons (L 16 rfl rfl) (allCons (L 17 rfl rfl) (allCons (L 18 rfl rfl) (allCons (L 19 rfl rfl) allNil)))))))))⟩
              · have h226 := ifF c223 h214
                have k227 : x212 = true := by simpa using c223
                refine WP.skip ?_
                refine sqN ?_
                refine WP.usreg rfl ?_
                refine U.p rfl rfl (.inl rfl) (S.assign rfl K) ?_
                refine U.done (Nat.le_of_ble_eq_true rfl) ?_
                refine WP.seq ?_
                refine WP.usreg rfl ?_
                refine U.k rfl rfl (.inl rfl) (S.loadB rfl (L 15 rfl rfl) Try.underlying33 rfl ti33 (ow189.own (k := 2) rfl).get rfl) nd ?_
                have f228 := f84.up ((le90.trans le103).trans le188)
                obtain ⟨x229, hx230, h231⟩ := bindS h226
                refine O.call (V := V187) rfl rfl (.inl rfl) rfl en12 (aC (L 0 rfl rfl) aN) (wk_ir_Uses V187 _ x63 v74 f228 ow189 _ hx230) (fun _ _ _ _ => nd) (fun v232 V233 le234 hp235 => ?_)
                obtain ⟨_, rfl, ow236⟩ := hp235
                refine U.p rfl rfl (.inl rfl) (ow236.oslen (k := 0) rfl rfl (L 0 rfl rfl) Try.underlying31) ?_
                refine U.p rfl rfl (.inl rfl) (S.move rfl K) ?_
                refine U.done (Nat.le_of_ble_eq_true rfl) ?_
                refine WP.blk ?_
                have ow241 := ow236.pick 0 rfl
                have ow242 := ow241.pick 3 rfl
                have ow243 := ow242.pick 3 rfl
                have ow244 := ow243.pick 3 rfl
                unfold law10_FlowReads_l4 at h231
                obtain ⟨n246, hn245⟩ := loopO_some.1 h231
                refine WP.loopI2 (fun n l V' => ∃ (x239 : Bool) (x240 : Int), l = [(1, .pointer (some ⟨b3, 0, none⟩)), (3, v41), (4, .int .i64 x48), (5, .pointer (some ⟨b76, 0, none⟩)), (8, .int .i64 x183), (9, .bool x239), (21, v1), (22, .int .i64 (p0.code.length : Int)), (23, .int .i64 x48), (48, .int .i64 (x167.length : Int)), (49, .int .i64 x183), (61, v232), (62, .int .i64 (x229.length : Int)), (63, .int .i64 x240)] ∧ V233.le V' ∧ Ow V' (.pt b3 (.cells 0 [.string p0.name, .int .i64 p0.params, .int .i64 p0.regs, v1]) :: .os (RT.sl RT.bool) v41 x38 :: .pt b76 (.cells 9 [.int .i64 x63.op, .int .i64 x63.d, .int .i64 x63.a, .int .i64 x63.b, .int .i64 x63.imm, v74, .int .i64 x63.what, .bool x63.volatile, .bool x63.final]) :: .os (RT.int .i64) v232 x229 :: Rs) ∧ itO (fun s => law10_FlowReads_l4b p0 x38 x48 x63 x183 x229 s.1 s.2) n (x239, x240) = some q191) n246 _ ⟨false, 0, rfl, .refl _, ow244, hn245⟩ (allCons (L 16 rfl rfl) (allCons (L 17 rfl rfl) (allCons (L 18 rfl rfl) (allCons (L 19 rfl rfl) (allCons (L 13 rfl rfl) (allCons (L 4 rfl rfl) (allCons (L 20 rfl rfl) (allCons (L 21 rfl rfl) (allCons (L 22 rfl rfl) (allCons (L 23 rfl rfl) (allCons (L 24 rfl rfl) (allCons (L 2 rfl rfl) (allCons (L 1 rfl rfl) (allCons (L 0 rfl rfl) allNil)))))))))))))) ?_
                rintro _ _ V247 ⟨x239, x240, rfl, le248, ow249, h253⟩
                obtain ⟨m250, q251, rfl, h254, e252⟩ := itS h253
                replace h254 : law10_FlowReads_l4b p0 x38 x48 x63 x183 x229 x239 x240 = some q251 := h254
                unfold law10_FlowReads_l4b at h254
                refine WP.usreg rfl ?_
                refine U.p rfl rfl (.inl rfl) (S.lss rfl (L 13 rfl rfl) (L 12 rfl rfl)) ?_
                refine U.done (Nat.le_of_ble_eq_true rfl) ?_
                refine WP.seq ?_
                refine WP.cond _ (L 0 rfl rfl) rfl (fun c255 => ?_) (fun c255 => ?_)
                · have h256 := ifT c255 h254
                  refine WP.skip ?_
                  refine sqN ?_
                  refine WP.seq ?_
                  refine WP.blk ?_
                  refine WP.usreg rfl ?_
                  obtain ⟨x257, hx258, h259⟩ := bindS h256
                  obtain ⟨b260, o261, n262, c263, hv264⟩ := ow249.ospt (k := 3) rfl hx258
                  obtain ⟨_, hv265, _⟩ := ow249.osel (k := 3) rfl hv264 hx258
                  refine U.p rfl rfl (.inl rfl) (S.index rfl ((L 12 rfl rfl).trans hv265) (L 14 rfl rfl) Try.underlying31 ti3 (ix_ge hx258) (ix_lt hx258)) ?_
                  obtain ⟨cs266, hv267, hlt268, hr269, hc270⟩ := ow249.osel (k := 3) rfl hv264 hx258
                  obtain rfl : cs266 = [.int .i64 x257] := hr269
                  refine U.k rfl rfl (.inl rfl) (S.load rfl (L 0 rfl rfl) Try.underlying3 rfl (hc270 0 _ rfl)) nd ?_
                  refine U.p rfl rfl (.inl rfl) (S.assign rfl (L 0 rfl rfl)) ?_
                  refine U.done (Nat.le_of_ble_eq_true rfl) ?_
                  refine WP.ureg rfl ?_
                  refine U.p rfl rfl (.inl rfl) (S.move rfl (L 9 rfl rfl)) ?_
                  refine U.p rfl rfl (.inl rfl) (S.move rfl (L 0 rfl rfl)) ?_
                  refine U.joinX 6 (fun e H => ∃ (u271 u272 u273 : Value), H = V247.H ∧ e = [(72, .bool (x239 || (decide (x257 = x183)))), (71, u271), (70, u272), (69, u273)]) ?_ ?_
                  · rintro _ _ ⟨u271, u272, u273, rfl, rfl⟩
                    refine U.p rfl rfl (.inl rfl) (S.assign rfl (L 0 rfl rfl)) ?_
                    refine U.done (Nat.le_of_ble_eq_true rfl) ?_
                    refine blkN (sqN ?_)
                    refine WP.ureg rfl ?_
                    refine U.p rfl rfl (.inl rfl) (S.add rfl (L 24 rfl rfl) K) ?_
                    refine U.p rfl rfl (.inl rfl) (S.move rfl (L 0 rfl rfl)) ?_
                    refine U.done (Nat.le_of_ble_eq_true rfl) ?_
                    refine sqN ?_
                    exact ⟨_, V247, rfl, ⟨m250, Nat.lt_succ_self _, x239 || (decide (x257 = x183)), w64 (x240 + 1), rfl, le248, ow249, backS h259 e252⟩, (allCons (L 13 rfl rfl) (allCons (L 14 rfl rfl) (allCons (L 15 rfl rfl) (allCons (L 16 rfl rfl) (allCons (L 17 rfl rfl) (allCons (L 2 rfl rfl) (allCons (L 19 rfl rfl) (allCons (L 20 rfl rfl) (allCons (L 21 rfl rfl) (allCons (L 22 rfl rfl) (allCons (L 23 rfl rfl) (allCons (L 24 rfl rfl) (allCons (L 25 rfl rfl) (allCons (L 0 rfl rfl) allNil))))))))))))))⟩
                  · intro kk
                    refine bcase (b := x239) (fun g277 => ?_) (fun g277 => ?_)
                    · skip
                      refine U.x rfl rfl rfl rfl ((L 0 rfl rfl).trans (congrArg Value.bool g277)) (by decide) ?_
                      refine U.x rfl rfl rfl rfl ((L 1 rfl rfl).trans (congrArg Value.bool g277)) (by decide) ?_
                      refine U.x rfl rfl rfl rfl ((L 2 rfl rfl).trans (congrArg Value.bool g277)) (by decide) ?_
                      refine U.p rfl rfl (.inl rfl) (S.pickT rfl ((L 3 rfl rfl).trans (congrArg Value.bool g277)) K) ?_
                      exact kk [(72, .bool true), (71, .tuple #[]), (70, .tuple #[]), (69, .tuple #[])] _ ⟨.tuple #[], .tuple #[], .tuple #[], rfl, (by rw [g277, Bool.true_or])⟩
                    · skip
                      refine U.p rfl rfl (.inr ⟨_, _, _, rfl, rfl, ((L 0 rfl rfl).trans (congrArg Value.bool g277))⟩) (S.move rfl (L 2 rfl rfl)) ?_
                      refine U.p rfl rfl (.inr ⟨_, _, _, rfl, rfl, ((L 1 rfl rfl).trans (congrArg Value.bool g277))⟩) (S.move rfl (L 11 rfl rfl)) ?_
                      refine U.p rfl rfl (.inr ⟨_, _, _, rfl, rfl, ((L 2 rfl rfl).trans (congrArg Value.bool g277))⟩) (S.eqlI rfl (L 1 rfl rfl) (L 0 rfl rfl)) ?_
                      refine U.p rfl rfl (.inl rfl) (S.pickF rfl ((L 3 rfl rfl).trans (congrArg Value.bool g277)) (L 0 rfl rfl)) ?_
                      exact kk [(72, .bool (decide (x257 = x183))), (71, .bool (decide (x257 = x183))), (70, .int .i64 x183), (69, .int .i64 x257)] _ ⟨.bool (decide (x257 = x183)), .int .i64 x183, .int .i64 x257, rfl, (by rw [g277, Bool.false_or])⟩
                · have h278 := ifF c255 h254
                  refine WP.exit ?_
                  refine sqE (sqE (blkE (sqN ?_)))
                  have h279 := exitS h278 e252
                  refine WP.seq ?_
                  refine WP.usreg rfl ?_
                  refine U.k rfl rfl (.inl rfl) (S.loadB rfl (L 1 rfl rfl) Try.underlying24 rfl ti24 (ow249.own (k := 0) rfl).get rfl) nd ?_
                  refine U.p rfl rfl (.inl rfl) (S.move rfl (L 4 rfl rfl)) ?_
                  have f280 := f37.up ((((((((le43.trans le54).trans le78).trans le82).trans le90).trans le103).trans le188).trans le234).trans le248)
                  obtain ⟨x281, hx282, h283⟩ := bindS h279
                  refine O.call (V := V247) rfl rfl (.inl rfl) rfl en13 (aC (L 1 rfl rfl) (aC (L 0 rfl rfl) aN)) (wk_flow_Next V247 _ p0 x48 v1 f280 ow249 _ hx282) (fun _ _ _ _ => nd) (fun v284 V285 le286 hp287 => ?_)
                  obtain ⟨_, rfl, ow288⟩ := hp287
                  refine U.p rfl rfl (.inl rfl) (ow288.oslen (k := 0) rfl rfl (L 0 rfl rfl) Try.underlying31) ?_
                  refine U.p rfl rfl (.inl rfl) (S.move rfl K) ?_
                  refine U.done (Nat.le_of_ble_eq_true rfl) ?_
                  refine WP.blk ?_
                  have ow293 := ow288.drop 4 rfl
                  have ow294 := ow293.pick 0 rfl
                  have ow295 := ow294.pick 3 rfl
                  have ow296 := ow295.pick 3 rfl
                  have ow297 := ow296.pick 3 rfl
                  unfold law10_FlowReads_l5 at h283
                  obtain ⟨n299, hn298⟩ := loopO_some.1 h283
                  refine WP.loopI2 (fun n l V' => ∃ (x291 : Bool) (x292 : Int), l = [(1, .pointer (some ⟨b3, 0, none⟩)), (3, v41), (4, .int .i64 x48), (5, .pointer (some ⟨b76, 0, none⟩)), (8, .int .i64 x183), (9, .bool x291), (21, v1), (22, .int .i64 (p0.code.length : Int)), (23, .int .i64 x48), (48, .int .i64 (x167.length : Int)), (49, .int .i64 x183), (76, v284), (77, .int .i64 (x281.length : Int)), (78, .int .i64 x292)] ∧ V285.le V' ∧ Ow V' (.pt b3 (.cells 0 [.string p0.name, .int .i64 p0.params, .int .i64 p0.regs, v1]) :: .os (RT.sl RT.bool) v41 x38 :: .pt b76 (.cells 9 [.int .i64 x63.op, .int .i64 x63.d, .int .i64 x63.a, .int .i64 x63.b, .int .i64 x63.imm, v74, .int .i64 x63.what, .bool x63.volatile, .bool x63.final]) :: .os (RT.int .i64) v284 x281 :: Rs) ∧ itO (fun s => law10_FlowReads_l5b x38 x63 x183 x281 s.1 s.2) n (x291, x292) = some q191) n299 _ ⟨x239, 0, rfl, .refl _, ow297, hn298⟩ (allCons (L 6 rfl rfl) (allCons (L 7 rfl rfl) (allCons (L 8 rfl rfl) (allCons (L 9 rfl rfl) (allCons (L 10 rfl rfl) (allCons (L 11 rfl rfl) (allCons (L 12 rfl rfl) (allCons (L 13 rfl rfl) (allCons (L 14 rfl rfl) (allCons (L 15 rfl rfl) (allCons (L 16 rfl rfl) (allCons (L 2 rfl rfl) (allCons (L 1 rfl rfl) (allCons (L 0 rfl rfl) allNil)))))))))))))) ?_
                  rintro _ _ V300 ⟨x291, x292, rfl, le301, ow302, h306⟩
                  obtain ⟨m303, q304, rfl, h307, e305⟩ := itS h306
                  replace h307 : law10_FlowReads_l5b x38 x63 x183 x281 x291 x292 = some q304 := h307
                  unfold law10_FlowReads_l5b at h307
                  refine WP.usreg rfl ?_
                  refine U.p rfl rfl (.inl rfl) (S.lss rfl (L 13 rfl rfl) (L 12 rfl rfl)) ?_
                  refine U.done (Nat.le_of_ble_eq_true rfl) ?_
                  refine WP.seq ?_
                  refine WP.cond _ (L 0 rfl rfl) rfl (fun c308 => ?_) (fun c308 => ?_)
                  · have h309 := ifT c308 h307
                    refine WP.skip ?_
                    refine sqN ?_
                    refine WP.seq ?_
                    refine WP.blk ?_
                    refine WP.usreg rfl ?_
                    obtain ⟨x310, hx311, h312⟩ := bindS h309
                    obtain ⟨b313, o314, n315, c316, hv317⟩ := ow302.ospt (k := 3) rfl hx311
                    obtain ⟨_, hv318, _⟩ := ow302.osel (k := 3) rfl hv317 hx311
                    refine U.p rfl rfl (.inl rfl) (S.index rfl ((L 12 rfl rfl).trans hv318) (L 14 rfl rfl) Try.underlying31 ti3 (ix_ge hx311) (ix_lt hx311)) ?_
                    obtain ⟨cs319, hv320, hlt321, hr322, hc323⟩ := ow302.osel (k := 3) rfl hv317 hx311
                    obtain rfl : cs319 = [.int .i64 x310] := hr322
                    refine U.k rfl rfl (.inl rfl) (S.load rfl (L 0 rfl rfl) Try.underlying3 rfl (hc323 0 _ rfl)) nd ?_
                    refine U.p rfl rfl (.inl rfl) (S.assign rfl (L 0 rfl rfl)) ?_
                    refine U.done (Nat.le_of_ble_eq_true rfl) ?_
                    refine WP.ureg rfl ?_
                    refine U.p rfl rfl (.inl rfl) (S.move rfl (L 9 rfl rfl)) ?_
                    refine U.p rfl rfl (.inl rfl) (S.move rfl (L 0 rfl rfl)) ?_
                    obtain ⟨y324, hy325, h326⟩ := bindS h312
                    refine U.joinX 16 (fun e H => ∃ (u327 u328 u329 u330 u331 u332 u333 u334 u335 u336 u337 u338 u339 : Value), ∃ V' : Vw, H = V'.H ∧ V300.le V' ∧ e = [(97, .bool y324), (96, u327), (95, u328), (94, u329), (93, u330), (92, u331), (91, u332), (90, u333), (89, u334), (88, u335), (87, u336), (86, u337), (85, u338), (84, u339)] ∧ Ow V' (.pt b3 (.cells 0 [.string p0.name, .int .i64 p0.params, .int .i64 p0.regs, v1]) :: .os (RT.sl RT.bool) v41 x38 :: .pt b76 (.cells 9 [.int .i64 x63.op, .int .i64 x63.d, .int .i64 x63.a, .int .i64 x63.b, .int .i64 x63.imm, v74, .int .i64 x63.what, .bool x63.volatile, .bool x63.final]) :: .os (RT.int .i64) v284 x281 :: Rs)) ?_ ?_
                    · rintro _ _ ⟨u327, u328, u329, u330, u331, u332, u333, u334, u335, u336, u337, u338, u339, V340, rfl, le341, rfl, ow342⟩
                      refine U.p rfl rfl (.inl rfl) (S.assign rfl (L 0 rfl rfl)) ?_
                      refine U.done (Nat.le_of_ble_eq_true rfl) ?_
                      refine blkN (sqN ?_)
                      refine WP.ureg rfl ?_
                      refine U.p rfl rfl (.inl rfl) (S.add rfl (L 34 rfl rfl) K) ?_
                      refine U.p rfl rfl (.inl rfl) (S.move rfl (L 0 rfl rfl)) ?_
                      refine U.done (Nat.le_of_ble_eq_true rfl) ?_
                      refine sqN ?_
                      exact ⟨_, V340, rfl, ⟨m303, Nat.lt_succ_self _, y324, w64 (x292 + 1), rfl, (le301.trans le341), ow342, backS h326 e305⟩, (allCons (L 23 rfl rfl) (allCons (L 24 rfl rfl) (allCons (L 25 rfl rfl) (allCons (L 26 rfl rfl) (allCons (L 27 rfl rfl) (allCons (L 2 rfl rfl) (allCons (L 29 rfl rfl) (allCons (L 30 rfl rfl) (allCons (L 31 rfl rfl) (allCons (L 32 rfl rfl) (allCons (L 33 rfl rfl) (allCons (L 34 rfl rfl) (allCons (L 35 rfl rfl) (allCons (L 0 rfl rfl) allNil))))))))))))))⟩
                    · intro kk
                      refine bcase (b := x291) (fun g343 => ?_) (fun g343 => ?_)
                      · have h344 := ifT g343 hy325
                        refine U.x rfl rfl rfl rfl ((L 0 rfl rfl).trans (congrArg Value.bool g343)) (by decide) ?_
                        refine U.x rfl rfl rfl rfl ((L 1 rfl rfl).trans (congrArg Value.bool g343)) (by decide) ?_
                        refine U.x rfl rfl rfl rfl ((L 2 rfl rfl).trans (congrArg Value.bool g343)) (by decide) ?_
                        refine U.x rfl rfl rfl rfl ((L 3 rfl rfl).trans (congrArg Value.bool g343)) (by decide) ?_
                        refine U.x rfl rfl rfl rfl ((L 4 rfl rfl).trans (congrArg Value.bool g343)) (by decide) ?_
                        refine U.x rfl rfl rfl rfl ((L 5 rfl rfl).trans (congrArg Value.bool g343)) (by decide) ?_
                        refine U.x rfl rfl rfl rfl ((L 6 rfl rfl).trans (congrArg Value.bool g343)) (by decide) ?_
                        refine U.x rfl rfl rfl rfl ((L 7 rfl rfl).trans (congrArg Value.bool g343)) (by decide) ?_
                        refine U.z rfl rfl rfl rfl (L 0 rfl rfl) ?_
                        refine U.z rfl rfl rfl rfl (L 1 rfl rfl) ?_
                        refine U.z rfl rfl rfl rfl (L 2 rfl rfl) ?_
                        refine U.z rfl rfl rfl rfl (L 3 rfl rfl) ?_
                        refine U.x rfl rfl rfl rfl ((L 12 rfl rfl).trans (congrArg Value.bool g343)) (by decide) ?_
                        refine U.p rfl rfl (.inl rfl) (S.pickT rfl ((L 13 rfl rfl).trans (congrArg Value.bool g343)) K) ?_
                        have e345 := Option.some.inj h344
                        subst e345
                        exact kk [(97, .bool true), (96, .tuple #[]), (95, .tuple #[]), (94, .tuple #[]), (93, .tuple #[]), (92, .tuple #[]), (91, .tuple #[]), (90, .tuple #[]), (89, .tuple #[]), (88, .tuple #[]), (87, .tuple #[]), (86, .tuple #[]), (85, .tuple #[]), (84, .tuple #[])] _ ⟨.tuple #[], .tuple #[], .tuple #[], .tuple #[], .tuple #[], .tuple #[], .tuple #[], .tuple #[], .tuple #[], .tuple #[], .tuple #[], .tuple #[], .tuple #[], V300, rfl, (.refl _), rfl, ow302⟩
                      · have h346 := ifF g343 hy325
                        refine U.p rfl rfl (.inr ⟨_, _, _, rfl, rfl, ((L 0 rfl rfl).trans (congrArg Value.bool g343))⟩) (S.move rfl (L 7 rfl rfl)) ?_
                        refine U.p rfl rfl (.inr ⟨_, _, _, rfl, rfl, ((L 1 rfl rfl).trans (congrArg Value.bool g343))⟩) (S.move rfl (L 3 rfl rfl)) ?_
                        obtain ⟨x347, hx348, h349⟩ := bindS h346
                        obtain ⟨_, hv350, _⟩ := ow302.osel (k := 1) rfl hv174 hx348
                        refine U.p rfl rfl (.inr ⟨_, _, _, rfl, rfl, ((L 2 rfl rfl).trans (congrArg Value.bool g343))⟩) (S.index rfl ((L 1 rfl rfl).trans hv350) (L 0 rfl rfl) Try.underlying27 ti29 (ix_ge hx348) (ix_lt hx348)) ?_
                        obtain ⟨cs351, hv352, hlt353, hr354, hc355⟩ := ow302.osel (k := 1) rfl hv174 hx348
                        obtain ⟨v356, rfl, f357⟩ := hr354
                        refine U.k rfl rfl (.inr ⟨_, _, _, rfl, rfl, ((L 3 rfl rfl).trans (congrArg Value.bool g343))⟩) (S.load rfl (L 0 rfl rfl) Try.underlying29 rfl (hc355 0 _ rfl)) nd ?_
                        refine U.p rfl rfl (.inr ⟨_, _, _, rfl, rfl, ((L 4 rfl rfl).trans (congrArg Value.bool g343))⟩) (S.move rfl (L 14 rfl rfl)) ?_
                        obtain ⟨x358, hx359, h360⟩ := bindS h349
                        obtain ⟨b361, o362, c363, cs364, hv365, hf366, hr367, hc368⟩ := f357.at hx359
                        obtain rfl : cs364 = [.bool x358] := hr367
                        refine U.p rfl rfl (.inr ⟨_, _, _, rfl, rfl, ((L 5 rfl rfl).trans (congrArg Value.bool g343))⟩) (S.index rfl ((L 1 rfl rfl).trans hv365) (L 0 rfl rfl) Try.underlying29 ti4 (ix_ge hx359) (ix_lt hx359)) ?_
                        refine U.k rfl rfl (.inr ⟨_, _, _, rfl, rfl, ((L 6 rfl rfl).trans (congrArg Value.bool g343))⟩) (S.load rfl (L 0 rfl rfl) Try.underlying4 rfl (hc368 0 _ rfl)) nd ?_
                        refine U.p rfl rfl (.inr ⟨_, _, _, rfl, rfl, ((L 7 rfl rfl).trans (congrArg Value.bool g343))⟩) (S.move rfl (L 0 rfl rfl)) ?_
                        obtain ⟨y369, hy370, h371⟩ := bindS h360
                        refine U.joinX 15 (fun e H => ∃ (u372 u373 u374 u375 : Value), ∃ V' : Vw, H = V'.H ∧ V300.le V' ∧ e = [(96, .bool y369), (95, u372), (94, u373), (93, u374), (92, u375)] ∧ Ow V' (.pt b3 (.cells 0 [.string p0.name, .int .i64 p0.params, .int .i64 p0.regs, v1]) :: .os (RT.sl RT.bool) v41 x38 :: .pt b76 (.cells 9 [.int .i64 x63.op, .int .i64 x63.d, .int .i64 x63.a, .int .i64 x63.b, .int .i64 x63.imm, v74, .int .i64 x63.what, .bool x63.volatile, .bool x63.final]) :: .os (RT.int .i64) v284 x281 :: Rs)) ?_ ?_
                        · rintro _ _ ⟨u372, u373, u374, u375, V376, rfl, le377, rfl, ow378⟩
                          refine U.p rfl rfl (.inl rfl) (S.pickF rfl ((L 13 rfl rfl).trans (congrArg Value.bool g343)) (L 0 rfl rfl)) ?_
                          have e379 := Option.some.inj h371
                          subst e379
                          exact kk [(97, .bool y369), (96, .bool y369), (95, u372), (94, u373), (93, u374), (92, u375), (91, .bool x358), (90, .bool x358), (89, .pointer (some ⟨b361, o362 + Int.toNat x183 * 1, none⟩)), (88, .int .i64 x183), (87, v356), (86, .pointer (some ⟨b170, o171 + Int.toNat x310 * 1, none⟩)), (85, .int .i64 x310), (84, v41)] _ ⟨.bool y369, u372, u373, u374, u375, .bool x358, .bool x358, .pointer (some ⟨b361, o362 + Int.toNat x183 * 1, none⟩), .int .i64 x183, v356, .pointer (some ⟨b170, o171 + Int.toNat x310 * 1, none⟩), .int .i64 x310, v41, V376, rfl, le377, rfl, ow378⟩
                        · intro kk
                          refine bcase (b := x358) (fun g380 => ?_) (fun g380 => ?_)
                          · have h381 := ifT g380 hy370
                            refine U.k rfl rfl (.inr ⟨_, _, _, rfl, rfl, ((L 0 rfl rfl).trans (congrArg Value.bool g380))⟩) (S.loadB rfl (L 17 rfl rfl) Try.underlying33 rfl ti33 (ow302.own (k := 2) rfl).get rfl) nd ?_
                            have f382 := f228.up (((le234.trans le248).trans le286).trans le301)
                            obtain ⟨x383, hx384, h385⟩ := bindS h381
                            refine O.call (V := V300) rfl rfl (.inr ⟨_, _, _, rfl, rfl, ((L 1 rfl rfl).trans (congrArg Value.bool g380))⟩) rfl en14 (aC (L 0 rfl rfl) aN) (wk_ir_Def V300 _ x63 v74 f382 ow302 _ hx384) (fun _ _ _ _ => nd) (fun v386 V387 le388 hp389 => ?_)
                            obtain ⟨rfl, ow390⟩ := hp389
                            refine U.p rfl rfl (.inr ⟨_, _, _, rfl, rfl, ((L 2 rfl rfl).trans (congrArg Value.bool g380))⟩) (S.move rfl (L 20 rfl rfl)) ?_
                            refine U.p rfl rfl (.inr ⟨_, _, _, rfl, rfl, ((L 3 rfl rfl).trans (congrArg Value.bool g380))⟩) (S.neqI rfl (L 1 rfl rfl) (L 0 rfl rfl)) ?_
                            refine U.p rfl rfl (.inr ⟨_, _, _, rfl, rfl, ((L 12 rfl rfl).trans (congrArg Value.bool g343))⟩) (S.pickT rfl ((L 4 rfl rfl).trans (congrArg Value.bool g380)) (L 0 rfl rfl)) ?_
                            have e391 := Option.some.inj h385
                            subst e391
                            exact kk [(96, .bool (decide (x383 ≠ x183))), (95, .bool (decide (x383 ≠ x183))), (94, .int .i64 x183), (93, .int .i64 x383), (92, .agg #[.int .i64 x63.op, .int .i64 x63.d, .int .i64 x63.a, .int .i64 x63.b, .int .i64 x63.imm, v74, .int .i64 x63.what, .bool x63.volatile, .bool x63.final])] _ ⟨.bool (decide (x383 ≠ x183)), .int .i64 x183, .int .i64 x383, .agg #[.int .i64 x63.op, .int .i64 x63.d, .int .i64 x63.a, .int .i64 x63.b, .int .i64 x63.imm, v74, .int .i64 x63.what, .bool x63.volatile, .bool x63.final], V387, rfl, le388, rfl, ow390⟩
                          · have h392 := ifF g380 hy370
                            refine U.x rfl rfl rfl rfl ((L 0 rfl rfl).trans (congrArg Value.bool g380)) (by decide) ?_
                            refine U.x rfl rfl rfl rfl ((L 1 rfl rfl).trans (congrArg Value.bool g380)) (by decide) ?_
                            refine U.x rfl rfl rfl rfl ((L 2 rfl rfl).trans (congrArg Value.bool g380)) (by decide) ?_
                            refine U.x rfl rfl rfl rfl ((L 3 rfl rfl).trans (congrArg Value.bool g380)) (by decide) ?_
                            refine U.p rfl rfl (.inr ⟨_, _, _, rfl, rfl, ((L 12 rfl rfl).trans (congrArg Value.bool g343))⟩) (S.pickF rfl ((L 4 rfl rfl).trans (congrArg Value.bool g380)) K) ?_
                            have e393 := Option.some.inj h392
                            subst e393
                            exact kk [(96, .bool false), (95, .tuple #[]), (94, .tuple #[]), (93, .tuple #[]), (92, .tuple #[])] _ ⟨.tuple #[], .tuple #[], .tuple #[], .tuple #[], V300, rfl, (.refl _), rfl, ow302⟩
                  · have h394 := ifF c308 h307
                    refine WP.exit ?_
                    refine sqE (sqE (blkE (sqN ?_)))
                    have h395 := exitS h394 e305
                    refine WP.usreg rfl ?_
                    refine U.p rfl rfl (.inl rfl) (S.move rfl (L 6 rfl rfl)) ?_
                    refine U.p rfl rfl (.inl rfl) (S.not rfl (L 0 rfl rfl)) ?_
                    refine U.done (Nat.le_of_ble_eq_true rfl) ?_
                    refine WP.cond _ (L 0 rfl rfl) rfl (fun c396 => ?_) (fun c396 => ?_)
                    · have h397 := ifT c396 h395
                      have k398 : x291 = false := by simpa using c396
                      refine WP.usreg rfl ?_
                      refine U.p rfl rfl (.inl rfl) (S.assign rfl K) ?_
                      refine U.done (Nat.le_of_ble_eq_true rfl) ?_
                      refine WP.ret ?_
                      refine blkR (sqR (sqR (blkR (blkR (sqR (sqR (blkR (sqR ?_))))))))
                      have h399 := exitS h397 e192
                      have h400 := exitS h399 e58
                      refine fin.slot (.inr rfl) rfl (L 0 rfl rfl) ⟨V300, rfl, (((((((((((((le5.trans le13).trans le29).trans le43).trans le54).trans le78).trans le82).trans le90).trans le103).trans le188).trans le234).trans le248).trans le286).trans le301), ?_⟩
                      have ow401 := ow302.drop 0 rfl
                      have ow402 := ow401.drop 0 rfl
                      have ow403 := ow402.drop 0 rfl
                      have ow404 := ow403.drop 0 rfl
                      have e405 := Option.some.inj h400
                      subst e405
                      exact ⟨rfl, ow404⟩
                    · have h406 := ifF c396 h395
                      have k407 : x291 = true := by simpa using c396
                      refine WP.skip ?_
                      refine blkN (sqN ?_)
                      have ow408 := ow302.drop 3 rfl
                      exact ⟨_, V300, rfl, ⟨rfl, (((le234.trans le248).trans le286).trans le301), ow408, h406⟩, (allCons (L 3 rfl rfl) (allCons (L 4 rfl rfl) (allCons (L 5 rfl rfl) (allCons (L 6 rfl rfl) (allCons (L 9 rfl rfl) (allCons (L 10 rfl rfl) (allCons (L 11 rfl rfl) (allCons (L 12 rfl rfl) (allCons (L 13 rfl rfl) allNil)))))))))⟩
          · have h409 := ifF c195 h194
            refine WP.exit ?_
            refine sqE (sqE (blkE (blkN (sqN ?_))))
            have h410 := exitS h409 e192
            refine WP.ureg rfl ?_
            refine U.p rfl rfl (.inl rfl) (S.add rfl (L 7 rfl rfl) K) ?_
            refine U.p rfl rfl (.inl rfl) (S.move rfl (L 0 rfl rfl)) ?_
            refine U.done (Nat.le_of_ble_eq_true rfl) ?_
            refine sqN ?_
            have ow411 := ow189.drop 2 rfl
            exact ⟨_, V187, rfl, ⟨m56, Nat.lt_succ_self _, w64 (x48 + 1), rfl, (((((le54.trans le78).trans le82).trans le90).trans le103).trans le188), ow411, backS h410 e58⟩, (allCons (L 3 rfl rfl) (allCons (L 4 rfl rfl) (allCons (L 7 rfl rfl) (allCons (L 8 rfl rfl) (allCons (L 0 rfl rfl) allNil)))))⟩
      · have h412 := ifF c61 h60
        refine WP.exit ?_
        refine sqE (sqE (blkE (sqN ?_)))
        have h413 := exitS h412 e58
        refine WP.usreg rfl ?_
        refine U.p rfl rfl (.inl rfl) (S.assign rfl K) ?_
        refine U.done (Nat.le_of_ble_eq_true rfl) ?_
        refine WP.ret ?_
        refine fin.slot (.inr rfl) rfl (L 0 rfl rfl) ⟨V53, rfl, ((((le5.trans le13).trans le29).trans le43).trans le54), ?_⟩
        have ow414 := ow55.drop 0 rfl
        have ow415 := ow414.drop 0 rfl
        have e416 := Option.some.inj h413
        subst e416
        exact ⟨rfl, ow415⟩

set_option maxHeartbeats 4000000 in
theorem wk_flow_Reached (V : Vw) (Rs : List At) (p0 : TFunc) (v1 : Value) (f2 : Fz RT_TIns V v1 p0.code) (ow : Ow V (Rs)) (r : List Bool) (h : flow_Reached p0 = some r) : ∃ v V', Cl Try.prog 0 15 #[.agg #[.string p0.name, .int .i64 p0.params, .int .i64 p0.regs, v1]] V.H v V'.H ∧ V.le V' ∧ (∃ (v3 : Value), v = v3 ∧ Ow V' (.os RT.bool v3 r :: Rs)) := by
  refine Ct.of (Nat.zero_le _) Try.func15 rfl (Nat.le_of_ble_eq_true rfl) ?_
  unfold flow_Reached at h
  refine WP.usreg rfl ?_
  refine O.box ow rfl rfl (.inl rfl) rfl (L 0 rfl rfl) (by simp [topV]) rfl nd (fun b5 V6 le7 ow8 => ?_)
  refine U.p rfl rfl (.inl rfl) (S.assign rfl K) ?_
  refine U.done (Nat.le_of_ble_eq_true rfl) ?_
  refine WP.usreg rfl ?_
  refine U.p (v := .pointer (some ⟨b5, 3, none⟩)) rfl rfl (.inl rfl) (S.fieldAddr rfl (L 1 rfl rfl) Try.underlying24 rfl ti22 rfl rfl) ?_
  refine U.k rfl rfl (.inl rfl) (S.load rfl (L 0 rfl rfl) Try.underlying22 rfl ((ow8.own (k := 0) rfl).cell rfl)) nd ?_
  refine U.p rfl rfl (.inl rfl) (f2.1.len rfl (L 0 rfl rfl) Try.underlying22) ?_
  obtain ⟨xs10, hx11, h12⟩ := bindS h
  refine O.make (R := RT.bool) ow8 rfl rfl (.inl rfl) rfl (L 0 rfl rfl) (L 0 rfl rfl) Try.underlying29 ti4 rfl rfl rfl (Nat.le_of_ble_eq_true rfl) rfl hx11 (fun _ => nd) (fun v13 V14 le15 ow16 => ?_)
  refine U.p rfl rfl (.inl rfl) (S.assign rfl (L 0 rfl rfl)) ?_
  refine U.done (Nat.le_of_ble_eq_true rfl) ?_
  refine WP.usreg rfl ?_
  refine O.lit (R := (RT.int .i64)) ow16 rfl rfl (.inl rfl) rfl Try.underlying31 ti3 rfl rfl rfl (Nat.le_of_ble_eq_true rfl) rfl (aC K aN) (.cons _ _ 0 _ (by simp [topV]) rfl .nil) (fun _ => nd) (fun v18 V19 le20 ow21 => ?_)
  refine U.p rfl rfl (.inl rfl) (S.assign rfl (L 0 rfl rfl)) ?_
  refine U.done (Nat.le_of_ble_eq_true rfl) ?_
  refine WP.seq ?_
  refine WP.blk ?_
  have ow27 := ow21.pick 0 rfl
  have ow28 := ow27.pick 1 rfl
  have ow29 := ow28.pick 2 rfl
  unfold flow_Reached_l1 at h12
  obtain ⟨n31, hn30⟩ := loopO_some.1 h12
  refine WP.loopI2 (fun n l V' => ∃ (xs23 : List Bool) (v25 : Value) (xs26 : List Int), l = [(1, .pointer (some ⟨b5, 0, none⟩)), (3, v13), (4, v25)] ∧ V19.le V' ∧ Ow V' (.pt b5 (.cells 0 [.string p0.name, .int .i64 p0.params, .int .i64 p0.regs, v1]) :: .os RT.bool v13 xs23 :: .os (RT.int .i64) v25 xs26 :: Rs) ∧ itO (fun s => flow_Reached_l1b p0 s.1 s.2) n (xs23, xs26) = some r) n31 _ ⟨xs10, v18, [0], rfl, .refl _, ow29, hn30⟩ (allCons (L 8 rfl rfl) (allCons (L 2 rfl rfl) (allCons (L 0 rfl rfl) allNil))) ?_
  rintro _ _ V32 ⟨xs23, v25, xs26, rfl, le33, ow34, h38⟩
  obtain ⟨m35, q36, rfl, h39, e37⟩ := itS h38
  replace h39 : flow_Reached_l1b p0 xs23 xs26 = some q36 := h39
  unfold flow_Reached_l1b at h39
  refine WP.seq ?_
  refine WP.usreg rfl ?_
  refine U.p rfl rfl (.inl rfl) (S.move rfl (L 2 rfl rfl)) ?_
  refine U.p rfl rfl (.inl rfl) (ow34.oslen (k := 2) rfl rfl (L 0 rfl rfl) Try.underlying31) ?_
  refine U.p rfl rfl (.inl rfl) (S.gtr rfl (L 0 rfl rfl) K) ?_
  refine U.done (Nat.le_of_ble_eq_true rfl) ?_
  refine WP.cond _ (L 0 rfl rfl) rfl (fun c40 => ?_) (fun c40 => ?_)
  · have h41 := ifT c40 h39
    refine WP.skip ?_
    refine sqN ?_
    refine WP.seqI (fun l V' => ∃ (xs42 : List Bool) (v44 : Value) (xs45 : List Int), l = [(1, .pointer (some ⟨b5, 0, none⟩)), (3, v13), (4, v44)] ∧ V32.le V' ∧ Ow V' (.pt b5 (.cells 0 [.string p0.name, .int .i64 p0.params, .int .i64 p0.regs, v1]) :: .os RT.bool v13 xs42 :: .os (RT.int .i64) v44 xs45 :: Rs) ∧ flow_Reached_k1 xs42 xs45 = some q36) ?_ ?_
    · rintro _ V46 ⟨xs42, v44, xs45, rfl, le47, ow48, h49⟩
      unfold flow_Reached_k1 at h49
      refine WP.ureg rfl ?_
      refine U.p rfl rfl (.inl rfl) (S.move rfl (L 2 rfl rfl)) ?_
      obtain ⟨xs50, hx51, h52⟩ := bindS h49
      refine O.subO (k := 2) ow48 rfl hx51 rfl rfl (.inl rfl) rfl (L 0 rfl rfl) Try.underlying31 ti3 ⟨.inr ⟨_, _, rfl, K⟩, .inl ⟨rfl, rfl⟩, .inl rfl⟩ (fun v53 ow56 => ?_)
      refine U.p rfl rfl (.inl rfl) (S.assign rfl (L 0 rfl rfl)) ?_
      refine U.done (Nat.le_of_ble_eq_true rfl) ?_
      refine sqN ?_
      exact ⟨_, V46, rfl, ⟨m35, Nat.lt_succ_self _, xs42, v53, xs50, rfl, (le33.trans le47), ow56, backS h52 e37⟩, (allCons (L 3 rfl rfl) (allCons (L 4 rfl rfl) (allCons (L 0 rfl rfl) allNil)))⟩
    · skip
      refine WP.blk ?_
      refine WP.usreg rfl ?_
      refine U.p rfl rfl (.inl rfl) (S.move rfl (L 5 rfl rfl)) ?_
      obtain ⟨x58, hx59, h60⟩ := bindS h41
      obtain ⟨b61, o62, n63, c64, hv65⟩ := ow34.ospt (k := 2) rfl hx59
      obtain ⟨_, hv66, _⟩ := ow34.osel (k := 2) rfl hv65 hx59
      refine U.p rfl rfl (.inl rfl) (S.index rfl ((L 0 rfl rfl).trans hv66) K Try.underlying31 ti3 (ix_ge hx59) (ix_lt hx59)) ?_
      obtain ⟨cs67, hv68, hlt69, hr70, hc71⟩ := ow34.osel (k := 2) rfl hv65 hx59
      obtain rfl : cs67 = [.int .i64 x58] := hr70
      refine U.k rfl rfl (.inl rfl) (S.load rfl (L 0 rfl rfl) Try.underlying3 rfl (hc71 0 _ rfl)) nd ?_
      refine U.p rfl rfl (.inl rfl) (S.assign rfl (L 0 rfl rfl)) ?_
      refine U.done (Nat.le_of_ble_eq_true rfl) ?_
      refine WP.usreg rfl ?_
      refine U.p rfl rfl (.inl rfl) (S.move rfl (L 0 rfl rfl)) ?_
      refine U.p rfl rfl (.inl rfl) (S.move rfl (L 9 rfl rfl)) ?_
      refine U.p rfl rfl (.inl rfl) (ow34.oslen (k := 1) rfl rfl (L 0 rfl rfl) Try.underlying29) ?_
      refine U.p rfl rfl (.inl rfl) (S.lss rfl (L 2 rfl rfl) (L 0 rfl rfl)) ?_
      refine U.p rfl rfl (.inl rfl) (S.move rfl (L 0 rfl rfl)) ?_
      obtain ⟨y72, hy73, h74⟩ := bindS h60
      refine U.joinX 11 (fun e H => ∃ (u75 u76 u77 u78 u79 : Value), H = V32.H ∧ e = [(29, .bool y72), (28, u75), (27, u76), (26, u77), (25, u78), (24, u79)]) ?_ ?_
      · rintro _ _ ⟨u75, u76, u77, u78, u79, rfl, rfl⟩
        refine U.done (Nat.le_of_ble_eq_true rfl) ?_
        refine WP.cond _ (L 0 rfl rfl) rfl (fun c83 => ?_) (fun c83 => ?_)
        · have h84 := ifT c83 h74
          refine WP.usreg rfl ?_
          refine U.p rfl rfl (.inl rfl) (S.move rfl (L 19 rfl rfl)) ?_
          refine U.p rfl rfl (.inl rfl) (S.move rfl (L 12 rfl rfl)) ?_
          obtain ⟨x85, hx86, h87⟩ := bindS h84
          obtain ⟨b88, o89, n90, c91, hv92⟩ := ow34.ospt (k := 1) rfl hx86
          obtain ⟨_, hv93, _⟩ := ow34.osel (k := 1) rfl hv92 hx86
          refine U.p rfl rfl (.inl rfl) (S.index rfl ((L 1 rfl rfl).trans hv93) (L 0 rfl rfl) Try.underlying29 ti4 (ix_ge hx86) (ix_lt hx86)) ?_
          obtain ⟨cs94, hv95, hlt96, hr97, hc98⟩ := ow34.osel (k := 1) rfl hv92 hx86
          obtain rfl : cs94 = [.bool x85] := hr97
          refine O.storeE (k := 1) (R := RT.bool) (j := 0) (y := true) (cs := [.bool true]) ow34 rfl hv95 rfl rfl (.inl rfl) rfl (L 0 rfl rfl) K ti4 hx86 (by simp [topV]) rfl rfl rfl (full rfl) (fun _ _ => nd) (fun V99 le100 ow101 => ?_)
          refine U.done (Nat.le_of_ble_eq_true rfl) ?_
          refine WP.ureg rfl ?_
          refine U.p rfl rfl (.inl rfl) (S.move rfl (L 23 rfl rfl)) ?_
          refine U.k rfl rfl (.inl rfl) (S.loadB rfl (L 22 rfl rfl) Try.underlying24 rfl ti24 (ow101.own (k := 0) rfl).get rfl) nd ?_
          refine U.p rfl rfl (.inl rfl) (S.move rfl (L 16 rfl rfl)) ?_
          have f102 := f2.up ((((le7.trans le15).trans le20).trans le33).trans le100)
          obtain ⟨x103, hx104, h105⟩ := bindS h87
          refine O.call (V := V99) rfl rfl (.inl rfl) rfl en13 (aC (L 1 rfl rfl) (aC (L 0 rfl rfl) aN)) (wk_flow_Next V99 _ p0 x58 v1 f102 ow101 _ hx104) (fun _ _ _ _ => nd) (fun v106 V107 le108 hp109 => ?_)
          obtain ⟨_, rfl, ow110⟩ := hp109
          obtain ⟨xs113, hx114, h115⟩ := bindS h105
          refine O.append (k := 3) ow110 rfl rfl rfl (.inl rfl) rfl (L 3 rfl rfl) (L 0 rfl rfl) Try.underlying31 ti3 rfl rfl (Nat.le_of_ble_eq_true rfl) (ow110.src (k := 0) rfl Try.underlying31) hx114 (fun _ _ => nd) (fun v116 V117 le118 ow119 => ?_)
          refine U.p rfl rfl (.inl rfl) (S.assign rfl (L 0 rfl rfl)) ?_
          refine U.done (Nat.le_of_ble_eq_true rfl) ?_
          refine blkN (sqN ?_)
          have ow121 := ow119.drop 0 rfl
          exact ⟨_, V117, rfl, ⟨xs23.set (Int.toNat x58) true, v116, xs113, rfl, ((le100.trans le108).trans le118), ow121, h115⟩, (allCons (L 27 rfl rfl) (allCons (L 28 rfl rfl) (allCons (L 0 rfl rfl) allNil)))⟩
        · have h122 := ifF c83 h74
          refine WP.skip ?_
          refine blkN (sqN ?_)
          exact ⟨_, V32, rfl, ⟨xs23, v25, xs26, rfl, (.refl _), ow34, h122⟩, (allCons (L 18 rfl rfl) (allCons (L 19 rfl rfl) (allCons (L 20 rfl rfl) allNil)))⟩
      · intro kk
        refine bcase (b := decide (x58 < (xs23.length : Int))) (fun g123 => ?_) (fun g123 => ?_)
        · have h124 := ifT g123 hy73
          refine U.p rfl rfl (.inr ⟨_, _, _, rfl, rfl, ((L 0 rfl rfl).trans (congrArg Value.bool g123))⟩) (S.move rfl (L 13 rfl rfl)) ?_
          refine U.p rfl rfl (.inr ⟨_, _, _, rfl, rfl, ((L 1 rfl rfl).trans (congrArg Value.bool g123))⟩) (S.move rfl (L 6 rfl rfl)) ?_
          obtain ⟨x125, hx126, h127⟩ := bindS h124
          obtain ⟨b128, o129, n130, c131, hv132⟩ := ow34.ospt (k := 1) rfl hx126
          obtain ⟨_, hv133, _⟩ := ow34.osel (k := 1) rfl hv132 hx126
          refine U.p rfl rfl (.inr ⟨_, _, _, rfl, rfl, ((L 2 rfl rfl).trans (congrArg Value.bool g123))⟩) (S.index rfl ((L 1 rfl rfl).trans hv133) (L 0 rfl rfl) Try.underlying29 ti4 (ix_ge hx126) (ix_lt hx126)) ?_
          obtain ⟨cs134, hv135, hlt136, hr137, hc138⟩ := ow34.osel (k := 1) rfl hv132 hx126
          obtain rfl : cs134 = [.bool x125] := hr137
          refine U.k rfl rfl (.inr ⟨_, _, _, rfl, rfl, ((L 3 rfl rfl).trans (congrArg Value.bool g123))⟩) (S.load rfl (L 0 rfl rfl) Try.underlying4 rfl (hc138 0 _ rfl)) nd ?_
          refine U.p rfl rfl (.inr ⟨_, _, _, rfl, rfl, ((L 4 rfl rfl).trans (congrArg Value.bool g123))⟩) (S.not rfl (L 0 rfl rfl)) ?_
          refine U.p rfl rfl (.inl rfl) (S.pickT rfl ((L 5 rfl rfl).trans (congrArg Value.bool g123)) (L 0 rfl rfl)) ?_
          have e139 := Option.some.inj h127
          subst e139
          exact kk [(29, .bool (!x125)), (28, .bool (!x125)), (27, .bool x125), (26, .pointer (some ⟨b128, o129 + Int.toNat x58 * 1, none⟩)), (25, .int .i64 x58), (24, v13)] _ ⟨.bool (!x125), .bool x125, .pointer (some ⟨b128, o129 + Int.toNat x58 * 1, none⟩), .int .i64 x58, v13, rfl, rfl⟩
        · have h140 := ifF g123 hy73
          refine U.x rfl rfl rfl rfl ((L 0 rfl rfl).trans (congrArg Value.bool g123)) (by decide) ?_
          refine U.x rfl rfl rfl rfl ((L 1 rfl rfl).trans (congrArg Value.bool g123)) (by decide) ?_
          refine U.x rfl rfl rfl rfl ((L 2 rfl rfl).trans (congrArg Value.bool g123)) (by decide) ?_
          refine U.x rfl rfl rfl rfl ((L 3 rfl rfl).trans (congrArg Value.bool g123)) (by decide) ?_
          refine U.x rfl rfl rfl rfl ((L 4 rfl rfl).trans (congrArg Value.bool g123)) (by decide) ?_
          refine U.p rfl rfl (.inl rfl) (S.pickF rfl ((L 5 rfl rfl).trans (congrArg Value.bool g123)) K) ?_
          have e141 := Option.some.inj h140
          subst e141
          exact kk [(29, .bool false), (28, .tuple #[]), (27, .tuple #[]), (26, .tuple #[]), (25, .tuple #[]), (24, .tuple #[])] _ ⟨.tuple #[], .tuple #[], .tuple #[], .tuple #[], .tuple #[], rfl, rfl⟩
  · have h142 := ifF c40 h39
    refine WP.exit ?_
    refine sqE (sqE (blkE (sqN ?_)))
    have h143 := exitS h142 e37
    refine WP.usreg rfl ?_
    refine U.p rfl rfl (.inl rfl) (S.move rfl (L 4 rfl rfl)) ?_
    refine U.p rfl rfl (.inl rfl) (S.assign rfl (L 0 rfl rfl)) ?_
    refine U.done (Nat.le_of_ble_eq_true rfl) ?_
    refine WP.ret ?_
    refine fin.slot (.inr rfl) rfl (L 0 rfl rfl) ⟨V32, rfl, (((le7.trans le15).trans le20).trans le33), ?_⟩
    have ow144 := ow34.drop 0 rfl
    have ow145 := ow144.drop 1 rfl
    have e146 := Option.some.inj h143
    subst e146
    exact ⟨v13, rfl, ow145⟩

set_option maxHeartbeats 4000000 in
theorem wk_ref10_Reached (V : Vw) (Rs : List At) (p0 : TFunc) (p1 : Int) (v1 : Value) (f2 : Fz RT_TIns V v1 p0.code) (ow : Ow V (Rs)) (r : Bool) (h : ref10_Reached p0 p1 = some r) : ∃ v V', Cl Try.prog 0 17 #[.agg #[.string p0.name, .int .i64 p0.params, .int .i64 p0.regs, v1], .int .i64 p1] V.H v V'.H ∧ V.le V' ∧ (v = .bool r ∧ Ow V' (Rs)) := by
  refine Ct.of (Nat.zero_le _) Try.func17 rfl (Nat.le_of_ble_eq_true rfl) ?_
  unfold ref10_Reached at h
  refine WP.usreg rfl ?_
  refine O.box ow rfl rfl (.inl rfl) rfl (L 0 rfl rfl) (by simp [topV]) rfl nd (fun b3 V4 le5 ow6 => ?_)
  refine U.p rfl rfl (.inl rfl) (S.assign rfl K) ?_
  refine U.done (Nat.le_of_ble_eq_true rfl) ?_
  refine WP.usreg rfl ?_
  refine U.p (v := .pointer (some ⟨b3, 3, none⟩)) rfl rfl (.inl rfl) (S.fieldAddr rfl (L 1 rfl rfl) Try.underlying24 rfl ti22 rfl rfl) ?_
  refine U.k rfl rfl (.inl rfl) (S.load rfl (L 0 rfl rfl) Try.underlying22 rfl ((ow6.own (k := 0) rfl).cell rfl)) nd ?_
  refine U.p rfl rfl (.inl rfl) (f2.1.len rfl (L 0 rfl rfl) Try.underlying22) ?_
  obtain ⟨xs8, hx9, h10⟩ := bindS h
  refine O.make (R := RT.bool) ow6 rfl rfl (.inl rfl) rfl (L 0 rfl rfl) (L 0 rfl rfl) Try.underlying29 ti4 rfl rfl rfl (Nat.le_of_ble_eq_true rfl) rfl hx9 (fun _ => nd) (fun v11 V12 le13 ow14 => ?_)
  refine U.p rfl rfl (.inl rfl) (S.assign rfl (L 0 rfl rfl)) ?_
  refine U.done (Nat.le_of_ble_eq_true rfl) ?_
  refine WP.usreg rfl ?_
  refine O.lit (R := (RT.int .i64)) ow14 rfl rfl (.inl rfl) rfl Try.underlying31 ti3 rfl rfl rfl (Nat.le_of_ble_eq_true rfl) rfl (aC K aN) (.cons _ _ 0 _ (by simp [topV]) rfl .nil) (fun _ => nd) (fun v16 V17 le18 ow19 => ?_)
  refine U.p rfl rfl (.inl rfl) (S.assign rfl (L 0 rfl rfl)) ?_
  refine U.done (Nat.le_of_ble_eq_true rfl) ?_
  refine WP.seq ?_
  refine WP.blk ?_
  have ow25 := ow19.pick 0 rfl
  have ow26 := ow25.pick 1 rfl
  have ow27 := ow26.pick 2 rfl
  unfold ref10_Reached_l1 at h10
  obtain ⟨n29, hn28⟩ := loopO_some.1 h10
  refine WP.loopI2 (fun n l V' => ∃ (xs21 : List Bool) (v23 : Value) (xs24 : List Int), l = [(1, .int .i64 p1), (2, .pointer (some ⟨b3, 0, none⟩)), (5, v11), (6, v23)] ∧ V17.le V' ∧ Ow V' (.pt b3 (.cells 0 [.string p0.name, .int .i64 p0.params, .int .i64 p0.regs, v1]) :: .os RT.bool v11 xs21 :: .os (RT.int .i64) v23 xs24 :: Rs) ∧ itO (fun s => ref10_Reached_l1b p0 p1 s.1 s.2) n (xs21, xs24) = some r) n29 _ ⟨xs8, v16, [0], rfl, .refl _, ow27, hn28⟩ (allCons (L 10 rfl rfl) (allCons (L 8 rfl rfl) (allCons (L 2 rfl rfl) (allCons (L 0 rfl rfl) allNil)))) ?_
  rintro _ _ V30 ⟨xs21, v23, xs24, rfl, le31, ow32, h36⟩
  obtain ⟨m33, q34, rfl, h37, e35⟩ := itS h36
  replace h37 : ref10_Reached_l1b p0 p1 xs21 xs24 = some q34 := h37
  unfold ref10_Reached_l1b at h37
  refine WP.seq ?_
  refine WP.usreg rfl ?_
  refine U.p rfl rfl (.inl rfl) (S.move rfl (L 3 rfl rfl)) ?_
  refine U.p rfl rfl (.inl rfl) (ow32.oslen (k := 2) rfl rfl (L 0 rfl rfl) Try.underlying31) ?_
  refine U.p rfl rfl (.inl rfl) (S.gtr rfl (L 0 rfl rfl) K) ?_
  refine U.done (Nat.le_of_ble_eq_true rfl) ?_
  refine WP.cond _ (L 0 rfl rfl) rfl (fun c38 => ?_) (fun c38 => ?_)
  · have h39 := ifT c38 h37
    refine WP.skip ?_
    refine sqN ?_
    refine WP.blk ?_
    refine WP.usreg rfl ?_
    refine U.p rfl rfl (.inl rfl) (S.move rfl (L 6 rfl rfl)) ?_
    obtain ⟨x40, hx41, h42⟩ := bindS h39
    obtain ⟨b43, o44, n45, c46, hv47⟩ := ow32.ospt (k := 2) rfl hx41
    obtain ⟨_, hv48, _⟩ := ow32.osel (k := 2) rfl hv47 hx41
    refine U.p rfl rfl (.inl rfl) (S.index rfl ((L 0 rfl rfl).trans hv48) K Try.underlying31 ti3 (ix_ge hx41) (ix_lt hx41)) ?_
    obtain ⟨cs49, hv50, hlt51, hr52, hc53⟩ := ow32.osel (k := 2) rfl hv47 hx41
    obtain rfl : cs49 = [.int .i64 x40] := hr52
    refine U.k rfl rfl (.inl rfl) (S.load rfl (L 0 rfl rfl) Try.underlying3 rfl (hc53 0 _ rfl)) nd ?_
    refine U.p rfl rfl (.inl rfl) (S.assign rfl (L 0 rfl rfl)) ?_
    refine U.done (Nat.le_of_ble_eq_true rfl) ?_
    refine WP.usreg rfl ?_
    refine U.p rfl rfl (.inl rfl) (S.move rfl (L 10 rfl rfl)) ?_
    obtain ⟨xs54, hx55, h56⟩ := bindS h42
    refine O.subO (k := 2) ow32 rfl hx55 rfl rfl (.inl rfl) rfl (L 0 rfl rfl) Try.underlying31 ti3 ⟨.inr ⟨_, _, rfl, K⟩, .inl ⟨rfl, rfl⟩, .inl rfl⟩ (fun v57 ow60 => ?_)
    refine U.p rfl rfl (.inl rfl) (S.assign rfl (L 0 rfl rfl)) ?_
    refine U.done (Nat.le_of_ble_eq_true rfl) ?_
    refine WP.seq ?_
    refine WP.usreg rfl ?_
    refine U.p rfl rfl (.inl rfl) (S.move rfl (L 3 rfl rfl)) ?_
    refine U.p rfl rfl (.inl rfl) (S.move rfl (L 11 rfl rfl)) ?_
    refine U.p rfl rfl (.inl rfl) (S.eqlI rfl (L 1 rfl rfl) (L 0 rfl rfl)) ?_
    refine U.done (Nat.le_of_ble_eq_true rfl) ?_
    refine WP.cond _ (L 0 rfl rfl) rfl (fun c62 => ?_) (fun c62 => ?_)
    · have h63 := ifT c62 h56
      refine WP.usreg rfl ?_
      refine U.p rfl rfl (.inl rfl) (S.assign rfl K) ?_
      refine U.done (Nat.le_of_ble_eq_true rfl) ?_
      refine WP.ret ?_
      refine sqR (blkR (sqR (blkR (sqR ?_))))
      have h64 := exitS h63 e35
      refine fin.slot (.inr rfl) rfl (L 0 rfl rfl) ⟨V30, rfl, (((le5.trans le13).trans le18).trans le31), ?_⟩
      have ow65 := ow60.drop 0 rfl
      have ow66 := ow65.drop 0 rfl
      have ow67 := ow66.drop 0 rfl
      have e68 := Option.some.inj h64
      subst e68
      exact ⟨rfl, ow67⟩
    · have h69 := ifF c62 h56
      refine WP.skip ?_
      refine sqN ?_
      refine WP.usreg rfl ?_
      refine U.p rfl rfl (.inl rfl) (S.move rfl (L 15 rfl rfl)) ?_
      refine U.p rfl rfl (.inl rfl) (S.move rfl (L 7 rfl rfl)) ?_
      obtain ⟨x70, hx71, h72⟩ := bindS h69
      obtain ⟨b73, o74, n75, c76, hv77⟩ := ow60.ospt (k := 1) rfl hx71
      obtain ⟨_, hv78, _⟩ := ow60.osel (k := 1) rfl hv77 hx71
      refine U.p rfl rfl (.inl rfl) (S.index rfl ((L 1 rfl rfl).trans hv78) (L 0 rfl rfl) Try.underlying29 ti4 (ix_ge hx71) (ix_lt hx71)) ?_
      obtain ⟨cs79, hv80, hlt81, hr82, hc83⟩ := ow60.osel (k := 1) rfl hv77 hx71
      obtain rfl : cs79 = [.bool x70] := hr82
      refine U.k rfl rfl (.inl rfl) (S.load rfl (L 0 rfl rfl) Try.underlying4 rfl (hc83 0 _ rfl)) nd ?_
      refine U.p rfl rfl (.inl rfl) (S.not rfl (L 0 rfl rfl)) ?_
      refine U.done (Nat.le_of_ble_eq_true rfl) ?_
      refine WP.cond _ (L 0 rfl rfl) rfl (fun c84 => ?_) (fun c84 => ?_)
      · have h85 := ifT c84 h72
        have k86 : x70 = false := by simpa using c84
        refine WP.usreg rfl ?_
        refine U.p rfl rfl (.inl rfl) (S.move rfl (L 20 rfl rfl)) ?_
        refine U.p rfl rfl (.inl rfl) (S.move rfl (L 12 rfl rfl)) ?_
        obtain ⟨x87, hx88, h89⟩ := bindS h85
        obtain ⟨_, hv90, _⟩ := ow60.osel (k := 1) rfl hv77 hx88
        refine U.p rfl rfl (.inl rfl) (S.index rfl ((L 1 rfl rfl).trans hv90) (L 0 rfl rfl) Try.underlying29 ti4 (ix_ge hx88) (ix_lt hx88)) ?_
        obtain ⟨cs91, hv92, hlt93, hr94, hc95⟩ := ow60.osel (k := 1) rfl hv77 hx88
        obtain rfl : cs91 = [.bool x87] := hr94
        refine O.storeE (k := 1) (R := RT.bool) (j := 0) (y := true) (cs := [.bool true]) ow60 rfl hv92 rfl rfl (.inl rfl) rfl (L 0 rfl rfl) K ti4 hx88 (by simp [topV]) rfl rfl rfl (full rfl) (fun _ _ => nd) (fun V96 le97 ow98 => ?_)
        refine U.done (Nat.le_of_ble_eq_true rfl) ?_
        refine WP.ureg rfl ?_
        refine U.p rfl rfl (.inl rfl) (S.move rfl (L 11 rfl rfl)) ?_
        refine U.k rfl rfl (.inl rfl) (S.loadB rfl (L 23 rfl rfl) Try.underlying24 rfl ti24 (ow98.own (k := 0) rfl).get rfl) nd ?_
        refine U.p rfl rfl (.inl rfl) (S.move rfl (L 16 rfl rfl)) ?_
        have f99 := f2.up ((((le5.trans le13).trans le18).trans le31).trans le97)
        obtain ⟨x100, hx101, h102⟩ := bindS h89
        refine O.call (V := V96) rfl rfl (.inl rfl) rfl en16 (aC (L 1 rfl rfl) (aC (L 0 rfl rfl) aN)) (wk_ref10_Next V96 _ p0 x40 v1 f99 ow98 _ hx101) (fun _ _ _ _ => nd) (fun v103 V104 le105 hp106 => ?_)
        obtain ⟨_, rfl, ow107⟩ := hp106
        obtain ⟨xs110, hx111, h112⟩ := bindS h102
        refine O.append (k := 3) ow107 rfl rfl rfl (.inl rfl) rfl (L 3 rfl rfl) (L 0 rfl rfl) Try.underlying31 ti3 rfl rfl (Nat.le_of_ble_eq_true rfl) (ow107.src (k := 0) rfl Try.underlying31) hx111 (fun _ _ => nd) (fun v113 V114 le115 ow116 => ?_)
        refine U.p rfl rfl (.inl rfl) (S.assign rfl (L 0 rfl rfl)) ?_
        refine U.done (Nat.le_of_ble_eq_true rfl) ?_
        refine blkN (sqN ?_)
        have ow118 := ow116.drop 0 rfl
        exact ⟨_, V114, rfl, ⟨m33, Nat.lt_succ_self _, xs21.set (Int.toNat x40) true, v113, xs110, rfl, (((le31.trans le97).trans le105).trans le115), ow118, backS h112 e35⟩, (allCons (L 27 rfl rfl) (allCons (L 28 rfl rfl) (allCons (L 29 rfl rfl) (allCons (L 0 rfl rfl) allNil))))⟩
      · have h119 := ifF c84 h72
        have k120 : x70 = true := by simpa using c84
        refine WP.skip ?_
        refine blkN (sqN ?_)
        exact ⟨_, V30, rfl, ⟨m33, Nat.lt_succ_self _, xs21, v57, xs54, rfl, le31, ow60, backS h119 e35⟩, (allCons (L 18 rfl rfl) (allCons (L 19 rfl rfl) (allCons (L 20 rfl rfl) (allCons (L 8 rfl rfl) allNil))))⟩
  · have h121 := ifF c38 h37
    refine WP.exit ?_
    refine sqE (sqE (blkE (sqN ?_)))
    have h122 := exitS h121 e35
    refine WP.usreg rfl ?_
    refine U.p rfl rfl (.inl rfl) (S.assign rfl K) ?_
    refine U.done (Nat.le_of_ble_eq_true rfl) ?_
    refine WP.ret ?_
    refine fin.slot (.inr rfl) rfl (L 0 rfl rfl) ⟨V30, rfl, (((le5.trans le13).trans le18).trans le31), ?_⟩
    have ow123 := ow32.drop 0 rfl
    have ow124 := ow123.drop 0 rfl
    have ow125 := ow124.drop 0 rfl
    have e126 := Option.some.inj h122
    subst e126
    exact ⟨rfl, ow125⟩

set_option maxHeartbeats 4000000 in
theorem wk_law10_FlowNext (V : Vw) (Rs : List At) (p0 : TFunc) (p1 : Int) (v1 : Value) (f2 : Fz RT_TIns V v1 p0.code) (ow : Ow V (Rs)) (r : Bool) (h : law10_FlowNext p0 p1 = some r) : ∃ v V', Cl Try.prog 0 5 #[.agg #[.string p0.name, .int .i64 p0.params, .int .i64 p0.regs, v1], .int .i64 p1] V.H v V'.H ∧ V.le V' ∧ (v = .bool r ∧ Ow V' (Rs)) := by
  refine Ct.of (Nat.zero_le _) Try.func5 rfl (Nat.le_of_ble_eq_true rfl) ?_
  unfold law10_FlowNext at h
  refine WP.usreg rfl ?_
  refine O.box ow rfl rfl (.inl rfl) rfl (L 0 rfl rfl) (by simp [topV]) rfl nd (fun b3 V4 le5 ow6 => ?_)
  refine U.p rfl rfl (.inl rfl) (S.assign rfl K) ?_
  refine U.done (Nat.le_of_ble_eq_true rfl) ?_
  refine WP.seq ?_
  refine WP.usreg rfl ?_
  obtain ⟨x8, hx9, h10⟩ := bindS h
  refine O.call (V := V4) rfl rfl (.inl rfl) rfl en8 aN (wk_law10_alive V4 _ ow6 _ hx9) (fun _ _ _ _ => nd) (fun v11 V12 le13 hp14 => ?_)
  obtain ⟨rfl, ow15⟩ := hp14
  refine U.p rfl rfl (.inl rfl) (S.not rfl (L 0 rfl rfl)) ?_
  refine U.done (Nat.le_of_ble_eq_true rfl) ?_
  refine WP.cond _ (L 0 rfl rfl) rfl (fun c16 => ?_) (fun c16 => ?_)
  · have h17 := ifT c16 h10
    have k18 : x8 = false := by simpa using c16
    refine WP.usreg rfl ?_
    refine U.p rfl rfl (.inl rfl) (S.assign rfl K) ?_
    refine U.done (Nat.le_of_ble_eq_true rfl) ?_
    refine WP.ret ?_
    refine sqR ?_
    refine fin.slot (.inr rfl) rfl (L 0 rfl rfl) ⟨V12, rfl, (le5.trans le13), ?_⟩
    have ow19 := ow15.drop 0 rfl
    have e20 := Option.some.inj h17
    subst e20
    exact ⟨rfl, ow19⟩
  · have h21 := ifF c16 h10
    have k22 : x8 = true := by simpa using c16
    refine WP.skip ?_
    refine sqN ?_
    refine WP.seq ?_
    refine WP.usreg rfl ?_
    refine U.k rfl rfl (.inl rfl) (S.loadB rfl (L 3 rfl rfl) Try.underlying24 rfl ti24 (ow15.own (k := 0) rfl).get rfl) nd ?_
    have f23 := f2.up (le5.trans le13)
    obtain ⟨x24, hx25, h26⟩ := bindS h21
    refine O.call (V := V12) rfl rfl (.inl rfl) rfl en9 (aC (L 0 rfl rfl) aN) (wk_law10_great V12 _ p0 v1 f23 ow15 _ hx25) (fun _ _ _ _ => nd) (fun v27 V28 le29 hp30 => ?_)
    obtain ⟨rfl, ow31⟩ := hp30
    refine U.done (Nat.le_of_ble_eq_true rfl) ?_
    refine WP.cond _ (L 0 rfl rfl) rfl (fun c32 => ?_) (fun c32 => ?_)
    · have h33 := ifT c32 h26
      refine WP.usreg rfl ?_
      refine U.p rfl rfl (.inl rfl) (S.assign rfl K) ?_
      refine U.done (Nat.le_of_ble_eq_true rfl) ?_
      refine WP.ret ?_
      refine sqR ?_
      refine fin.slot (.inr rfl) rfl (L 0 rfl rfl) ⟨V28, rfl, ((le5.trans le13).trans le29), ?_⟩
      have ow34 := ow31.drop 0 rfl
      have e35 := Option.some.inj h33
      subst e35
      exact ⟨rfl, ow34⟩
    · have h36 := ifF c32 h26
      refine WP.skip ?_
      refine sqN ?_
      refine WP.usreg rfl ?_
      refine U.k rfl rfl (.inl rfl) (S.loadB rfl (L 5 rfl rfl) Try.underlying24 rfl ti24 (ow31.own (k := 0) rfl).get rfl) nd ?_
      have f37 := f23.up le29
      obtain ⟨x38, hx39, h40⟩ := bindS h36
      refine O.call (V := V28) rfl rfl (.inl rfl) rfl en15 (aC (L 0 rfl rfl) aN) (wk_flow_Reached V28 _ p0 v1 f37 ow31 _ hx39) (fun _ _ _ _ => nd) (fun v41 V42 le43 hp44 => ?_)
      obtain ⟨_, rfl, ow45⟩ := hp44
      refine U.p rfl rfl (.inl rfl) (S.assign rfl (L 0 rfl rfl)) ?_
      refine U.done (Nat.le_of_ble_eq_true rfl) ?_
      refine WP.seq ?_
      refine WP.usreg rfl ?_
      refine U.p rfl rfl (.inl rfl) (S.move rfl (L 0 rfl rfl)) ?_
      refine U.p rfl rfl (.inl rfl) (ow45.oslen (k := 0) rfl rfl (L 0 rfl rfl) Try.underlying29) ?_
      refine U.p (v := .pointer (some ⟨b3, 3, none⟩)) rfl rfl (.inl rfl) (S.fieldAddr rfl (L 10 rfl rfl) Try.underlying24 rfl ti22 rfl rfl) ?_
      refine U.k rfl rfl (.inl rfl) (S.load rfl (L 0 rfl rfl) Try.underlying22 rfl ((ow45.own (k := 1) rfl).cell rfl)) nd ?_
      refine U.p rfl rfl (.inl rfl) (f37.1.len rfl (L 0 rfl rfl) Try.underlying22) ?_
      refine U.p rfl rfl (.inl rfl) (S.neqI rfl (L 3 rfl rfl) (L 0 rfl rfl)) ?_
      refine U.done (Nat.le_of_ble_eq_true rfl) ?_
      refine WP.cond _ (L 0 rfl rfl) rfl (fun c48 => ?_) (fun c48 => ?_)
      · have h49 := ifT c48 h40
        refine WP.usreg rfl ?_
        refine U.p rfl rfl (.inl rfl) (S.assign rfl K) ?_
        refine U.done (Nat.le_of_ble_eq_true rfl) ?_
        refine WP.ret ?_
        refine sqR ?_
        refine fin.slot (.inr rfl) rfl (L 0 rfl rfl) ⟨V42, rfl, (((le5.trans le13).trans le29).trans le43), ?_⟩
        have ow50 := ow45.drop 0 rfl
        have ow51 := ow50.drop 0 rfl
        have e52 := Option.some.inj h49
        subst e52
        exact ⟨rfl, ow51⟩
      · have h53 := ifF c48 h40
        refine WP.skip ?_
        refine sqN ?_
        refine WP.seq ?_
        refine WP.usreg rfl ?_
        refine U.p rfl rfl (.inl rfl) (S.assign rfl K) ?_
        refine U.done (Nat.le_of_ble_eq_true rfl) ?_
        refine WP.blk ?_
        have ow55 := ow45.pick 0 rfl
        have ow56 := ow55.pick 1 rfl
        unfold law10_FlowNext_l1 at h53
        obtain ⟨n58, hn57⟩ := loopO_some.1 h53
        refine WP.loopI2 (fun n l V' => ∃ (x54 : Int), l = [(1, .int .i64 p1), (2, .pointer (some ⟨b3, 0, none⟩)), (5, v41), (6, .int .i64 x54)] ∧ V42.le V' ∧ Ow V' (.pt b3 (.cells 0 [.string p0.name, .int .i64 p0.params, .int .i64 p0.regs, v1]) :: .os RT.bool v41 x38 :: Rs) ∧ itO (fun s => law10_FlowNext_l1b p0 p1 x38 s) n x54 = some r) n58 _ ⟨(-1), rfl, .refl _, ow56, hn57⟩ (allCons (L 17 rfl rfl) (allCons (L 15 rfl rfl) (allCons (L 7 rfl rfl) (allCons (L 0 rfl rfl) allNil)))) ?_
        rintro _ _ V59 ⟨x54, rfl, le60, ow61, h65⟩
        obtain ⟨m62, q63, rfl, h66, e64⟩ := itS h65
        replace h66 : law10_FlowNext_l1b p0 p1 x38 x54 = some q63 := h66
        unfold law10_FlowNext_l1b at h66
        refine WP.seq ?_
        refine WP.usreg rfl ?_
        refine U.p rfl rfl (.inl rfl) (S.move rfl (L 3 rfl rfl)) ?_
        refine U.p (v := .pointer (some ⟨b3, 3, none⟩)) rfl rfl (.inl rfl) (S.fieldAddr rfl (L 2 rfl rfl) Try.underlying24 rfl ti22 rfl rfl) ?_
        refine U.k rfl rfl (.inl rfl) (S.load rfl (L 0 rfl rfl) Try.underlying22 rfl ((ow61.own (k := 0) rfl).cell rfl)) nd ?_
        refine U.p rfl rfl (.inl rfl) (f37.1.len rfl (L 0 rfl rfl) Try.underlying22) ?_
        refine U.p rfl rfl (.inl rfl) (S.leq rfl (L 3 rfl rfl) (L 0 rfl rfl)) ?_
        refine U.done (Nat.le_of_ble_eq_true rfl) ?_
        refine WP.cond _ (L 0 rfl rfl) rfl (fun c67 => ?_) (fun c67 => ?_)
        · have h68 := ifT c67 h66
          refine WP.skip ?_
          refine sqN ?_
          refine WP.seq ?_
          refine WP.blk ?_
          refine WP.usreg rfl ?_
          refine U.p rfl rfl (.inl rfl) (S.move rfl (L 8 rfl rfl)) ?_
          refine U.p rfl rfl (.inl rfl) (S.assign rfl (L 0 rfl rfl)) ?_
          refine U.done (Nat.le_of_ble_eq_true rfl) ?_
          refine WP.seqI (fun l V' => ∃ (x69 : Int), l = [(1, .int .i64 p1), (2, .pointer (some ⟨b3, 0, none⟩)), (5, v41), (6, .int .i64 x54), (7, .int .i64 x69)] ∧ V59.le V' ∧ Ow V' (.pt b3 (.cells 0 [.string p0.name, .int .i64 p0.params, .int .i64 p0.regs, v1]) :: .os RT.bool v41 x38 :: Rs) ∧ law10_FlowNext_k1 p0 x38 x54 x69 = some q63) ?_ ?_
          · rintro _ V70 ⟨x69, rfl, le71, ow72, h73⟩
            unfold law10_FlowNext_k1 at h73
            refine WP.usdreg rfl rfl rfl ?_
            refine U.k rfl rfl (.inl rfl) (S.loadB rfl (L 1 rfl rfl) Try.underlying24 rfl ti24 (ow72.own (k := 0) rfl).get rfl) (fun _ => (okH.nil (fun r h => by cases h; exact (ow72.own (k := 0) rfl).lt))) ?_
            refine U.p rfl rfl (.inl rfl) (S.move rfl (L 5 rfl rfl)) ?_
            have f74 := f37.up ((le43.trans le60).trans le71)
            obtain ⟨x75, hx76, h77⟩ := bindS h73
            refine O.call (V := V70) rfl rfl (.inl rfl) rfl en13 (aC (L 1 rfl rfl) (aC (L 0 rfl rfl) aN)) (wk_flow_Next V70 _ p0 x69 v1 f74 ow72 _ hx76) (fun v78 V79 le80 hp81 => by obtain ⟨_, rfl, ow82⟩ := hp81; exact (fun _ => (okH.cons (Or.inl rfl) (okH.nil (fun r h => nomatch h))))) (fun v78 V79 le80 hp81 => ?_)
            obtain ⟨_, rfl, ow82⟩ := hp81
            refine U.k rfl rfl (.inl rfl) (S.loadB rfl (L 4 rfl rfl) Try.underlying24 rfl ti24 (ow82.own (k := 1) rfl).get rfl) (fun _ => (okH.cons (Or.inr ((ow82.own (k := 1) rfl).get.trans (ow72.own (k := 0) rfl).get.symm)) (okH.cons trivial (okH.nil (fun r h => by cases h; exact (ow82.own (k := 1) rfl).lt))))) ?_
            refine U.p rfl rfl (.inl rfl) (S.move rfl (L 8 rfl rfl)) ?_
            have f85 := f74.up le80
            obtain ⟨x86, hx87, h88⟩ := bindS h77
            refine O.call (V := V79) rfl rfl (.inl rfl) rfl en16 (aC (L 1 rfl rfl) (aC (L 0 rfl rfl) aN)) (wk_ref10_Next V79 _ p0 x69 v1 f85 ow82 _ hx87) (fun v89 V90 le91 hp92 => by obtain ⟨_, rfl, ow93⟩ := hp92; exact (fun _ => (okH.cons (Or.inl rfl) (okH.cons rfl (okH.cons (Or.inl rfl) (okH.nil (fun r h => nomatch h))))))) (fun v89 V90 le91 hp92 => ?_)
            obtain ⟨_, rfl, ow93⟩ := hp92
            refine U.p rfl rfl (.inl rfl) (S.assign rfl (L 3 rfl rfl)) ?_
            refine U.p rfl rfl (.inl rfl) (S.assign rfl (L 1 rfl rfl)) ?_
            refine U.done (Nat.le_of_ble_eq_true rfl) ?_
            refine WP.seq ?_
            refine WP.usreg rfl ?_
            refine U.p rfl rfl (.inl rfl) (S.move rfl (L 1 rfl rfl)) ?_
            refine U.p rfl rfl (.inl rfl) (ow93.oslen (k := 1) rfl rfl (L 0 rfl rfl) Try.underlying31) ?_
            refine U.p rfl rfl (.inl rfl) (S.move rfl (L 2 rfl rfl)) ?_
            refine U.p rfl rfl (.inl rfl) (ow93.oslen (k := 0) rfl rfl (L 0 rfl rfl) Try.underlying31) ?_
            refine U.p rfl rfl (.inl rfl) (S.neqI rfl (L 2 rfl rfl) (L 0 rfl rfl)) ?_
            refine U.done (Nat.le_of_ble_eq_true rfl) ?_
            refine WP.cond _ (L 0 rfl rfl) rfl (fun c96 => ?_) (fun c96 => ?_)
            · have h97 := ifT c96 h88
              refine WP.usreg rfl ?_
              refine U.p rfl rfl (.inl rfl) (S.assign rfl K) ?_
              refine U.done (Nat.le_of_ble_eq_true rfl) ?_
              refine WP.ret ?_
              refine sqR (blkR (sqR (sqR (blkR (sqR ?_)))))
              have h98 := exitS h97 e64
              refine fin.slot (.inr rfl) rfl (L 0 rfl rfl) ⟨V90, rfl, (((((((le5.trans le13).trans le29).trans le43).trans le60).trans le71).trans le80).trans le91), ?_⟩
              have ow99 := ow93.drop 0 rfl
              have ow100 := ow99.drop 0 rfl
              have ow101 := ow100.drop 0 rfl
              have ow102 := ow101.drop 0 rfl
              have e103 := Option.some.inj h98
              subst e103
              exact ⟨rfl, ow102⟩
            · have h104 := ifF c96 h88
              refine WP.skip ?_
              refine sqN ?_
              refine WP.seq ?_
              refine WP.usreg rfl ?_
              refine U.p rfl rfl (.inl rfl) (S.move rfl (L 6 rfl rfl)) ?_
              refine U.p rfl rfl (.inl rfl) (ow93.oslen (k := 1) rfl rfl (L 0 rfl rfl) Try.underlying31) ?_
              refine U.p rfl rfl (.inl rfl) (S.move rfl K) ?_
              refine U.done (Nat.le_of_ble_eq_true rfl) ?_
              refine WP.blk ?_
              have ow106 := ow93.pick 0 rfl
              have ow107 := ow106.pick 1 rfl
              have ow108 := ow107.pick 3 rfl
              have ow109 := ow108.pick 3 rfl
              unfold law10_FlowNext_l2 at h104
              obtain ⟨n111, hn110⟩ := loopO_some.1 h104
              refine WP.loopI2 (fun n l V' => ∃ (x105 : Int), l = [(1, .int .i64 p1), (2, .pointer (some ⟨b3, 0, none⟩)), (5, v41), (6, .int .i64 x54), (8, v78), (9, v89), (49, .int .i64 (x75.length : Int)), (50, .int .i64 x105)] ∧ V90.le V' ∧ Ow V' (.pt b3 (.cells 0 [.string p0.name, .int .i64 p0.params, .int .i64 p0.regs, v1]) :: .os RT.bool v41 x38 :: .os (RT.int .i64) v78 x75 :: .os (RT.int .i64) v89 x86 :: Rs) ∧ itO (fun s => law10_FlowNext_l2b p0 x38 x54 x75 x86 s) n x105 = some q63) n111 _ ⟨0, rfl, .refl _, ow109, hn110⟩ (allCons (L 16 rfl rfl) (allCons (L 17 rfl rfl) (allCons (L 18 rfl rfl) (allCons (L 19 rfl rfl) (allCons (L 9 rfl rfl) (allCons (L 8 rfl rfl) (allCons (L 1 rfl rfl) (allCons (L 0 rfl rfl) allNil)))))))) ?_
              rintro _ _ V112 ⟨x105, rfl, le113, ow114, h118⟩
              obtain ⟨m115, q116, rfl, h119, e117⟩ := itS h118
              replace h119 : law10_FlowNext_l2b p0 x38 x54 x75 x86 x105 = some q116 := h119
              unfold law10_FlowNext_l2b at h119
              refine WP.usreg rfl ?_
              refine U.p rfl rfl (.inl rfl) (S.lss rfl (L 7 rfl rfl) (L 6 rfl rfl)) ?_
              refine U.done (Nat.le_of_ble_eq_true rfl) ?_
              refine WP.seq ?_
              refine WP.cond _ (L 0 rfl rfl) rfl (fun c120 => ?_) (fun c120 => ?_)
              · have h121 := ifT c120 h119
                refine WP.skip ?_
                refine sqN ?_
                refine WP.seq ?_
                refine WP.blk ?_
                refine WP.usreg rfl ?_
                refine U.p rfl rfl (.inl rfl) (S.move rfl (L 8 rfl rfl)) ?_
                refine U.p rfl rfl (.inl rfl) (S.assign rfl (L 0 rfl rfl)) ?_
                refine U.done (Nat.le_of_ble_eq_true rfl) ?_
                refine WP.usdreg rfl rfl rfl ?_
                refine U.p rfl rfl (.inl rfl) (S.move rfl (L 7 rfl rfl)) ?_
                refine U.p rfl rfl (.inl rfl) (S.move rfl (L 1 rfl rfl)) ?_
                obtain ⟨x122, hx123, h124⟩ := bindS h121
                obtain ⟨b125, o126, n127, c128, hv129⟩ := ow114.ospt (k := 2) rfl hx123
                obtain ⟨_, hv130, _⟩ := ow114.osel (k := 2) rfl hv129 hx123
                refine U.p rfl rfl (.inl rfl) (S.index rfl ((L 1 rfl rfl).trans hv130) (L 0 rfl rfl) Try.underlying31 ti3 (ix_ge hx123) (ix_lt hx123)) ?_
                obtain ⟨cs131, hv132, hlt133, hr134, hc135⟩ := ow114.osel (k := 2) rfl hv129 hx123
                obtain rfl : cs131 = [.int .i64 x122] := hr134
                refine U.k rfl rfl (.inl rfl) (S.load rfl (L 0 rfl rfl) Try.underlying3 rfl (hc135 0 _ rfl)) (fun _ => (okH.nil (fun r h => by cases h; exact hlt133))) ?_
                refine U.p rfl rfl (.inl rfl) (S.move rfl (L 12 rfl rfl)) ?_
                refine U.p rfl rfl (.inl rfl) (S.move rfl (L 5 rfl rfl)) ?_
                obtain ⟨x136, hx137, h138⟩ := bindS h124
                obtain ⟨b139, o140, n141, c142, hv143⟩ := ow114.ospt (k := 3) rfl hx137
                obtain ⟨_, hv144, _⟩ := ow114.osel (k := 3) rfl hv143 hx137
                refine U.p rfl rfl (.inl rfl) (S.index rfl ((L 1 rfl rfl).trans hv144) (L 0 rfl rfl) Try.underlying31 ti3 (ix_ge hx137) (ix_lt hx137)) ?_
                obtain ⟨cs145, hv146, hlt147, hr148, hc149⟩ := ow114.osel (k := 3) rfl hv143 hx137
                obtain rfl : cs145 = [.int .i64 x136] := hr148
                refine U.k rfl rfl (.inl rfl) (S.load rfl (L 0 rfl rfl) Try.underlying3 rfl (hc149 0 _ rfl)) (fun _ => (okH.cons trivial (okH.nil (fun r h => by cases h; exact hlt147)))) ?_
                refine U.p rfl rfl (.inl rfl) (S.neqI rfl (L 4 rfl rfl) (L 0 rfl rfl)) ?_
                refine U.done (Nat.le_of_ble_eq_true rfl) ?_
                refine WP.cond _ (L 0 rfl rfl) rfl (fun c150 => ?_) (fun c150 => ?_)
                · have h151 := ifT c150 h138
                  refine WP.usreg rfl ?_
                  refine U.p rfl rfl (.inl rfl) (S.assign rfl K) ?_
                  refine U.done (Nat.le_of_ble_eq_true rfl) ?_
                  refine WP.ret ?_
                  refine blkR (sqR (sqR (blkR (sqR (blkR (sqR (sqR (blkR (sqR ?_)))))))))
                  have h152 := exitS h151 e117
                  have h153 := exitS h152 e64
                  refine fin.slot (.inr rfl) rfl (L 0 rfl rfl) ⟨V112, rfl, ((((((((le5.trans le13).trans le29).trans le43).trans le60).trans le71).trans le80).trans le91).trans le113), ?_⟩
                  have ow154 := ow114.drop 0 rfl
                  have ow155 := ow154.drop 0 rfl
                  have ow156 := ow155.drop 0 rfl
                  have ow157 := ow156.drop 0 rfl
                  have e158 := Option.some.inj h153
                  subst e158
                  exact ⟨rfl, ow157⟩
                · have h159 := ifF c150 h138
                  refine WP.skip ?_
                  refine blkN (sqN ?_)
                  refine WP.ureg rfl ?_
                  refine U.p rfl rfl (.inl rfl) (S.add rfl (L 19 rfl rfl) K) ?_
                  refine U.p rfl rfl (.inl rfl) (S.move rfl (L 0 rfl rfl)) ?_
                  refine U.done (Nat.le_of_ble_eq_true rfl) ?_
                  refine sqN ?_
                  exact ⟨_, V112, rfl, ⟨m115, Nat.lt_succ_self _, w64 (x105 + 1), rfl, le113, ow114, backS h159 e117⟩, (allCons (L 14 rfl rfl) (allCons (L 15 rfl rfl) (allCons (L 16 rfl rfl) (allCons (L 17 rfl rfl) (allCons (L 18 rfl rfl) (allCons (L 19 rfl rfl) (allCons (L 20 rfl rfl) (allCons (L 0 rfl rfl) allNil))))))))⟩
              · have h160 := ifF c120 h119
                refine WP.exit ?_
                refine sqE (sqE (blkE (sqN ?_)))
                have h161 := exitS h160 e117
                refine WP.seqI (fun l V' => ∃ (x162 : Bool), l = [(1, .int .i64 p1), (2, .pointer (some ⟨b3, 0, none⟩)), (5, v41), (6, .int .i64 x54), (80, .bool x162)] ∧ V112.le V' ∧ Ow V' (.pt b3 (.cells 0 [.string p0.name, .int .i64 p0.params, .int .i64 p0.regs, v1]) :: .os RT.bool v41 x38 :: Rs) ∧ law10_FlowNext_k2 x54 x162 = some q63) ?_ ?_
                · rintro _ V163 ⟨x162, rfl, le164, ow165, h166⟩
                  unfold law10_FlowNext_k2 at h166
                  refine WP.cond _ (L 4 rfl rfl) rfl (fun c167 => ?_) (fun c167 => ?_)
                  · have h168 := ifT c167 h166
                    refine WP.usreg rfl ?_
                    refine U.p rfl rfl (.inl rfl) (S.assign rfl K) ?_
                    refine U.done (Nat.le_of_ble_eq_true rfl) ?_
                    refine WP.ret ?_
                    refine blkR (sqR (sqR (blkR (sqR ?_))))
                    have h169 := exitS h168 e64
                    refine fin.slot (.inr rfl) rfl (L 0 rfl rfl) ⟨V163, rfl, (((((((((le5.trans le13).trans le29).trans le43).trans le60).trans le71).trans le80).trans le91).trans le113).trans le164), ?_⟩
                    have ow170 := ow165.drop 0 rfl
                    have ow171 := ow170.drop 0 rfl
                    have e172 := Option.some.inj h169
                    subst e172
                    exact ⟨rfl, ow171⟩
                  · have h173 := ifF c167 h166
                    refine WP.skip ?_
                    refine blkN (sqN ?_)
                    refine WP.ureg rfl ?_
                    refine U.p rfl rfl (.inl rfl) (S.move rfl (L 3 rfl rfl)) ?_
                    refine U.p rfl rfl (.inl rfl) (S.add rfl (L 0 rfl rfl) K) ?_
                    refine U.p rfl rfl (.inl rfl) (S.assign rfl (L 0 rfl rfl)) ?_
                    refine U.done (Nat.le_of_ble_eq_true rfl) ?_
                    refine sqN ?_
                    exact ⟨_, V163, rfl, ⟨m62, Nat.lt_succ_self _, w64 (x54 + 1), rfl, (((((le60.trans le71).trans le80).trans le91).trans le113).trans le164), ow165, backS h173 e64⟩, (allCons (L 3 rfl rfl) (allCons (L 4 rfl rfl) (allCons (L 5 rfl rfl) (allCons (L 0 rfl rfl) allNil))))⟩
                · skip
                  refine WP.udreg rfl rfl rfl ?_
                  refine U.p rfl rfl (.inl rfl) (S.move rfl (L 4 rfl rfl)) ?_
                  refine U.p rfl rfl (.inl rfl) (S.geq rfl (L 0 rfl rfl) K) ?_
                  refine U.p rfl rfl (.inl rfl) (S.move rfl (L 0 rfl rfl)) ?_
                  refine U.joinX 8 (fun e H => ∃ (u174 u175 u176 u177 : Value), H = V112.H ∧ e = [(70, .bool ((decide (0 ≤ x54)) && (decide (x54 < (x38.length : Int))))), (69, u174), (68, u175), (67, u176), (66, u177)]) ?_ ?_
                  · rintro _ _ ⟨u174, u175, u176, u177, rfl, rfl⟩
                    refine U.p rfl rfl (.inl rfl) (S.move rfl (L 0 rfl rfl)) ?_
                    refine bcase (b := (decide (0 ≤ x54)) && (decide (x54 < (x38.length : Int)))) (fun g181 => ?_) (fun g181 => ?_)
                    · have h182 := ifT g181 h161
                      refine U.p rfl rfl (.inr ⟨_, _, _, rfl, rfl, ((L 0 rfl rfl).trans (congrArg Value.bool g181))⟩) (S.move rfl (L 12 rfl rfl)) ?_
                      refine U.p rfl rfl (.inr ⟨_, _, _, rfl, rfl, ((L 1 rfl rfl).trans (congrArg Value.bool g181))⟩) (S.move rfl (L 14 rfl rfl)) ?_
                      obtain ⟨x183, hx184, h185⟩ := bindS h182
                      obtain ⟨b186, o187, n188, c189, hv190⟩ := ow114.ospt (k := 1) rfl hx184
                      obtain ⟨_, hv191, _⟩ := ow114.osel (k := 1) rfl hv190 hx184
                      refine U.p rfl rfl (.inr ⟨_, _, _, rfl, rfl, ((L 2 rfl rfl).trans (congrArg Value.bool g181))⟩) (S.index rfl ((L 1 rfl rfl).trans hv191) (L 0 rfl rfl) Try.underlying29 ti4 (ix_ge hx184) (ix_lt hx184)) ?_
                      obtain ⟨cs192, hv193, hlt194, hr195, hc196⟩ := ow114.osel (k := 1) rfl hv190 hx184
                      obtain rfl : cs192 = [.bool x183] := hr195
                      refine U.k rfl rfl (.inr ⟨_, _, _, rfl, rfl, ((L 3 rfl rfl).trans (congrArg Value.bool g181))⟩) (S.load rfl (L 0 rfl rfl) Try.underlying4 rfl (hc196 0 _ rfl)) (fun _ => (okH.nil (fun r h => by cases h; exact hlt194))) ?_
                      refine U.k rfl rfl (.inr ⟨_, _, _, rfl, rfl, ((L 4 rfl rfl).trans (congrArg Value.bool g181))⟩) (S.loadB rfl (L 15 rfl rfl) Try.underlying24 rfl ti24 (ow114.own (k := 0) rfl).get rfl) (fun _ => (okH.cons trivial (okH.nil (fun r h => by cases h; exact (ow114.own (k := 0) rfl).lt)))) ?_
                      refine U.p rfl rfl (.inr ⟨_, _, _, rfl, rfl, ((L 5 rfl rfl).trans (congrArg Value.bool g181))⟩) (S.move rfl (L 18 rfl rfl)) ?_
                      have f197 := f85.up (le91.trans le113)
                      obtain ⟨x198, hx199, h200⟩ := bindS h185
                      obtain ⟨q206, ow207⟩ := ow114.toEx 1 rfl
                      refine O.call (V := V112) rfl rfl (.inr ⟨_, _, _, rfl, rfl, ((L 6 rfl rfl).trans (congrArg Value.bool g181))⟩) rfl en17 (aC (L 1 rfl rfl) (aC (L 0 rfl rfl) aN)) (wk_ref10_Reached V112 _ p0 x54 v1 f197 ow207 _ hx199) (fun v201 V202 le203 hp204 => by obtain ⟨rfl, ow205⟩ := hp204; exact (fun _ => (okH.cons (Or.inl rfl) (okH.cons (Or.inr (ow207.exsame (k := 1) (j := 1) rfl ow205 rfl (fun h => exb_os hv190 h))) (okH.nil (fun r h => nomatch h)))))) (fun v201 V202 le203 hp204 => ?_)
                      obtain ⟨rfl, ow205⟩ := hp204
                      have ow208 := ow205.unEx 1 rfl
                      refine U.p rfl rfl (.inr ⟨_, _, _, rfl, rfl, ((L 7 rfl rfl).trans (congrArg Value.bool g181))⟩) (S.neqB rfl (L 3 rfl rfl) (L 0 rfl rfl) Try.underlying4) ?_
                      refine U.p rfl rfl (.inl rfl) (S.pickT rfl ((L 8 rfl rfl).trans (congrArg Value.bool g181)) (L 0 rfl rfl)) ?_
                      refine U.done (Nat.le_of_ble_eq_true rfl) ?_
                      refine sqN ?_
                      have ow209 := ow208.drop 2 rfl
                      have ow210 := ow209.drop 2 rfl
                      exact ⟨_, V202, rfl, ⟨!(x183 == x198), rfl, le203, ow210, h200⟩, (allCons (L 19 rfl rfl) (allCons (L 20 rfl rfl) (allCons (L 21 rfl rfl) (allCons (L 22 rfl rfl) (allCons (L 0 rfl rfl) allNil)))))⟩
                    · have h211 := ifF g181 h161
                      refine U.x rfl rfl rfl rfl ((L 0 rfl rfl).trans (congrArg Value.bool g181)) (by decide) ?_
                      refine U.x rfl rfl rfl rfl ((L 1 rfl rfl).trans (congrArg Value.bool g181)) (by decide) ?_
                      refine U.x rfl rfl rfl rfl ((L 2 rfl rfl).trans (congrArg Value.bool g181)) (by decide) ?_
                      refine U.x rfl rfl rfl rfl ((L 3 rfl rfl).trans (congrArg Value.bool g181)) (by decide) ?_
                      refine U.x rfl rfl rfl rfl ((L 4 rfl rfl).trans (congrArg Value.bool g181)) (by decide) ?_
                      refine U.x rfl rfl rfl rfl ((L 5 rfl rfl).trans (congrArg Value.bool g181)) (by decide) ?_
                      refine U.x rfl rfl rfl rfl ((L 6 rfl rfl).trans (congrArg Value.bool g181)) (by decide) ?_
                      refine U.x rfl rfl rfl rfl ((L 7 rfl rfl).trans (congrArg Value.bool g181)) (by decide) ?_
                      refine U.p rfl rfl (.inl rfl) (S.pickF rfl ((L 8 rfl rfl).trans (congrArg Value.bool g181)) K) ?_
                      refine U.done (Nat.le_of_ble_eq_true rfl) ?_
                      refine sqN ?_
                      have ow212 := ow114.drop 2 rfl
                      have ow213 := ow212.drop 2 rfl
                      exact ⟨_, V112, rfl, ⟨false, rfl, (.refl _), ow213, h211⟩, (allCons (L 19 rfl rfl) (allCons (L 20 rfl rfl) (allCons (L 21 rfl rfl) (allCons (L 22 rfl rfl) (allCons (L 0 rfl rfl) allNil)))))⟩
                  · intro kk
                    refine bcase (b := decide (0 ≤ x54)) (fun g214 => ?_) (fun g214 => ?_)
                    · skip
                      refine U.p rfl rfl (.inr ⟨_, _, _, rfl, rfl, ((L 0 rfl rfl).trans (congrArg Value.bool g214))⟩) (S.move rfl (L 7 rfl rfl)) ?_
                      refine U.p rfl rfl (.inr ⟨_, _, _, rfl, rfl, ((L 1 rfl rfl).trans (congrArg Value.bool g214))⟩) (S.move rfl (L 7 rfl rfl)) ?_
                      refine U.p rfl rfl (.inr ⟨_, _, _, rfl, rfl, ((L 2 rfl rfl).trans (congrArg Value.bool g214))⟩) (ow114.oslen (k := 1) rfl rfl (L 0 rfl rfl) Try.underlying29) ?_
                      refine U.p rfl rfl (.inr ⟨_, _, _, rfl, rfl, ((L 3 rfl rfl).trans (congrArg Value.bool g214))⟩) (S.lss rfl (L 2 rfl rfl) (L 0 rfl rfl)) ?_
                      refine U.p rfl rfl (.inl rfl) (S.pickT rfl ((L 4 rfl rfl).trans (congrArg Value.bool g214)) (L 0 rfl rfl)) ?_
                      exact kk [(70, .bool (decide (x54 < (x38.length : Int)))), (69, .bool (decide (x54 < (x38.length : Int)))), (68, .int .i64 (x38.length : Int)), (67, v41), (66, .int .i64 x54)] _ ⟨.bool (decide (x54 < (x38.length : Int))), .int .i64 (x38.length : Int), v41, .int .i64 x54, rfl, (by rw [g214, Bool.true_and])⟩
                    · skip
                      refine U.x rfl rfl rfl rfl ((L 0 rfl rfl).trans (congrArg Value.bool g214)) (by decide) ?_
                      refine U.x rfl rfl rfl rfl ((L 1 rfl rfl).trans (congrArg Value.bool g214)) (by decide) ?_
                      refine U.x rfl rfl rfl rfl ((L 2 rfl rfl).trans (congrArg Value.bool g214)) (by decide) ?_
                      refine U.x rfl rfl rfl rfl ((L 3 rfl rfl).trans (congrArg Value.bool g214)) (by decide) ?_
                      refine U.p rfl rfl (.inl rfl) (S.pickF rfl ((L 4 rfl rfl).trans (congrArg Value.bool g214)) K) ?_
                      exact kk [(70, .bool false), (69, .tuple #[]), (68, .tuple #[]), (67, .tuple #[]), (66, .tuple #[])] _ ⟨.tuple #[], .tuple #[], .tuple #[], .tuple #[], rfl, (by rw [g214, Bool.false_and])⟩
          · skip
            refine WP.usreg rfl ?_
            refine U.p rfl rfl (.inl rfl) (S.move rfl (L 10 rfl rfl)) ?_
            refine U.p (v := .pointer (some ⟨b3, 3, none⟩)) rfl rfl (.inl rfl) (S.fieldAddr rfl (L 9 rfl rfl) Try.underlying24 rfl ti22 rfl rfl) ?_
            refine U.k rfl rfl (.inl rfl) (S.load rfl (L 0 rfl rfl) Try.underlying22 rfl ((ow61.own (k := 0) rfl).cell rfl)) nd ?_
            refine U.p rfl rfl (.inl rfl) (f37.1.len rfl (L 0 rfl rfl) Try.underlying22) ?_
            refine U.p rfl rfl (.inl rfl) (S.eqlI rfl (L 3 rfl rfl) (L 0 rfl rfl)) ?_
            refine U.done (Nat.le_of_ble_eq_true rfl) ?_
            refine WP.cond _ (L 0 rfl rfl) rfl (fun c215 => ?_) (fun c215 => ?_)
            · have h216 := ifT c215 h68
              refine WP.ureg rfl ?_
              refine U.p rfl rfl (.inl rfl) (S.move rfl (L 12 rfl rfl)) ?_
              refine U.p rfl rfl (.inl rfl) (S.assign rfl (L 0 rfl rfl)) ?_
              refine U.done (Nat.le_of_ble_eq_true rfl) ?_
              refine sqN ?_
              exact ⟨_, V59, rfl, ⟨p1, rfl, (.refl _), ow61, h216⟩, (allCons (L 14 rfl rfl) (allCons (L 15 rfl rfl) (allCons (L 16 rfl rfl) (allCons (L 17 rfl rfl) (allCons (L 0 rfl rfl) allNil)))))⟩
            · have h217 := ifF c215 h68
              refine WP.skip ?_
              refine sqN ?_
              exact ⟨_, V59, rfl, ⟨x54, rfl, (.refl _), ow61, h217⟩, (allCons (L 12 rfl rfl) (allCons (L 13 rfl rfl) (allCons (L 14 rfl rfl) (allCons (L 15 rfl rfl) (allCons (L 5 rfl rfl) allNil)))))⟩
        · have h218 := ifF c67 h66
          refine WP.exit ?_
          refine sqE (sqE (blkE (sqN ?_)))
          have h219 := exitS h218 e64
          refine WP.usreg rfl ?_
          refine U.p rfl rfl (.inl rfl) (S.assign rfl K) ?_
          refine U.done (Nat.le_of_ble_eq_true rfl) ?_
          refine WP.ret ?_
          refine fin.slot (.inr rfl) rfl (L 0 rfl rfl) ⟨V59, rfl, ((((le5.trans le13).trans le29).trans le43).trans le60), ?_⟩
          have ow220 := ow61.drop 0 rfl
          have ow221 := ow220.drop 0 rfl
          have e222 := Option.some.inj h219
          subst e222
          exact ⟨rfl, ow221⟩

set_option maxHeartbeats 4000000 in
theorem wk_law10_FlowWays (V : Vw) (Rs : List At) (p0 : TFunc) (v1 : Value) (f2 : Fz RT_TIns V v1 p0.code) (ow : Ow V (Rs)) (r : Bool) (h : law10_FlowWays p0 = some r) : ∃ v V', Cl Try.prog 0 6 #[.agg #[.string p0.name, .int .i64 p0.params, .int .i64 p0.regs, v1]] V.H v V'.H ∧ V.le V' ∧ (v = .bool r ∧ Ow V' (Rs)) := by
  refine Ct.of (Nat.zero_le _) Try.func6 rfl (Nat.le_of_ble_eq_true rfl) ?_
  unfold law10_FlowWays at h
  refine WP.usreg rfl ?_
  refine O.box ow rfl rfl (.inl rfl) rfl (L 0 rfl rfl) (by simp [topV]) rfl nd (fun b3 V4 le5 ow6 => ?_)
  refine U.p rfl rfl (.inl rfl) (S.assign rfl K) ?_
  refine U.done (Nat.le_of_ble_eq_true rfl) ?_
  refine WP.seq ?_
  refine WP.usreg rfl ?_
  obtain ⟨x8, hx9, h10⟩ := bindS h
  refine O.call (V := V4) rfl rfl (.inl rfl) rfl en8 aN (wk_law10_alive V4 _ ow6 _ hx9) (fun _ _ _ _ => nd) (fun v11 V12 le13 hp14 => ?_)
  obtain ⟨rfl, ow15⟩ := hp14
  refine U.p rfl rfl (.inl rfl) (S.not rfl (L 0 rfl rfl)) ?_
  refine U.done (Nat.le_of_ble_eq_true rfl) ?_
  refine WP.cond _ (L 0 rfl rfl) rfl (fun c16 => ?_) (fun c16 => ?_)
  · have h17 := ifT c16 h10
    have k18 : x8 = false := by simpa using c16
    refine WP.usreg rfl ?_
    refine U.p rfl rfl (.inl rfl) (S.assign rfl K) ?_
    refine U.done (Nat.le_of_ble_eq_true rfl) ?_
    refine WP.ret ?_
    refine sqR ?_
    refine fin.slot (.inr rfl) rfl (L 0 rfl rfl) ⟨V12, rfl, (le5.trans le13), ?_⟩
    have ow19 := ow15.drop 0 rfl
    have e20 := Option.some.inj h17
    subst e20
    exact ⟨rfl, ow19⟩
  · have h21 := ifF c16 h10
    have k22 : x8 = true := by simpa using c16
    refine WP.skip ?_
    refine sqN ?_
    refine WP.seq ?_
    refine WP.usreg rfl ?_
    refine U.k rfl rfl (.inl rfl) (S.loadB rfl (L 3 rfl rfl) Try.underlying24 rfl ti24 (ow15.own (k := 0) rfl).get rfl) nd ?_
    have f23 := f2.up (le5.trans le13)
    obtain ⟨x24, hx25, h26⟩ := bindS h21
    refine O.call (V := V12) rfl rfl (.inl rfl) rfl en9 (aC (L 0 rfl rfl) aN) (wk_law10_great V12 _ p0 v1 f23 ow15 _ hx25) (fun _ _ _ _ => nd) (fun v27 V28 le29 hp30 => ?_)
    obtain ⟨rfl, ow31⟩ := hp30
    refine U.done (Nat.le_of_ble_eq_true rfl) ?_
    refine WP.cond _ (L 0 rfl rfl) rfl (fun c32 => ?_) (fun c32 => ?_)
    · have h33 := ifT c32 h26
      refine WP.usreg rfl ?_
      refine U.p rfl rfl (.inl rfl) (S.assign rfl K) ?_
      refine U.done (Nat.le_of_ble_eq_true rfl) ?_
      refine WP.ret ?_
      refine sqR ?_
      refine fin.slot (.inr rfl) rfl (L 0 rfl rfl) ⟨V28, rfl, ((le5.trans le13).trans le29), ?_⟩
      have ow34 := ow31.drop 0 rfl
      have e35 := Option.some.inj h33
      subst e35
      exact ⟨rfl, ow34⟩
    · have h36 := ifF c32 h26
      refine WP.skip ?_
      refine sqN ?_
      refine WP.usreg rfl ?_
      refine U.k rfl rfl (.inl rfl) (S.loadB rfl (L 5 rfl rfl) Try.underlying24 rfl ti24 (ow31.own (k := 0) rfl).get rfl) nd ?_
      have f37 := f23.up le29
      obtain ⟨x38, hx39, h40⟩ := bindS h36
      refine O.call (V := V28) rfl rfl (.inl rfl) rfl en15 (aC (L 0 rfl rfl) aN) (wk_flow_Reached V28 _ p0 v1 f37 ow31 _ hx39) (fun _ _ _ _ => nd) (fun v41 V42 le43 hp44 => ?_)
      obtain ⟨_, rfl, ow45⟩ := hp44
      refine U.p rfl rfl (.inl rfl) (S.assign rfl (L 0 rfl rfl)) ?_
      refine U.done (Nat.le_of_ble_eq_true rfl) ?_
      refine WP.seq ?_
      refine WP.usreg rfl ?_
      refine U.p rfl rfl (.inl rfl) (S.move rfl (L 0 rfl rfl)) ?_
      obtain ⟨x48, hx49, h50⟩ := bindS h40
      obtain ⟨b51, o52, n53, c54, hv55⟩ := ow45.ospt (k := 0) rfl hx49
      obtain ⟨_, hv56, _⟩ := ow45.osel (k := 0) rfl hv55 hx49
      refine U.p rfl rfl (.inl rfl) (S.index rfl ((L 0 rfl rfl).trans hv56) K Try.underlying29 ti4 (ix_ge hx49) (ix_lt hx49)) ?_
      obtain ⟨cs57, hv58, hlt59, hr60, hc61⟩ := ow45.osel (k := 0) rfl hv55 hx49
      obtain rfl : cs57 = [.bool x48] := hr60
      refine U.k rfl rfl (.inl rfl) (S.load rfl (L 0 rfl rfl) Try.underlying4 rfl (hc61 0 _ rfl)) nd ?_
      refine U.p rfl rfl (.inl rfl) (S.not rfl (L 0 rfl rfl)) ?_
      refine U.done (Nat.le_of_ble_eq_true rfl) ?_
      refine WP.cond _ (L 0 rfl rfl) rfl (fun c62 => ?_) (fun c62 => ?_)
      · have h63 := ifT c62 h50
        have k64 : x48 = false := by simpa using c62
        refine WP.usreg rfl ?_
        refine U.p rfl rfl (.inl rfl) (S.assign rfl K) ?_
        refine U.done (Nat.le_of_ble_eq_true rfl) ?_
        refine WP.ret ?_
        refine sqR ?_
        refine fin.slot (.inr rfl) rfl (L 0 rfl rfl) ⟨V42, rfl, (((le5.trans le13).trans le29).trans le43), ?_⟩
        have ow65 := ow45.drop 0 rfl
        have ow66 := ow65.drop 0 rfl
        have e67 := Option.some.inj h63
        subst e67
        exact ⟨rfl, ow66⟩
      · have h68 := ifF c62 h50
        have k69 : x48 = true := by simpa using c62
        refine WP.skip ?_
        refine sqN ?_
        refine WP.seq ?_
        refine WP.usreg rfl ?_
        refine U.p rfl rfl (.inl rfl) (S.move rfl (L 4 rfl rfl)) ?_
        refine U.p rfl rfl (.inl rfl) (ow45.oslen (k := 0) rfl rfl (L 0 rfl rfl) Try.underlying29) ?_
        refine U.p rfl rfl (.inl rfl) (S.move rfl K) ?_
        refine U.done (Nat.le_of_ble_eq_true rfl) ?_
        refine WP.blk ?_
        have ow71 := ow45.pick 0 rfl
        have ow72 := ow71.pick 1 rfl
        unfold law10_FlowWays_l1 at h68
        obtain ⟨n74, hn73⟩ := loopO_some.1 h68
        refine WP.loopI2 (fun n l V' => ∃ (x70 : Int), l = [(1, .pointer (some ⟨b3, 0, none⟩)), (3, v41), (18, v41), (19, .int .i64 (x38.length : Int)), (20, .int .i64 x70)] ∧ V42.le V' ∧ Ow V' (.pt b3 (.cells 0 [.string p0.name, .int .i64 p0.params, .int .i64 p0.regs, v1]) :: .os RT.bool v41 x38 :: Rs) ∧ itO (fun s => law10_FlowWays_l1b p0 x38 s) n x70 = some r) n74 _ ⟨0, rfl, .refl _, ow72, hn73⟩ (allCons (L 15 rfl rfl) (allCons (L 7 rfl rfl) (allCons (L 2 rfl rfl) (allCons (L 1 rfl rfl) (allCons (L 0 rfl rfl) allNil))))) ?_
        rintro _ _ V75 ⟨x70, rfl, le76, ow77, h81⟩
        obtain ⟨m78, q79, rfl, h82, e80⟩ := itS h81
        replace h82 : law10_FlowWays_l1b p0 x38 x70 = some q79 := h82
        unfold law10_FlowWays_l1b at h82
        refine WP.usreg rfl ?_
        refine U.p rfl rfl (.inl rfl) (S.lss rfl (L 4 rfl rfl) (L 3 rfl rfl)) ?_
        refine U.done (Nat.le_of_ble_eq_true rfl) ?_
        refine WP.seq ?_
        refine WP.cond _ (L 0 rfl rfl) rfl (fun c83 => ?_) (fun c83 => ?_)
        · have h84 := ifT c83 h82
          refine WP.skip ?_
          refine sqN ?_
          refine WP.seq ?_
          refine WP.blk ?_
          refine WP.usreg rfl ?_
          refine U.p rfl rfl (.inl rfl) (S.move rfl (L 5 rfl rfl)) ?_
          obtain ⟨x85, hx86, h87⟩ := bindS h84
          obtain ⟨_, hv88, _⟩ := ow77.osel (k := 1) rfl hv55 hx86
          refine U.p rfl rfl (.inl rfl) (S.index rfl ((L 4 rfl rfl).trans hv88) (L 6 rfl rfl) Try.underlying29 ti4 (ix_ge hx86) (ix_lt hx86)) ?_
          obtain ⟨cs89, hv90, hlt91, hr92, hc93⟩ := ow77.osel (k := 1) rfl hv55 hx86
          obtain rfl : cs89 = [.bool x85] := hr92
          refine U.k rfl rfl (.inl rfl) (S.load rfl (L 0 rfl rfl) Try.underlying4 rfl (hc93 0 _ rfl)) nd ?_
          refine U.p rfl rfl (.inl rfl) (S.assign rfl (L 2 rfl rfl)) ?_
          refine U.p rfl rfl (.inl rfl) (S.assign rfl (L 1 rfl rfl)) ?_
          refine U.done (Nat.le_of_ble_eq_true rfl) ?_
          refine WP.usreg rfl ?_
          refine U.k rfl rfl (.inl rfl) (S.loadB rfl (L 6 rfl rfl) Try.underlying24 rfl ti24 (ow77.own (k := 0) rfl).get rfl) nd ?_
          refine U.p rfl rfl (.inl rfl) (S.move rfl (L 2 rfl rfl)) ?_
          have f94 := f37.up (le43.trans le76)
          obtain ⟨x95, hx96, h97⟩ := bindS h87
          refine O.call (V := V75) rfl rfl (.inl rfl) rfl en13 (aC (L 1 rfl rfl) (aC (L 0 rfl rfl) aN)) (wk_flow_Next V75 _ p0 x70 v1 f94 ow77 _ hx96) (fun _ _ _ _ => nd) (fun v98 V99 le100 hp101 => ?_)
          obtain ⟨_, rfl, ow102⟩ := hp101
          refine U.p rfl rfl (.inl rfl) (ow102.oslen (k := 0) rfl rfl (L 0 rfl rfl) Try.underlying31) ?_
          refine U.p rfl rfl (.inl rfl) (S.move rfl K) ?_
          refine U.done (Nat.le_of_ble_eq_true rfl) ?_
          refine WP.blk ?_
          have ow106 := ow102.pick 0 rfl
          have ow107 := ow106.pick 2 rfl
          have ow108 := ow107.pick 2 rfl
          unfold law10_FlowWays_l2 at h97
          obtain ⟨n110, hn109⟩ := loopO_some.1 h97
          refine WP.loopI2 (fun n l V' => ∃ (x105 : Int), l = [(1, .pointer (some ⟨b3, 0, none⟩)), (3, v41), (5, .bool x85), (18, v41), (19, .int .i64 (x38.length : Int)), (20, .int .i64 x70), (27, v98), (28, .int .i64 (x95.length : Int)), (29, .int .i64 x105)] ∧ V99.le V' ∧ Ow V' (.pt b3 (.cells 0 [.string p0.name, .int .i64 p0.params, .int .i64 p0.regs, v1]) :: .os RT.bool v41 x38 :: .os (RT.int .i64) v98 x95 :: Rs) ∧ itO (fun s => law10_FlowWays_l2b p0 x38 x70 x85 x95 s) n x105 = some q79) n110 _ ⟨0, rfl, .refl _, ow108, hn109⟩ (allCons (L 11 rfl rfl) (allCons (L 12 rfl rfl) (allCons (L 5 rfl rfl) (allCons (L 13 rfl rfl) (allCons (L 14 rfl rfl) (allCons (L 15 rfl rfl) (allCons (L 2 rfl rfl) (allCons (L 1 rfl rfl) (allCons (L 0 rfl rfl) allNil))))))))) ?_
          rintro _ _ V111 ⟨x105, rfl, le112, ow113, h117⟩
          obtain ⟨m114, q115, rfl, h118, e116⟩ := itS h117
          replace h118 : law10_FlowWays_l2b p0 x38 x70 x85 x95 x105 = some q115 := h118
          unfold law10_FlowWays_l2b at h118
          refine WP.usreg rfl ?_
          refine U.p rfl rfl (.inl rfl) (S.lss rfl (L 8 rfl rfl) (L 7 rfl rfl)) ?_
          refine U.done (Nat.le_of_ble_eq_true rfl) ?_
          refine WP.seq ?_
          refine WP.cond _ (L 0 rfl rfl) rfl (fun c119 => ?_) (fun c119 => ?_)
          · have h120 := ifT c119 h118
            refine WP.skip ?_
            refine sqN ?_
            refine WP.seq ?_
            refine WP.blk ?_
            refine WP.usreg rfl ?_
            obtain ⟨x121, hx122, h123⟩ := bindS h120
            obtain ⟨b124, o125, n126, c127, hv128⟩ := ow113.ospt (k := 2) rfl hx122
            obtain ⟨_, hv129, _⟩ := ow113.osel (k := 2) rfl hv128 hx122
            refine U.p rfl rfl (.inl rfl) (S.index rfl ((L 7 rfl rfl).trans hv129) (L 9 rfl rfl) Try.underlying31 ti3 (ix_ge hx122) (ix_lt hx122)) ?_
            obtain ⟨cs130, hv131, hlt132, hr133, hc134⟩ := ow113.osel (k := 2) rfl hv128 hx122
            obtain rfl : cs130 = [.int .i64 x121] := hr133
            refine U.k rfl rfl (.inl rfl) (S.load rfl (L 0 rfl rfl) Try.underlying3 rfl (hc134 0 _ rfl)) nd ?_
            refine U.p rfl rfl (.inl rfl) (S.assign rfl (L 0 rfl rfl)) ?_
            refine U.done (Nat.le_of_ble_eq_true rfl) ?_
            refine WP.usreg rfl ?_
            refine U.p rfl rfl (.inl rfl) (S.move rfl (L 0 rfl rfl)) ?_
            refine U.p rfl rfl (.inl rfl) (S.lss rfl (L 0 rfl rfl) K) ?_
            refine U.p rfl rfl (.inl rfl) (S.move rfl (L 0 rfl rfl)) ?_
            refine U.joinX 9 (fun e H => ∃ (u135 u136 u137 u138 u139 : Value), H = V111.H ∧ e = [(41, .bool ((decide (x121 < 0)) || (decide ((p0.code.length : Int) ≤ x121)))), (40, u135), (39, u136), (38, u137), (37, u138), (36, u139)]) ?_ ?_
            · rintro _ _ ⟨u135, u136, u137, u138, u139, rfl, rfl⟩
              refine U.p rfl rfl (.inl rfl) (S.move rfl (L 0 rfl rfl)) ?_
              obtain ⟨y143, hy144, h145⟩ := bindS h123
              refine U.joinX 19 (fun e H => ∃ (u146 u147 u148 u149 u150 u151 u152 u153 : Value), H = V111.H ∧ e = [(51, .bool y143), (50, u146), (49, u147), (48, u148), (47, u149), (46, u150), (45, u151), (44, u152), (43, u153)]) ?_ ?_
              · rintro _ _ ⟨u146, u147, u148, u149, u150, u151, u152, u153, rfl, rfl⟩
                refine U.done (Nat.le_of_ble_eq_true rfl) ?_
                refine WP.cond _ (L 0 rfl rfl) rfl (fun c157 => ?_) (fun c157 => ?_)
                · have h158 := ifT c157 h145
                  refine WP.usreg rfl ?_
                  refine U.p rfl rfl (.inl rfl) (S.assign rfl K) ?_
                  refine U.done (Nat.le_of_ble_eq_true rfl) ?_
                  refine WP.ret ?_
                  refine blkR (sqR (sqR (blkR (blkR (sqR (sqR (blkR (sqR ?_))))))))
                  have h159 := exitS h158 e116
                  have h160 := exitS h159 e80
                  refine fin.slot (.inr rfl) rfl (L 0 rfl rfl) ⟨V111, rfl, ((((((le5.trans le13).trans le29).trans le43).trans le76).trans le100).trans le112), ?_⟩
                  have ow161 := ow113.drop 0 rfl
                  have ow162 := ow161.drop 0 rfl
                  have ow163 := ow162.drop 0 rfl
                  have e164 := Option.some.inj h160
                  subst e164
                  exact ⟨rfl, ow163⟩
                · have h165 := ifF c157 h145
                  refine WP.skip ?_
                  refine blkN (sqN ?_)
                  refine WP.ureg rfl ?_
                  refine U.p rfl rfl (.inl rfl) (S.add rfl (L 31 rfl rfl) K) ?_
                  refine U.p rfl rfl (.inl rfl) (S.move rfl (L 0 rfl rfl)) ?_
                  refine U.done (Nat.le_of_ble_eq_true rfl) ?_
                  refine sqN ?_
                  exact ⟨_, V111, rfl, ⟨m114, Nat.lt_succ_self _, w64 (x105 + 1), rfl, le112, ow113, backS h165 e116⟩, (allCons (L 25 rfl rfl) (allCons (L 26 rfl rfl) (allCons (L 27 rfl rfl) (allCons (L 28 rfl rfl) (allCons (L 29 rfl rfl) (allCons (L 30 rfl rfl) (allCons (L 31 rfl rfl) (allCons (L 32 rfl rfl) (allCons (L 0 rfl rfl) allNil)))))))))⟩
              · intro kk
                refine bcase (b := (decide (x121 < 0)) || (decide ((p0.code.length : Int) ≤ x121))) (fun g166 => ?_) (fun g166 => ?_)
                · have h167 := ifT g166 hy144
                  refine U.x rfl rfl rfl rfl ((L 0 rfl rfl).trans (congrArg Value.bool g166)) (by decide) ?_
                  refine U.x rfl rfl rfl rfl ((L 1 rfl rfl).trans (congrArg Value.bool g166)) (by decide) ?_
                  refine U.z rfl rfl rfl rfl (L 0 rfl rfl) ?_
                  refine U.z rfl rfl rfl rfl (L 1 rfl rfl) ?_
                  refine U.z rfl rfl rfl rfl (L 2 rfl rfl) ?_
                  refine U.z rfl rfl rfl rfl (L 3 rfl rfl) ?_
                  refine U.z rfl rfl rfl rfl (L 4 rfl rfl) ?_
                  refine U.x rfl rfl rfl rfl ((L 7 rfl rfl).trans (congrArg Value.bool g166)) (by decide) ?_
                  refine U.p rfl rfl (.inl rfl) (S.pickT rfl ((L 8 rfl rfl).trans (congrArg Value.bool g166)) K) ?_
                  have e168 := Option.some.inj h167
                  subst e168
                  exact kk [(51, .bool true), (50, .tuple #[]), (49, .tuple #[]), (48, .tuple #[]), (47, .tuple #[]), (46, .tuple #[]), (45, .tuple #[]), (44, .tuple #[]), (43, .tuple #[])] _ ⟨.tuple #[], .tuple #[], .tuple #[], .tuple #[], .tuple #[], .tuple #[], .tuple #[], .tuple #[], rfl, rfl⟩
                · have h169 := ifF g166 hy144
                  refine U.p rfl rfl (.inr ⟨_, _, _, rfl, rfl, ((L 0 rfl rfl).trans (congrArg Value.bool g166))⟩) (S.move rfl (L 16 rfl rfl)) ?_
                  refine U.p rfl rfl (.inr ⟨_, _, _, rfl, rfl, ((L 1 rfl rfl).trans (congrArg Value.bool g166))⟩) (S.move rfl (L 0 rfl rfl)) ?_
                  obtain ⟨y170, hy171, h172⟩ := bindS h169
                  refine U.joinX 18 (fun e H => ∃ (u173 u174 u175 u176 u177 : Value), H = V111.H ∧ e = [(50, .bool y170), (49, u173), (48, u174), (47, u175), (46, u176), (45, u177)]) ?_ ?_
                  · rintro _ _ ⟨u173, u174, u175, u176, u177, rfl, rfl⟩
                    refine U.p rfl rfl (.inl rfl) (S.pickF rfl ((L 8 rfl rfl).trans (congrArg Value.bool g166)) (L 0 rfl rfl)) ?_
                    have e181 := Option.some.inj h172
                    subst e181
                    exact kk [(51, .bool y170), (50, .bool y170), (49, u173), (48, u174), (47, u175), (46, u176), (45, u177), (44, .bool x85), (43, .bool x85)] _ ⟨.bool y170, u173, u174, u175, u176, u177, .bool x85, .bool x85, rfl, rfl⟩
                  · intro kk
                    refine bcase (b := x85) (fun g182 => ?_) (fun g182 => ?_)
                    · have h183 := ifT g182 hy171
                      refine U.p rfl rfl (.inr ⟨_, _, _, rfl, rfl, ((L 0 rfl rfl).trans (congrArg Value.bool g182))⟩) (S.move rfl (L 17 rfl rfl)) ?_
                      refine U.p rfl rfl (.inr ⟨_, _, _, rfl, rfl, ((L 1 rfl rfl).trans (congrArg Value.bool g182))⟩) (S.move rfl (L 13 rfl rfl)) ?_
                      obtain ⟨x184, hx185, h186⟩ := bindS h183
                      obtain ⟨_, hv187, _⟩ := ow113.osel (k := 1) rfl hv55 hx185
                      refine U.p rfl rfl (.inr ⟨_, _, _, rfl, rfl, ((L 2 rfl rfl).trans (congrArg Value.bool g182))⟩) (S.index rfl ((L 1 rfl rfl).trans hv187) (L 0 rfl rfl) Try.underlying29 ti4 (ix_ge hx185) (ix_lt hx185)) ?_
                      obtain ⟨cs188, hv189, hlt190, hr191, hc192⟩ := ow113.osel (k := 1) rfl hv55 hx185
                      obtain rfl : cs188 = [.bool x184] := hr191
                      refine U.k rfl rfl (.inr ⟨_, _, _, rfl, rfl, ((L 3 rfl rfl).trans (congrArg Value.bool g182))⟩) (S.load rfl (L 0 rfl rfl) Try.underlying4 rfl (hc192 0 _ rfl)) nd ?_
                      refine U.p rfl rfl (.inr ⟨_, _, _, rfl, rfl, ((L 4 rfl rfl).trans (congrArg Value.bool g182))⟩) (S.not rfl (L 0 rfl rfl)) ?_
                      refine U.p rfl rfl (.inr ⟨_, _, _, rfl, rfl, ((L 7 rfl rfl).trans (congrArg Value.bool g166))⟩) (S.pickT rfl ((L 5 rfl rfl).trans (congrArg Value.bool g182)) (L 0 rfl rfl)) ?_
                      have e193 := Option.some.inj h186
                      subst e193
                      exact kk [(50, .bool (!x184)), (49, .bool (!x184)), (48, .bool x184), (47, .pointer (some ⟨b51, o52 + Int.toNat x121 * 1, none⟩)), (46, .int .i64 x121), (45, v41)] _ ⟨.bool (!x184), .bool x184, .pointer (some ⟨b51, o52 + Int.toNat x121 * 1, none⟩), .int .i64 x121, v41, rfl, rfl⟩
                    · have h194 := ifF g182 hy171
                      refine U.x rfl rfl rfl rfl ((L 0 rfl rfl).trans (congrArg Value.bool g182)) (by decide) ?_
                      refine U.x rfl rfl rfl rfl ((L 1 rfl rfl).trans (congrArg Value.bool g182)) (by decide) ?_
                      refine U.x rfl rfl rfl rfl ((L 2 rfl rfl).trans (congrArg Value.bool g182)) (by decide) ?_
                      refine U.x rfl rfl rfl rfl ((L 3 rfl rfl).trans (congrArg Value.bool g182)) (by decide) ?_
                      refine U.x rfl rfl rfl rfl ((L 4 rfl rfl).trans (congrArg Value.bool g182)) (by decide) ?_
                      refine U.p rfl rfl (.inr ⟨_, _, _, rfl, rfl, ((L 7 rfl rfl).trans (congrArg Value.bool g166))⟩) (S.pickF rfl ((L 5 rfl rfl).trans (congrArg Value.bool g182)) K) ?_
                      have e195 := Option.some.inj h194
                      subst e195
                      exact kk [(50, .bool false), (49, .tuple #[]), (48, .tuple #[]), (47, .tuple #[]), (46, .tuple #[]), (45, .tuple #[])] _ ⟨.tuple #[], .tuple #[], .tuple #[], .tuple #[], .tuple #[], rfl, rfl⟩
            · intro kk
              refine bcase (b := decide (x121 < 0)) (fun g196 => ?_) (fun g196 => ?_)
              · skip
                refine U.x rfl rfl rfl rfl ((L 0 rfl rfl).trans (congrArg Value.bool g196)) (by decide) ?_
                refine U.x rfl rfl rfl rfl ((L 1 rfl rfl).trans (congrArg Value.bool g196)) (by decide) ?_
                refine U.x rfl rfl rfl rfl ((L 2 rfl rfl).trans (congrArg Value.bool g196)) (by decide) ?_
                refine U.x rfl rfl rfl rfl ((L 3 rfl rfl).trans (congrArg Value.bool g196)) (by decide) ?_
                refine U.x rfl rfl rfl rfl ((L 4 rfl rfl).trans (congrArg Value.bool g196)) (by decide) ?_
                refine U.p rfl rfl (.inl rfl) (S.pickT rfl ((L 5 rfl rfl).trans (congrArg Value.bool g196)) K) ?_
                exact kk [(41, .bool true), (40, .tuple #[]), (39, .tuple #[]), (38, .tuple #[]), (37, .tuple #[]), (36, .tuple #[])] _ ⟨.tuple #[], .tuple #[], .tuple #[], .tuple #[], .tuple #[], rfl, (by rw [g196, Bool.true_or])⟩
              · skip
                refine U.p rfl rfl (.inr ⟨_, _, _, rfl, rfl, ((L 0 rfl rfl).trans (congrArg Value.bool g196))⟩) (S.move rfl (L 3 rfl rfl)) ?_
                refine U.p (v := .pointer (some ⟨b3, 3, none⟩)) rfl rfl (.inr ⟨_, _, _, rfl, rfl, ((L 1 rfl rfl).trans (congrArg Value.bool g196))⟩) (S.fieldAddr rfl (L 8 rfl rfl) Try.underlying24 rfl ti22 rfl rfl) ?_
                refine U.k rfl rfl (.inr ⟨_, _, _, rfl, rfl, ((L 2 rfl rfl).trans (congrArg Value.bool g196))⟩) (S.load rfl (L 0 rfl rfl) Try.underlying22 rfl ((ow113.own (k := 0) rfl).cell rfl)) nd ?_
                refine U.p rfl rfl (.inr ⟨_, _, _, rfl, rfl, ((L 3 rfl rfl).trans (congrArg Value.bool g196))⟩) (f94.1.len rfl (L 0 rfl rfl) Try.underlying22) ?_
                refine U.p rfl rfl (.inr ⟨_, _, _, rfl, rfl, ((L 4 rfl rfl).trans (congrArg Value.bool g196))⟩) (S.geq rfl (L 3 rfl rfl) (L 0 rfl rfl)) ?_
                refine U.p rfl rfl (.inl rfl) (S.pickF rfl ((L 5 rfl rfl).trans (congrArg Value.bool g196)) (L 0 rfl rfl)) ?_
                exact kk [(41, .bool (decide ((p0.code.length : Int) ≤ x121))), (40, .bool (decide ((p0.code.length : Int) ≤ x121))), (39, .int .i64 (p0.code.length : Int)), (38, v1), (37, .pointer (some ⟨b3, 3, none⟩)), (36, .int .i64 x121)] _ ⟨.bool (decide ((p0.code.length : Int) ≤ x121)), .int .i64 (p0.code.length : Int), v1, .pointer (some ⟨b3, 3, none⟩), .int .i64 x121, rfl, (by rw [g196, Bool.false_or])⟩
          · have h197 := ifF c119 h118
            refine WP.exit ?_
            refine sqE (sqE (blkE (blkN (sqN ?_))))
            have h198 := exitS h197 e116
            refine WP.ureg rfl ?_
            refine U.p rfl rfl (.inl rfl) (S.add rfl (L 6 rfl rfl) K) ?_
            refine U.p rfl rfl (.inl rfl) (S.move rfl (L 0 rfl rfl)) ?_
            refine U.done (Nat.le_of_ble_eq_true rfl) ?_
            refine sqN ?_
            have ow199 := ow113.drop 2 rfl
            exact ⟨_, V111, rfl, ⟨m78, Nat.lt_succ_self _, w64 (x70 + 1), rfl, ((le76.trans le100).trans le112), ow199, backS h198 e80⟩, (allCons (L 3 rfl rfl) (allCons (L 4 rfl rfl) (allCons (L 6 rfl rfl) (allCons (L 7 rfl rfl) (allCons (L 0 rfl rfl) allNil)))))⟩
        · have h200 := ifF c83 h82
          refine WP.exit ?_
          refine sqE (sqE (blkE (sqN ?_)))
          have h201 := exitS h200 e80
          refine WP.usreg rfl ?_
          refine U.p rfl rfl (.inl rfl) (S.assign rfl K) ?_
          refine U.done (Nat.le_of_ble_eq_true rfl) ?_
          refine WP.ret ?_
          refine fin.slot (.inr rfl) rfl (L 0 rfl rfl) ⟨V75, rfl, ((((le5.trans le13).trans le29).trans le43).trans le76), ?_⟩
          have ow202 := ow77.drop 0 rfl
          have ow203 := ow202.drop 0 rfl
          have e204 := Option.some.inj h201
          subst e204
          exact ⟨rfl, ow203⟩

end Go.Vm.G10
