/-
  What the functions compute is what the plain ones say, for all inputs at which those answer.
-/
import Derived.Test.YtllkfanfdbnogaaEWG10sb
set_option linter.unusedSimpArgs false
set_option linter.unusedVariables false
namespace Go.Vm.G10s
open Go Go.Proofs

set_option maxHeartbeats 4000000 in
set_option maxRecDepth 10000 in
theorem wk_slices_breakPatternsCmpFunc (V : Vw) (Rs : List At) (p0 : List Tflow_Span) (p1 : Int) (p2 : Int) (v1 : Value) (ow : Ow V (.os RT_Tflow_Span v1 p0 :: Rs)) (r : List Tflow_Span) (h : slices_breakPatternsCmpFunc p0 p1 p2 = some r) : ∃ v V', Cl Try.prog 0 43 #[v1, .int .i64 p1, .int .i64 p2, .func (.func 28) #[] #[]] V.H v V'.H ∧ V.le V' ∧ (Ow V' (.os RT_Tflow_Span v1 r :: Rs)) := by
  refine Ct.of (Nat.zero_le _) Try.func43 rfl (Nat.le_of_ble_eq_true rfl) ?_
  unfold slices_breakPatternsCmpFunc at h
  refine WP.usreg rfl ?_
  refine U.p rfl rfl (.inl rfl) (S.move rfl (L 2 rfl rfl)) ?_
  refine U.p rfl rfl (.inl rfl) (S.move rfl (L 2 rfl rfl)) ?_
  refine U.p rfl rfl (.inl rfl) (S.sub rfl (L 1 rfl rfl) (L 0 rfl rfl)) ?_
  refine U.p rfl rfl (.inl rfl) (S.assign rfl (L 0 rfl rfl)) ?_
  refine U.done (Nat.le_of_ble_eq_true rfl) ?_
  refine WP.usreg rfl ?_
  refine U.p rfl rfl (.inl rfl) (S.move rfl (L 0 rfl rfl)) ?_
  refine U.p rfl rfl (.inl rfl) (S.geq rfl (L 0 rfl rfl) K) ?_
  refine U.done (Nat.le_of_ble_eq_true rfl) ?_
  refine WP.cond _ (L 0 rfl rfl) rfl (fun c3 => ?_) (fun c3 => ?_)
  · have h4 := ifT c3 h
    refine WP.usreg rfl ?_
    refine U.p rfl rfl (.inl rfl) (S.move rfl (L 2 rfl rfl)) ?_
    refine U.p rfl rfl (.inl rfl) (S.conv rfl (L 0 rfl rfl) Try.underlying3 Try.underlying81) ?_
    refine O.alloc ow rfl rfl (.inl rfl) rfl ti81 rfl rfl nd (fun b5 V6 le7 ow8 => ?_)
    refine O.store (k := 0) (cs := [.int .u64 (IntKind.wrap .u64 (w64 (p2 - p1)))]) (c' := [.int .u64 (IntKind.wrap .u64 (w64 (p2 - p1)))]) ow8 rfl rfl rfl (.inl rfl) rfl (L 0 rfl rfl) (L 1 rfl rfl) ti81 (by simp [topV]) rfl rfl (Nat.le_of_ble_eq_true rfl) rfl rfl nd (fun V10 le11 ow12 => ?_)
    refine U.done (Nat.le_of_ble_eq_true rfl) ?_
    refine WP.usreg rfl ?_
    refine U.p rfl rfl (.inl rfl) (S.move rfl (L 5 rfl rfl)) ?_
    obtain ⟨x13, hx14, h15⟩ := bindS h4
    refine O.call (V := V10) rfl rfl (.inl rfl) rfl en52 (aC (L 0 rfl rfl) aN) (wk_slices_nextPowerOfTwo V10 _ (w64 (p2 - p1)) ow12 _ hx14) (fun _ _ _ _ => nd) (fun v16 V17 le18 hp19 => ?_)
    obtain ⟨rfl, ow20⟩ := hp19
    refine U.p rfl rfl (.inl rfl) (S.assign rfl (L 0 rfl rfl)) ?_
    refine U.done (Nat.le_of_ble_eq_true rfl) ?_
    refine WP.usreg rfl ?_
    refine U.p rfl rfl (.inl rfl) (S.move rfl (L 13 rfl rfl)) ?_
    refine U.p rfl rfl (.inl rfl) (S.move rfl (L 9 rfl rfl)) ?_
    obtain ⟨x21, hx22, h23⟩ := bindS h15
    refine U.p rfl rfl (.inl rfl) (S.quo hx22 rfl (L 0 rfl rfl) K) ?_
    refine U.p rfl rfl (.inl rfl) (S.mul rfl (L 0 rfl rfl) K) ?_
    refine U.p rfl rfl (.inl rfl) (S.add rfl (L 3 rfl rfl) (L 0 rfl rfl)) ?_
    refine U.p rfl rfl (.inl rfl) (S.sub rfl (L 0 rfl rfl) K) ?_
    refine U.p rfl rfl (.inl rfl) (S.assign rfl (L 0 rfl rfl)) ?_
    refine U.done (Nat.le_of_ble_eq_true rfl) ?_
    refine WP.blk ?_
    have ow27 := ow20.pick 0 rfl
    have ow28 := ow27.pick 1 rfl
    unfold slices_breakPatternsCmpFunc_l1 at h23
    obtain ⟨n30, hn29⟩ := loopO_some.1 h23
    refine WP.loopI2 (fun n l V' => ∃ (xs24 : List Tflow_Span) (x25 : Int) (x26 : Int), l = [(0, v1), (1, .int .i64 p1), (8, .int .i64 (w64 (p2 - p1))), (9, .pointer (some ⟨b5, 0, none⟩)), (10, .int .u64 x13), (11, .int .i64 x26)] ∧ V17.le V' ∧ Ow V' (.os RT_Tflow_Span v1 xs24 :: .pt b5 (.cells 1 [.int .u64 x25]) :: Rs) ∧ itO (fun s => slices_breakPatternsCmpFunc_l1b p1 p2 x13 s.1 s.2.1 s.2.2) n (xs24, x25, x26) = some r) n30 _ ⟨p0, IntKind.wrap .u64 (w64 (p2 - p1)), w64 ((w64 (p1 + (w64 (x21 * 2)))) - 1), rfl, .refl _, ow28, hn29⟩ (allCons (L 19 rfl rfl) (allCons (L 20 rfl rfl) (allCons (L 15 rfl rfl) (allCons (L 10 rfl rfl) (allCons (L 7 rfl rfl) (allCons (L 0 rfl rfl) allNil)))))) ?_
    rintro _ _ V31 ⟨xs24, x25, x26, rfl, le32, ow33, h37⟩
    obtain ⟨m34, q35, rfl, h38, e36⟩ := itS h37
    replace h38 : slices_breakPatternsCmpFunc_l1b p1 p2 x13 xs24 x25 x26 = some q35 := h38
    unfold slices_breakPatternsCmpFunc_l1b at h38
    refine WP.seq ?_
    refine WP.usreg rfl ?_
    refine U.p rfl rfl (.inl rfl) (S.move rfl (L 5 rfl rfl)) ?_
    refine U.p rfl rfl (.inl rfl) (S.move rfl (L 2 rfl rfl)) ?_
    refine U.p rfl rfl (.inl rfl) (S.move rfl (L 4 rfl rfl)) ?_
    obtain ⟨x39, hx40, h41⟩ := bindS h38
    refine U.p rfl rfl (.inl rfl) (S.quo hx40 rfl (L 0 rfl rfl) K) ?_
    refine U.p rfl rfl (.inl rfl) (S.mul rfl (L 0 rfl rfl) K) ?_
    refine U.p rfl rfl (.inl rfl) (S.add rfl (L 3 rfl rfl) (L 0 rfl rfl)) ?_
    refine U.p rfl rfl (.inl rfl) (S.add rfl (L 0 rfl rfl) K) ?_
    refine U.p rfl rfl (.inl rfl) (S.leq rfl (L 6 rfl rfl) (L 0 rfl rfl)) ?_
    refine U.done (Nat.le_of_ble_eq_true rfl) ?_
    refine WP.cond _ (L 0 rfl rfl) rfl (fun c42 => ?_) (fun c42 => ?_)
    · have h43 := ifT c42 h41
      refine WP.skip ?_
      refine sqN ?_
      refine WP.seq ?_
      refine WP.blk ?_
      refine WP.usreg rfl ?_
      have ow44 := ow33.pick 1 rfl
      obtain ⟨x45, hx46, h47⟩ := bindS h43
      refine O.call (V := V31) rfl rfl (.inl rfl) rfl en53 (aC (L 11 rfl rfl) aN) (wk_slices_xorshift_Next V31 _ x25 b5 1 ow44 _ hx46) (fun _ _ _ _ => nd) (fun v48 V49 le50 hp51 => ?_)
      obtain ⟨rfl, ow52⟩ := hp51
      refine U.p rfl rfl (.inl rfl) (S.move rfl (L 13 rfl rfl)) ?_
      refine U.p rfl rfl (.inl rfl) (S.sub rfl (L 0 rfl rfl) K) ?_
      refine U.p rfl rfl (.inl rfl) (S.andI rfl (L 2 rfl rfl) (L 0 rfl rfl)) ?_
      refine U.p rfl rfl (.inl rfl) (S.conv rfl (L 0 rfl rfl) Try.underlying65 Try.underlying3) ?_
      refine U.p rfl rfl (.inl rfl) (S.assign rfl (L 0 rfl rfl)) ?_
      refine U.done (Nat.le_of_ble_eq_true rfl) ?_
      refine WP.seqI (fun l V' => ∃ (x53 : Int), l = [(0, v1), (1, .int .i64 p1), (8, .int .i64 (w64 (p2 - p1))), (9, .pointer (some ⟨b5, 0, none⟩)), (10, .int .u64 x13), (11, .int .i64 x26), (12, .int .i64 x53)] ∧ V49.le V' ∧ Ow V' (.os RT_Tflow_Span v1 xs24 :: .pt b5 (.cells 1 [.int .u64 x45.2]) :: Rs) ∧ slices_breakPatternsCmpFunc_k1 p1 xs24 x26 x45 x53 = some q35) ?_ ?_
      · rintro _ V54 ⟨x53, rfl, le55, ow56, h57⟩
        unfold slices_breakPatternsCmpFunc_k1 at h57
        refine WP.udreg rfl rfl rfl ?_
        refine U.p rfl rfl (.inl rfl) (S.move rfl (L 0 rfl rfl)) ?_
        refine U.p rfl rfl (.inl rfl) (S.move rfl (L 6 rfl rfl)) ?_
        refine U.p rfl rfl (.inl rfl) (S.move rfl (L 2 rfl rfl)) ?_
        refine U.p rfl rfl (.inl rfl) (S.move rfl (L 4 rfl rfl)) ?_
        refine U.p rfl rfl (.inl rfl) (S.move rfl (L 10 rfl rfl)) ?_
        refine U.p rfl rfl (.inl rfl) (S.add rfl (L 1 rfl rfl) (L 0 rfl rfl)) ?_
        refine U.p rfl rfl (.inl rfl) (S.move rfl (L 6 rfl rfl)) ?_
        refine U.p rfl rfl (.inl rfl) (S.move rfl (L 8 rfl rfl)) ?_
        refine U.p rfl rfl (.inl rfl) (S.move rfl (L 14 rfl rfl)) ?_
        refine U.p rfl rfl (.inl rfl) (S.add rfl (L 1 rfl rfl) (L 0 rfl rfl)) ?_
        obtain ⟨x58, hx59, h60⟩ := bindS h57
        obtain ⟨b61, o62, n63, c64, hv65⟩ := ow56.ospt (k := 0) rfl hx59
        obtain ⟨_, hv66, _⟩ := ow56.osel (k := 0) rfl hv65 hx59
        refine U.p rfl rfl (.inl rfl) (S.index rfl ((L 3 rfl rfl).trans hv66) (L 0 rfl rfl) Try.underlying39 ti44 (ix_ge hx59) (ix_lt hx59)) ?_
        obtain ⟨cs67, hv68, hlt69, hr70, hc71⟩ := ow56.osel (k := 0) rfl hv65 hx59
        obtain rfl : cs67 = [.int .i64 x58.reg, .int .i64 x58.from_, .int .i64 x58.to_] := hr70
        refine U.k rfl rfl (.inl rfl) (S.loadN (cs := [.int .i64 x58.reg, .int .i64 x58.from_, .int .i64 x58.to_]) rfl (L 0 rfl rfl) Try.underlying44 rfl ti44 rfl hc71) (fun _ => (okH.nil (fun r h => by cases h; exact hlt69))) ?_
        refine U.p rfl rfl (.inl rfl) (S.move rfl (L 12 rfl rfl)) ?_
        refine U.p rfl rfl (.inl rfl) (S.move rfl (L 18 rfl rfl)) ?_
        obtain ⟨x72, hx73, h74⟩ := bindS h60
        obtain ⟨_, hv75, _⟩ := ow56.osel (k := 0) rfl hv65 hx73
        refine U.p rfl rfl (.inl rfl) (S.index rfl ((L 1 rfl rfl).trans hv75) (L 0 rfl rfl) Try.underlying39 ti44 (ix_ge hx73) (ix_lt hx73)) ?_
        obtain ⟨cs76, hv77, hlt78, hr79, hc80⟩ := ow56.osel (k := 0) rfl hv65 hx73
        obtain rfl : cs76 = [.int .i64 x72.reg, .int .i64 x72.from_, .int .i64 x72.to_] := hr79
        refine U.k rfl rfl (.inl rfl) (S.loadN (cs := [.int .i64 x72.reg, .int .i64 x72.from_, .int .i64 x72.to_]) rfl (L 0 rfl rfl) Try.underlying44 rfl ti44 rfl hc80) (fun _ => (okH.cons trivial (okH.nil (fun r h => by cases h; exact hlt78)))) ?_
        obtain ⟨x81, hx82, h83⟩ := bindS h74
        obtain ⟨_, hv84, _⟩ := ow56.osel (k := 0) rfl hv65 hx82
        refine U.p rfl rfl (.inl rfl) (S.index rfl ((L 15 rfl rfl).trans hv84) (L 14 rfl rfl) Try.underlying39 ti44 (ix_ge hx82) (ix_lt hx82)) ?_
        obtain ⟨cs85, hv86, hlt87, hr88, hc89⟩ := ow56.osel (k := 0) rfl hv65 hx82
        obtain rfl : cs85 = [.int .i64 x81.reg, .int .i64 x81.from_, .int .i64 x81.to_] := hr88
        refine O.storeE (k := 0) (R := RT_Tflow_Span) (j := 0) (y := x58) (cs := [.int .i64 x58.reg, .int .i64 x58.from_, .int .i64 x58.to_]) ow56 rfl hv86 rfl rfl (.inl rfl) rfl (L 0 rfl rfl) (L 5 rfl rfl) ti44 hx82 (by simp [topV]) rfl rfl rfl (full rfl) (fun H1 hs => (fun _ => (okH.cons (Or.inl rfl) (okH.cons (Or.inl rfl) (okH.nil (fun r h => nomatch h)))))) (fun V90 le91 ow92 => ?_)
        obtain ⟨x93, hx94, h95⟩ := bindS h83
        obtain ⟨_, hv96, _⟩ := ow92.osel (k := 0) rfl hv65 hx94
        refine U.p rfl rfl (.inl rfl) (S.index rfl ((L 14 rfl rfl).trans hv96) (L 11 rfl rfl) Try.underlying39 ti44 (ix_ge hx94) (ix_lt hx94)) ?_
        obtain ⟨cs97, hv98, hlt99, hr100, hc101⟩ := ow92.osel (k := 0) rfl hv65 hx94
        obtain rfl : cs97 = [.int .i64 x93.reg, .int .i64 x93.from_, .int .i64 x93.to_] := hr100
        refine O.storeE (k := 0) (R := RT_Tflow_Span) (j := 0) (y := x72) (cs := [.int .i64 x72.reg, .int .i64 x72.from_, .int .i64 x72.to_]) ow92 rfl hv98 rfl rfl (.inl rfl) rfl (L 0 rfl rfl) (L 2 rfl rfl) ti44 hx94 (by simp [topV]) rfl rfl rfl (full rfl) (fun H1 hs => (fun _ => (okH.cons rfl (okH.cons (Or.inl rfl) (okH.cons (Or.inl rfl) (okH.nil (fun r h => nomatch h))))))) (fun V102 le103 ow104 => ?_)
        refine U.done (Nat.le_of_ble_eq_true rfl) ?_
        refine blkN (sqN ?_)
        refine WP.ureg rfl ?_
        refine U.p rfl rfl (.inl rfl) (S.move rfl (L 23 rfl rfl)) ?_
        refine U.p rfl rfl (.inl rfl) (S.add rfl (L 0 rfl rfl) K) ?_
        refine U.p rfl rfl (.inl rfl) (S.assign rfl (L 0 rfl rfl)) ?_
        refine U.done (Nat.le_of_ble_eq_true rfl) ?_
        refine sqN ?_
        exact ⟨_, V102, rfl, ⟨m34, Nat.lt_succ_self _, (xs24.set (Int.toNat x26) x58).set (Int.toNat (w64 (p1 + x53))) x72, x45.2, w64 (x26 + 1), rfl, ((((le32.trans le50).trans le55).trans le91).trans le103), ow104, backS h95 e36⟩, (allCons (L 21 rfl rfl) (allCons (L 22 rfl rfl) (allCons (L 23 rfl rfl) (allCons (L 24 rfl rfl) (allCons (L 25 rfl rfl) (allCons (L 0 rfl rfl) allNil))))))⟩
      · skip
        refine WP.usreg rfl ?_
        refine U.p rfl rfl (.inl rfl) (S.move rfl (L 0 rfl rfl)) ?_
        refine U.p rfl rfl (.inl rfl) (S.move rfl (L 17 rfl rfl)) ?_
        refine U.p rfl rfl (.inl rfl) (S.geq rfl (L 1 rfl rfl) (L 0 rfl rfl)) ?_
        refine U.done (Nat.le_of_ble_eq_true rfl) ?_
        refine WP.cond _ (L 0 rfl rfl) rfl (fun c105 => ?_) (fun c105 => ?_)
        · have h106 := ifT c105 h47
          refine WP.ureg rfl ?_
          refine U.p rfl rfl (.inl rfl) (S.move rfl (L 3 rfl rfl)) ?_
          refine U.p rfl rfl (.inl rfl) (S.move rfl (L 20 rfl rfl)) ?_
          refine U.p rfl rfl (.inl rfl) (S.sub rfl (L 1 rfl rfl) (L 0 rfl rfl)) ?_
          refine U.p rfl rfl (.inl rfl) (S.assign rfl (L 0 rfl rfl)) ?_
          refine U.done (Nat.le_of_ble_eq_true rfl) ?_
          refine sqN ?_
          have ow107 := ow52.pick 0 rfl
          have ow108 := ow107.pick 1 rfl
          exact ⟨_, V49, rfl, ⟨w64 ((w64 (andB .u64 x45.1 (IntKind.wrap .u64 (x13 - 1)))) - (w64 (p2 - p1))), rfl, (.refl _), ow108, h106⟩, (allCons (L 21 rfl rfl) (allCons (L 22 rfl rfl) (allCons (L 23 rfl rfl) (allCons (L 24 rfl rfl) (allCons (L 25 rfl rfl) (allCons (L 26 rfl rfl) (allCons (L 0 rfl rfl) allNil)))))))⟩
        · have h109 := ifF c105 h47
          refine WP.skip ?_
          refine sqN ?_
          have ow110 := ow52.pick 0 rfl
          have ow111 := ow110.pick 1 rfl
          exact ⟨_, V49, rfl, ⟨w64 (andB .u64 x45.1 (IntKind.wrap .u64 (x13 - 1))), rfl, (.refl _), ow111, h109⟩, (allCons (L 17 rfl rfl) (allCons (L 18 rfl rfl) (allCons (L 19 rfl rfl) (allCons (L 20 rfl rfl) (allCons (L 21 rfl rfl) (allCons (L 22 rfl rfl) (allCons (L 3 rfl rfl) allNil)))))))⟩
    · have h112 := ifF c42 h41
      refine WP.exit ?_
      refine sqE (sqE (blkE ?_))
      have h113 := exitS h112 e36
      refine fin.slots' (.inl rfl) fsN rfl ⟨V31, rfl, (((le7.trans le11).trans le18).trans le32), ?_⟩
      have ow114 := ow33.drop 1 rfl
      have e115 := Option.some.inj h113
      subst e115
      exact ow114
  · have h116 := ifF c3 h
    refine WP.skip ?_
    refine fin.slots' (.inl rfl) fsN rfl ⟨V, rfl, (.refl _), ?_⟩
    have e117 := Option.some.inj h116
    subst e117
    exact ow

set_option maxHeartbeats 4000000 in
set_option maxRecDepth 10000 in
theorem wks_slices_pdqsortCmpFunc (rec_ : (List Tflow_Span) → Int → Int → Int → Option (List Tflow_Span)) (IH : ∀ (V : Vw) (Rs : List At) (p0 : List Tflow_Span) (p1 : Int) (p2 : Int) (p3 : Int) (v1 : Value) (ow : Ow V (.os RT_Tflow_Span v1 p0 :: Rs)) (r : List Tflow_Span) (h : rec_ p0 p1 p2 p3 = some r), ∃ v V', Cl Try.prog 0 37 #[v1, .int .i64 p1, .int .i64 p2, .int .i64 p3, .func (.func 28) #[] #[]] V.H v V'.H ∧ V.le V' ∧ (Ow V' (.os RT_Tflow_Span v1 r :: Rs))) (V : Vw) (Rs : List At) (p0 : List Tflow_Span) (p1 : Int) (p2 : Int) (p3 : Int) (v1 : Value) (ow : Ow V (.os RT_Tflow_Span v1 p0 :: Rs)) (r : List Tflow_Span) (h : slices_pdqsortCmpFunc_F rec_ p0 p1 p2 p3 = some r) : ∃ v V', Cl Try.prog 0 37 #[v1, .int .i64 p1, .int .i64 p2, .int .i64 p3, .func (.func 28) #[] #[]] V.H v V'.H ∧ V.le V' ∧ (Ow V' (.os RT_Tflow_Span v1 r :: Rs)) := by
  refine Ct.of (Nat.zero_le _) Try.func37 rfl (Nat.le_of_ble_eq_true rfl) ?_
  unfold slices_pdqsortCmpFunc_F at h
  refine WP.usreg rfl ?_
  refine U.p rfl rfl (.inl rfl) (S.assign rfl K) ?_
  refine U.done (Nat.le_of_ble_eq_true rfl) ?_
  refine WP.usreg rfl ?_
  refine U.p rfl rfl (.inl rfl) (S.assign rfl K) ?_
  refine U.done (Nat.le_of_ble_eq_true rfl) ?_
  refine WP.blk ?_
  unfold slices_pdqsortCmpFunc_l1 at h
  obtain ⟨n10, hn9⟩ := loopO_some.1 h
  refine WP.loopI2 (fun n l V' => ∃ (xs3 : List Tflow_Span) (x4 : Int) (x5 : Int) (x6 : Int) (x7 : Bool) (x8 : Bool), l = [(0, v1), (1, .int .i64 x4), (2, .int .i64 x5), (3, .int .i64 x6), (4, .func (.func 28) #[] #[]), (10, .bool x7), (11, .bool x8)] ∧ V.le V' ∧ Ow V' (.os RT_Tflow_Span v1 xs3 :: Rs) ∧ itO (fun s => slices_pdqsortCmpFunc_l1b rec_ s.1 s.2.1 s.2.2.1 s.2.2.2.1 s.2.2.2.2.1 s.2.2.2.2.2) n (xs3, x4, x5, x6, x7, x8) = some r) n10 _ ⟨p0, p1, p2, p3, true, true, rfl, .refl _, ow, hn9⟩ (allCons (L 2 rfl rfl) (allCons (L 3 rfl rfl) (allCons (L 4 rfl rfl) (allCons (L 5 rfl rfl) (allCons (L 6 rfl rfl) (allCons (L 1 rfl rfl) (allCons (L 0 rfl rfl) allNil))))))) ?_
  rintro _ _ V11 ⟨xs3, x4, x5, x6, x7, x8, rfl, le12, ow13, h17⟩
  obtain ⟨m14, q15, rfl, h18, e16⟩ := itS h17
  replace h18 : slices_pdqsortCmpFunc_l1b rec_ xs3 x4 x5 x6 x7 x8 = some q15 := h18
  unfold slices_pdqsortCmpFunc_l1b at h18
  refine WP.blk ?_
  refine WP.usreg rfl ?_
  refine U.p rfl rfl (.inl rfl) (S.move rfl (L 2 rfl rfl)) ?_
  refine U.p rfl rfl (.inl rfl) (S.move rfl (L 2 rfl rfl)) ?_
  refine U.p rfl rfl (.inl rfl) (S.sub rfl (L 1 rfl rfl) (L 0 rfl rfl)) ?_
  refine U.p rfl rfl (.inl rfl) (S.assign rfl (L 0 rfl rfl)) ?_
  refine U.done (Nat.le_of_ble_eq_true rfl) ?_
  refine WP.seq ?_
  refine WP.usreg rfl ?_
  refine U.p rfl rfl (.inl rfl) (S.move rfl (L 0 rfl rfl)) ?_
  refine U.p rfl rfl (.inl rfl) (S.leq rfl (L 0 rfl rfl) K) ?_
  refine U.done (Nat.le_of_ble_eq_true rfl) ?_
  refine WP.cond _ (L 0 rfl rfl) rfl (fun c19 => ?_) (fun c19 => ?_)
  · have h20 := ifT c19 h18
    refine WP.usreg rfl ?_
    refine U.p rfl rfl (.inl rfl) (S.move rfl (L 6 rfl rfl)) ?_
    refine U.p rfl rfl (.inl rfl) (S.move rfl (L 8 rfl rfl)) ?_
    refine U.p rfl rfl (.inl rfl) (S.move rfl (L 10 rfl rfl)) ?_
    refine U.p rfl rfl (.inl rfl) (S.move rfl (L 13 rfl rfl)) ?_
    obtain ⟨x21, hx22, h23⟩ := bindS h20
    refine O.call (V := V11) rfl rfl (.inl rfl) rfl en41 (aC (L 3 rfl rfl) (aC (L 2 rfl rfl) (aC (L 1 rfl rfl) (aC (L 0 rfl rfl) aN)))) (wk_slices_insertionSortCmpFunc V11 _ xs3 x4 x5 v1 ow13 _ hx22) (fun _ _ _ _ => nd) (fun v24 V25 le26 hp27 => ?_)
    have ow28 := hp27
    refine U.done (Nat.le_of_ble_eq_true rfl) ?_
    refine WP.ret ?_
    refine sqR (blkR (sqR (blkR ?_)))
    have h29 := exitS h23 e16
    refine fin.slots' (.inr rfl) fsN rfl ⟨V25, rfl, (le12.trans le26), ?_⟩
    have e30 := Option.some.inj h29
    subst e30
    exact ow28
  · have h31 := ifF c19 h18
    refine WP.skip ?_
    refine sqN ?_
    refine WP.seq ?_
    refine WP.usreg rfl ?_
    refine U.p rfl rfl (.inl rfl) (S.move rfl (L 9 rfl rfl)) ?_
    refine U.p rfl rfl (.inl rfl) (S.eqlI rfl (L 0 rfl rfl) K) ?_
    refine U.done (Nat.le_of_ble_eq_true rfl) ?_
    refine WP.cond _ (L 0 rfl rfl) rfl (fun c32 => ?_) (fun c32 => ?_)
    · have h33 := ifT c32 h31
      refine WP.usreg rfl ?_
      refine U.p rfl rfl (.inl rfl) (S.move rfl (L 8 rfl rfl)) ?_
      refine U.p rfl rfl (.inl rfl) (S.move rfl (L 10 rfl rfl)) ?_
      refine U.p rfl rfl (.inl rfl) (S.move rfl (L 12 rfl rfl)) ?_
      refine U.p rfl rfl (.inl rfl) (S.move rfl (L 15 rfl rfl)) ?_
      obtain ⟨x34, hx35, h36⟩ := bindS h33
      refine O.call (V := V11) rfl rfl (.inl rfl) rfl en42 (aC (L 3 rfl rfl) (aC (L 2 rfl rfl) (aC (L 1 rfl rfl) (aC (L 0 rfl rfl) aN)))) (wk_slices_heapSortCmpFunc V11 _ xs3 x4 x5 v1 ow13 _ hx35) (fun _ _ _ _ => nd) (fun v37 V38 le39 hp40 => ?_)
      have ow41 := hp40
      refine U.done (Nat.le_of_ble_eq_true rfl) ?_
      refine WP.ret ?_
      refine sqR (blkR (sqR (blkR ?_)))
      have h42 := exitS h36 e16
      refine fin.slots' (.inr rfl) fsN rfl ⟨V38, rfl, (le12.trans le39), ?_⟩
      have e43 := Option.some.inj h42
      subst e43
      exact ow41
    · have h44 := ifF c32 h31
      refine WP.skip ?_
      refine sqN ?_
      refine WP.seqI (fun l V' => ∃ (xs45 : List Tflow_Span) (x46 : Int), l = [(0, v1), (1, .int .i64 x4), (2, .int .i64 x5), (3, .int .i64 x46), (4, .func (.func 28) #[] #[]), (10, .bool x7), (11, .bool x8), (12, .int .i64 (w64 (x5 - x4)))] ∧ V11.le V' ∧ Ow V' (.os RT_Tflow_Span v1 xs45 :: Rs) ∧ slices_pdqsortCmpFunc_k1 rec_ x4 x5 x7 x8 xs45 x46 = some q15) ?_ ?_
      · rintro _ V47 ⟨xs45, x46, rfl, le48, ow49, h50⟩
        unfold slices_pdqsortCmpFunc_k1 at h50
        refine WP.usreg rfl ?_
        refine U.p rfl rfl (.inl rfl) (S.move rfl (L 0 rfl rfl)) ?_
        refine U.p rfl rfl (.inl rfl) (S.move rfl (L 2 rfl rfl)) ?_
        refine U.p rfl rfl (.inl rfl) (S.move rfl (L 4 rfl rfl)) ?_
        refine U.p rfl rfl (.inl rfl) (S.move rfl (L 7 rfl rfl)) ?_
        obtain ⟨x51, hx52, h53⟩ := bindS h50
        refine O.call (V := V47) rfl rfl (.inl rfl) rfl en44 (aC (L 3 rfl rfl) (aC (L 2 rfl rfl) (aC (L 1 rfl rfl) (aC (L 0 rfl rfl) aN)))) (wk_slices_choosePivotCmpFunc V47 _ xs45 x4 x5 v1 ow49 _ hx52) (fun _ _ _ _ => nd) (fun v54 V55 le56 hp57 => ?_)
        obtain ⟨rfl, ow58⟩ := hp57
        refine U.p rfl rfl (.inl rfl) (S.move rfl (L 0 rfl rfl)) ?_
        refine U.p rfl rfl (.inl rfl) (S.extract rfl (L 0 rfl rfl) rfl (Nat.le_of_ble_eq_true rfl)) ?_
        refine U.p rfl rfl (.inl rfl) (S.extract rfl (L 1 rfl rfl) rfl (Nat.le_of_ble_eq_true rfl)) ?_
        refine U.p rfl rfl (.inl rfl) (S.assign rfl (L 1 rfl rfl)) ?_
        refine U.p rfl rfl (.inl rfl) (S.assign rfl (L 1 rfl rfl)) ?_
        refine U.done (Nat.le_of_ble_eq_true rfl) ?_
        refine WP.seqI (fun l V' => ∃ (xs59 : List Tflow_Span) (x60 : Int) (x61 : Int), l = [(0, v1), (1, .int .i64 x4), (2, .int .i64 x5), (3, .int .i64 x46), (4, .func (.func 28) #[] #[]), (10, .bool x7), (11, .bool x8), (12, .int .i64 (w64 (x5 - x4))), (13, .int .i64 x60), (14, .int .i64 x61)] ∧ V55.le V' ∧ Ow V' (.os RT_Tflow_Span v1 xs59 :: Rs) ∧ slices_pdqsortCmpFunc_k2 rec_ x4 x5 x7 x8 x46 xs59 x60 x61 = some q15) ?_ ?_
        · rintro _ V62 ⟨xs59, x60, x61, rfl, le63, ow64, h65⟩
          unfold slices_pdqsortCmpFunc_k2 at h65
          refine WP.seqI (fun l V' => ∃ (xs66 : List Tflow_Span), l = [(0, v1), (1, .int .i64 x4), (2, .int .i64 x5), (3, .int .i64 x46), (4, .func (.func 28) #[] #[]), (10, .bool x7), (11, .bool x8), (12, .int .i64 (w64 (x5 - x4))), (13, .int .i64 x60)] ∧ V62.le V' ∧ Ow V' (.os RT_Tflow_Span v1 xs66 :: Rs) ∧ slices_pdqsortCmpFunc_k3 rec_ x4 x5 x7 x8 x46 x60 xs66 = some q15) ?_ ?_
          · rintro _ V67 ⟨xs66, rfl, le68, ow69, h70⟩
            unfold slices_pdqsortCmpFunc_k3 at h70
            refine WP.seq ?_
            refine WP.seqI (fun l V' => ∃ (x71 : Bool), l = [(0, v1), (1, .int .i64 x4), (2, .int .i64 x5), (3, .int .i64 x46), (4, .func (.func 28) #[] #[]), (10, .bool x7), (11, .bool x8), (12, .int .i64 (w64 (x5 - x4))), (13, .int .i64 x60), (97, .bool x71)] ∧ V67.le V' ∧ Ow V' (.os RT_Tflow_Span v1 xs66 :: Rs) ∧ slices_pdqsortCmpFunc_k4 rec_ x4 x5 x7 x8 x46 x60 xs66 x71 = some q15) ?_ ?_
            · rintro _ V72 ⟨x71, rfl, le73, ow74, h75⟩
              unfold slices_pdqsortCmpFunc_k4 at h75
              refine WP.cond _ (L 9 rfl rfl) rfl (fun c76 => ?_) (fun c76 => ?_)
              · have h77 := ifT c76 h75
                refine WP.usreg rfl ?_
                refine U.p rfl rfl (.inl rfl) (S.move rfl (L 0 rfl rfl)) ?_
                refine U.p rfl rfl (.inl rfl) (S.move rfl (L 2 rfl rfl)) ?_
                refine U.p rfl rfl (.inl rfl) (S.move rfl (L 4 rfl rfl)) ?_
                refine U.p rfl rfl (.inl rfl) (S.move rfl (L 11 rfl rfl)) ?_
                refine U.p rfl rfl (.inl rfl) (S.move rfl (L 8 rfl rfl)) ?_
                obtain ⟨x78, hx79, h80⟩ := bindS h77
                refine O.call (V := V72) rfl rfl (.inl rfl) rfl en47 (aC (L 4 rfl rfl) (aC (L 3 rfl rfl) (aC (L 2 rfl rfl) (aC (L 1 rfl rfl) (aC (L 0 rfl rfl) aN))))) (wk_slices_partitionEqualCmpFunc V72 _ xs66 x4 x5 x60 v1 ow74 _ hx79) (fun _ _ _ _ => nd) (fun v81 V82 le83 hp84 => ?_)
                obtain ⟨rfl, ow85⟩ := hp84
                refine U.p rfl rfl (.inl rfl) (S.assign rfl (L 0 rfl rfl)) ?_
                refine U.done (Nat.le_of_ble_eq_true rfl) ?_
                refine WP.usreg rfl ?_
                refine U.p rfl rfl (.inl rfl) (S.move rfl (L 0 rfl rfl)) ?_
                refine U.p rfl rfl (.inl rfl) (S.assign rfl (L 0 rfl rfl)) ?_
                refine U.done (Nat.le_of_ble_eq_true rfl) ?_
                refine WP.exit ?_
                refine sqE (blkE (sqN ?_))
                exact ⟨_, V82, rfl, ⟨m14, Nat.lt_succ_self _, x78.2, x78.1, x5, x46, x7, x8, rfl, ((((((le12.trans le48).trans le56).trans le63).trans le68).trans le73).trans le83), ow85, backS h80 e16⟩, (allCons (L 9 rfl rfl) (allCons (L 0 rfl rfl) (allCons (L 11 rfl rfl) (allCons (L 12 rfl rfl) (allCons (L 13 rfl rfl) (allCons (L 14 rfl rfl) (allCons (L 15 rfl rfl) allNil)))))))⟩
              · have h86 := ifF c76 h75
                refine WP.skip ?_
                refine sqN ?_
                refine WP.usreg rfl ?_
                refine U.p rfl rfl (.inl rfl) (S.move rfl (L 0 rfl rfl)) ?_
                refine U.p rfl rfl (.inl rfl) (S.move rfl (L 2 rfl rfl)) ?_
                refine U.p rfl rfl (.inl rfl) (S.move rfl (L 4 rfl rfl)) ?_
                refine U.p rfl rfl (.inl rfl) (S.move rfl (L 11 rfl rfl)) ?_
                refine U.p rfl rfl (.inl rfl) (S.move rfl (L 8 rfl rfl)) ?_
                obtain ⟨x87, hx88, h89⟩ := bindS h86
                refine O.call (V := V72) rfl rfl (.inl rfl) rfl en48 (aC (L 4 rfl rfl) (aC (L 3 rfl rfl) (aC (L 2 rfl rfl) (aC (L 1 rfl rfl) (aC (L 0 rfl rfl) aN))))) (wk_slices_partitionCmpFunc V72 _ xs66 x4 x5 x60 v1 ow74 _ hx88) (fun _ _ _ _ => nd) (fun v90 V91 le92 hp93 => ?_)
                obtain ⟨rfl, ow94⟩ := hp93
                refine U.p rfl rfl (.inl rfl) (S.move rfl (L 0 rfl rfl)) ?_
                refine U.p rfl rfl (.inl rfl) (S.extract rfl (L 0 rfl rfl) rfl (Nat.le_of_ble_eq_true rfl)) ?_
                refine U.p rfl rfl (.inl rfl) (S.extract rfl (L 1 rfl rfl) rfl (Nat.le_of_ble_eq_true rfl)) ?_
                refine U.p rfl rfl (.inl rfl) (S.assign rfl (L 1 rfl rfl)) ?_
                refine U.p rfl rfl (.inl rfl) (S.assign rfl (L 1 rfl rfl)) ?_
                refine U.done (Nat.le_of_ble_eq_true rfl) ?_
                refine WP.usreg rfl ?_
                refine U.p rfl rfl (.inl rfl) (S.move rfl (L 0 rfl rfl)) ?_
                refine U.p rfl rfl (.inl rfl) (S.assign rfl (L 0 rfl rfl)) ?_
                refine U.done (Nat.le_of_ble_eq_true rfl) ?_
                refine WP.usreg rfl ?_
                refine U.p rfl rfl (.inl rfl) (S.move rfl (L 3 rfl rfl)) ?_
                refine U.p rfl rfl (.inl rfl) (S.move rfl (L 15 rfl rfl)) ?_
                refine U.p rfl rfl (.inl rfl) (S.sub rfl (L 1 rfl rfl) (L 0 rfl rfl)) ?_
                refine U.p rfl rfl (.inl rfl) (S.move rfl (L 18 rfl rfl)) ?_
                refine U.p rfl rfl (.inl rfl) (S.move rfl (L 7 rfl rfl)) ?_
                refine U.p rfl rfl (.inl rfl) (S.sub rfl (L 1 rfl rfl) (L 0 rfl rfl)) ?_
                refine U.p rfl rfl (.inl rfl) (S.assign rfl (L 3 rfl rfl)) ?_
                refine U.p rfl rfl (.inl rfl) (S.assign rfl (L 1 rfl rfl)) ?_
                refine U.done (Nat.le_of_ble_eq_true rfl) ?_
                refine WP.usreg rfl ?_
                refine U.p rfl rfl (.inl rfl) (S.move rfl (L 28 rfl rfl)) ?_
                obtain ⟨x95, hx96, h97⟩ := bindS h89
                refine U.p rfl rfl (.inl rfl) (S.quo hx96 rfl (L 0 rfl rfl) K) ?_
                refine U.p rfl rfl (.inl rfl) (S.assign rfl (L 0 rfl rfl)) ?_
                refine U.done (Nat.le_of_ble_eq_true rfl) ?_
                refine WP.usreg rfl ?_
                refine U.p rfl rfl (.inl rfl) (S.move rfl (L 4 rfl rfl)) ?_
                refine U.p rfl rfl (.inl rfl) (S.move rfl (L 4 rfl rfl)) ?_
                refine U.p rfl rfl (.inl rfl) (S.lss rfl (L 1 rfl rfl) (L 0 rfl rfl)) ?_
                refine U.done (Nat.le_of_ble_eq_true rfl) ?_
                refine WP.cond _ (L 0 rfl rfl) rfl (fun c98 => ?_) (fun c98 => ?_)
                · have h99 := ifT c98 h97
                  refine WP.usreg rfl ?_
                  refine U.p rfl rfl (.inl rfl) (S.move rfl (L 7 rfl rfl)) ?_
                  refine U.p rfl rfl (.inl rfl) (S.move rfl (L 4 rfl rfl)) ?_
                  refine U.p rfl rfl (.inl rfl) (S.geq rfl (L 1 rfl rfl) (L 0 rfl rfl)) ?_
                  refine U.p rfl rfl (.inl rfl) (S.assign rfl (L 0 rfl rfl)) ?_
                  refine U.done (Nat.le_of_ble_eq_true rfl) ?_
                  refine WP.usreg rfl ?_
                  refine U.p rfl rfl (.inl rfl) (S.move rfl (L 31 rfl rfl)) ?_
                  refine U.p rfl rfl (.inl rfl) (S.move rfl (L 33 rfl rfl)) ?_
                  refine U.p rfl rfl (.inl rfl) (S.move rfl (L 23 rfl rfl)) ?_
                  refine U.p rfl rfl (.inl rfl) (S.move rfl (L 37 rfl rfl)) ?_
                  refine U.p rfl rfl (.inl rfl) (S.move rfl (L 39 rfl rfl)) ?_
                  obtain ⟨x100, hx101, h102⟩ := bindS h99
                  refine O.call (V := V91) rfl rfl (.inl rfl) rfl en37 (aC (L 4 rfl rfl) (aC (L 3 rfl rfl) (aC (L 2 rfl rfl) (aC (L 1 rfl rfl) (aC (L 0 rfl rfl) aN))))) (IH V91 _ x87.2.2 x4 x87.1 x46 v1 ow94 _ hx101) (fun _ _ _ _ => nd) (fun v103 V104 le105 hp106 => ?_)
                  have ow107 := hp106
                  refine U.done (Nat.le_of_ble_eq_true rfl) ?_
                  refine WP.ureg rfl ?_
                  refine U.p rfl rfl (.inl rfl) (S.move rfl (L 27 rfl rfl)) ?_
                  refine U.p rfl rfl (.inl rfl) (S.add rfl (L 0 rfl rfl) K) ?_
                  refine U.p rfl rfl (.inl rfl) (S.assign rfl (L 0 rfl rfl)) ?_
                  refine U.done (Nat.le_of_ble_eq_true rfl) ?_
                  refine blkN (sqN ?_)
                  exact ⟨_, V104, rfl, ⟨m14, Nat.lt_succ_self _, x100, w64 (x87.1 + 1), x5, x46, decide (x95 ≤ (w64 (x87.1 - x4))), x87.2.1, rfl, (((((((le12.trans le48).trans le56).trans le63).trans le68).trans le73).trans le92).trans le105), ow107, backS h102 e16⟩, (allCons (L 40 rfl rfl) (allCons (L 0 rfl rfl) (allCons (L 42 rfl rfl) (allCons (L 43 rfl rfl) (allCons (L 44 rfl rfl) (allCons (L 9 rfl rfl) (allCons (L 27 rfl rfl) allNil)))))))⟩
                · have h108 := ifF c98 h97
                  refine WP.usreg rfl ?_
                  refine U.p rfl rfl (.inl rfl) (S.move rfl (L 6 rfl rfl)) ?_
                  refine U.p rfl rfl (.inl rfl) (S.move rfl (L 4 rfl rfl)) ?_
                  refine U.p rfl rfl (.inl rfl) (S.geq rfl (L 1 rfl rfl) (L 0 rfl rfl)) ?_
                  refine U.p rfl rfl (.inl rfl) (S.assign rfl (L 0 rfl rfl)) ?_
                  refine U.done (Nat.le_of_ble_eq_true rfl) ?_
                  refine WP.usreg rfl ?_
                  refine U.p rfl rfl (.inl rfl) (S.move rfl (L 31 rfl rfl)) ?_
                  refine U.p rfl rfl (.inl rfl) (S.move rfl (L 22 rfl rfl)) ?_
                  refine U.p rfl rfl (.inl rfl) (S.add rfl (L 0 rfl rfl) K) ?_
                  refine U.p rfl rfl (.inl rfl) (S.move rfl (L 36 rfl rfl)) ?_
                  refine U.p rfl rfl (.inl rfl) (S.move rfl (L 38 rfl rfl)) ?_
                  refine U.p rfl rfl (.inl rfl) (S.move rfl (L 40 rfl rfl)) ?_
                  obtain ⟨x109, hx110, h111⟩ := bindS h108
                  refine O.call (V := V91) rfl rfl (.inl rfl) rfl en37 (aC (L 5 rfl rfl) (aC (L 3 rfl rfl) (aC (L 2 rfl rfl) (aC (L 1 rfl rfl) (aC (L 0 rfl rfl) aN))))) (IH V91 _ x87.2.2 (w64 (x87.1 + 1)) x5 x46 v1 ow94 _ hx110) (fun _ _ _ _ => nd) (fun v112 V113 le114 hp115 => ?_)
                  have ow116 := hp115
                  refine U.done (Nat.le_of_ble_eq_true rfl) ?_
                  refine WP.ureg rfl ?_
                  refine U.p rfl rfl (.inl rfl) (S.move rfl (L 28 rfl rfl)) ?_
                  refine U.p rfl rfl (.inl rfl) (S.assign rfl (L 0 rfl rfl)) ?_
                  refine U.done (Nat.le_of_ble_eq_true rfl) ?_
                  refine blkN (sqN ?_)
                  exact ⟨_, V113, rfl, ⟨m14, Nat.lt_succ_self _, x109, x4, x87.1, x46, decide (x95 ≤ (w64 (x5 - x87.1))), x87.2.1, rfl, (((((((le12.trans le48).trans le56).trans le63).trans le68).trans le73).trans le92).trans le114), ow116, backS h111 e16⟩, (allCons (L 40 rfl rfl) (allCons (L 41 rfl rfl) (allCons (L 0 rfl rfl) (allCons (L 43 rfl rfl) (allCons (L 44 rfl rfl) (allCons (L 9 rfl rfl) (allCons (L 27 rfl rfl) allNil)))))))⟩
            · skip
              refine WP.udreg rfl rfl rfl ?_
              refine U.p rfl rfl (.inl rfl) (S.move rfl (L 1 rfl rfl)) ?_
              refine U.p rfl rfl (.inl rfl) (S.gtr rfl (L 0 rfl rfl) K) ?_
              refine U.p rfl rfl (.inl rfl) (S.move rfl (L 0 rfl rfl)) ?_
              refine bcase (b := decide (0 < x4)) (fun g117 => ?_) (fun g117 => ?_)
              · have h118 := ifT g117 h70
                refine U.p rfl rfl (.inr ⟨_, _, _, rfl, rfl, ((L 0 rfl rfl).trans (congrArg Value.bool g117))⟩) (S.move rfl (L 7 rfl rfl)) ?_
                refine U.p rfl rfl (.inr ⟨_, _, _, rfl, rfl, ((L 1 rfl rfl).trans (congrArg Value.bool g117))⟩) (S.move rfl (L 4 rfl rfl)) ?_
                refine U.p rfl rfl (.inr ⟨_, _, _, rfl, rfl, ((L 2 rfl rfl).trans (congrArg Value.bool g117))⟩) (S.move rfl (L 6 rfl rfl)) ?_
                refine U.p rfl rfl (.inr ⟨_, _, _, rfl, rfl, ((L 3 rfl rfl).trans (congrArg Value.bool g117))⟩) (S.sub rfl (L 0 rfl rfl) K) ?_
                obtain ⟨x119, hx120, h121⟩ := bindS h118
                obtain ⟨b122, o123, n124, c125, hv126⟩ := ow69.ospt (k := 0) rfl hx120
                obtain ⟨_, hv127, _⟩ := ow69.osel (k := 0) rfl hv126 hx120
                refine U.p rfl rfl (.inr ⟨_, _, _, rfl, rfl, ((L 4 rfl rfl).trans (congrArg Value.bool g117))⟩) (S.index rfl ((L 2 rfl rfl).trans hv127) (L 0 rfl rfl) Try.underlying39 ti44 (ix_ge hx120) (ix_lt hx120)) ?_
                obtain ⟨cs128, hv129, hlt130, hr131, hc132⟩ := ow69.osel (k := 0) rfl hv126 hx120
                obtain rfl : cs128 = [.int .i64 x119.reg, .int .i64 x119.from_, .int .i64 x119.to_] := hr131
                refine U.k rfl rfl (.inr ⟨_, _, _, rfl, rfl, ((L 5 rfl rfl).trans (congrArg Value.bool g117))⟩) (S.loadN (cs := [.int .i64 x119.reg, .int .i64 x119.from_, .int .i64 x119.to_]) rfl (L 0 rfl rfl) Try.underlying44 rfl ti44 rfl hc132) (fun _ => (okH.nil (fun r h => by cases h; exact hlt130))) ?_
                refine U.p rfl rfl (.inr ⟨_, _, _, rfl, rfl, ((L 6 rfl rfl).trans (congrArg Value.bool g117))⟩) (S.move rfl (L 9 rfl rfl)) ?_
                refine U.p rfl rfl (.inr ⟨_, _, _, rfl, rfl, ((L 7 rfl rfl).trans (congrArg Value.bool g117))⟩) (S.move rfl (L 18 rfl rfl)) ?_
                obtain ⟨x133, hx134, h135⟩ := bindS h121
                obtain ⟨_, hv136, _⟩ := ow69.osel (k := 0) rfl hv126 hx134
                refine U.p rfl rfl (.inr ⟨_, _, _, rfl, rfl, ((L 8 rfl rfl).trans (congrArg Value.bool g117))⟩) (S.index rfl ((L 1 rfl rfl).trans hv136) (L 0 rfl rfl) Try.underlying39 ti44 (ix_ge hx134) (ix_lt hx134)) ?_
                obtain ⟨cs137, hv138, hlt139, hr140, hc141⟩ := ow69.osel (k := 0) rfl hv126 hx134
                obtain rfl : cs137 = [.int .i64 x133.reg, .int .i64 x133.from_, .int .i64 x133.to_] := hr140
                refine U.k rfl rfl (.inr ⟨_, _, _, rfl, rfl, ((L 9 rfl rfl).trans (congrArg Value.bool g117))⟩) (S.loadN (cs := [.int .i64 x133.reg, .int .i64 x133.from_, .int .i64 x133.to_]) rfl (L 0 rfl rfl) Try.underlying44 rfl ti44 rfl hc141) (fun _ => (okH.cons trivial (okH.nil (fun r h => by cases h; exact hlt139)))) ?_
                obtain ⟨x142, hx143, h144⟩ := bindS h135
                refine O.callv (V := V67) rfl rfl (.inr ⟨_, _, _, rfl, rfl, ((L 10 rfl rfl).trans (congrArg Value.bool g117))⟩) rfl (L 9 rfl rfl) en28 (aC (L 4 rfl rfl) (aC (L 0 rfl rfl) aN)) (wk_flow_Spans_c1 V67 _ x119 x133 ow69 _ hx143) (fun v145 V146 le147 hp148 => by obtain ⟨rfl, ow149⟩ := hp148; exact (fun _ => (okH.cons (Or.inl rfl) (okH.cons (Or.inl rfl) (okH.nil (fun r h => nomatch h)))))) (fun v145 V146 le147 hp148 => ?_)
                obtain ⟨rfl, ow149⟩ := hp148
                refine U.p rfl rfl (.inr ⟨_, _, _, rfl, rfl, ((L 11 rfl rfl).trans (congrArg Value.bool g117))⟩) (S.lss rfl (L 0 rfl rfl) K) ?_
                refine U.p rfl rfl (.inr ⟨_, _, _, rfl, rfl, ((L 12 rfl rfl).trans (congrArg Value.bool g117))⟩) (S.not rfl (L 0 rfl rfl)) ?_
                refine U.p rfl rfl (.inl rfl) (S.pickT rfl ((L 13 rfl rfl).trans (congrArg Value.bool g117)) (L 0 rfl rfl)) ?_
                refine U.done (Nat.le_of_ble_eq_true rfl) ?_
                refine sqN ?_
                exact ⟨_, V146, rfl, ⟨!(decide (x142 < 0)), rfl, le147, ow149, h144⟩, (allCons (L 17 rfl rfl) (allCons (L 18 rfl rfl) (allCons (L 19 rfl rfl) (allCons (L 20 rfl rfl) (allCons (L 21 rfl rfl) (allCons (L 22 rfl rfl) (allCons (L 23 rfl rfl) (allCons (L 24 rfl rfl) (allCons (L 25 rfl rfl) (allCons (L 0 rfl rfl) allNil))))))))))⟩
              · have h150 := ifF g117 h70
                refine U.x rfl rfl rfl rfl ((L 0 rfl rfl).trans (congrArg Value.bool g117)) (by decide) ?_
                refine U.x rfl rfl rfl rfl ((L 1 rfl rfl).trans (congrArg Value.bool g117)) (by decide) ?_
                refine U.x rfl rfl rfl rfl ((L 2 rfl rfl).trans (congrArg Value.bool g117)) (by decide) ?_
                refine U.x rfl rfl rfl rfl ((L 3 rfl rfl).trans (congrArg Value.bool g117)) (by decide) ?_
                refine U.x rfl rfl rfl rfl ((L 4 rfl rfl).trans (congrArg Value.bool g117)) (by decide) ?_
                refine U.x rfl rfl rfl rfl ((L 5 rfl rfl).trans (congrArg Value.bool g117)) (by decide) ?_
                refine U.x rfl rfl rfl rfl ((L 6 rfl rfl).trans (congrArg Value.bool g117)) (by decide) ?_
                refine U.x rfl rfl rfl rfl ((L 7 rfl rfl).trans (congrArg Value.bool g117)) (by decide) ?_
                refine U.x rfl rfl rfl rfl ((L 8 rfl rfl).trans (congrArg Value.bool g117)) (by decide) ?_
                refine U.x rfl rfl rfl rfl ((L 9 rfl rfl).trans (congrArg Value.bool g117)) (by decide) ?_
                refine U.x rfl rfl rfl rfl ((L 10 rfl rfl).trans (congrArg Value.bool g117)) (by decide) ?_
                refine U.x rfl rfl rfl rfl ((L 11 rfl rfl).trans (congrArg Value.bool g117)) (by decide) ?_
                refine U.x rfl rfl rfl rfl ((L 12 rfl rfl).trans (congrArg Value.bool g117)) (by decide) ?_
                refine U.p rfl rfl (.inl rfl) (S.pickF rfl ((L 13 rfl rfl).trans (congrArg Value.bool g117)) K) ?_
                refine U.done (Nat.le_of_ble_eq_true rfl) ?_
                refine sqN ?_
                exact ⟨_, V67, rfl, ⟨false, rfl, (.refl _), ow69, h150⟩, (allCons (L 17 rfl rfl) (allCons (L 18 rfl rfl) (allCons (L 19 rfl rfl) (allCons (L 20 rfl rfl) (allCons (L 21 rfl rfl) (allCons (L 22 rfl rfl) (allCons (L 23 rfl rfl) (allCons (L 24 rfl rfl) (allCons (L 25 rfl rfl) (allCons (L 0 rfl rfl) allNil))))))))))⟩
          · skip
            refine WP.usreg rfl ?_
            refine U.p rfl rfl (.inl rfl) (S.move rfl (L 5 rfl rfl)) ?_
            refine U.p rfl rfl (.inl rfl) (S.move rfl (L 0 rfl rfl)) ?_
            refine U.joinX 4 (fun e H => ∃ (u151 : Value), H = V62.H ∧ e = [(71, .bool (x7 && x8)), (70, u151)]) ?_ ?_
            · rintro _ _ ⟨u151, rfl, rfl⟩
              refine U.p rfl rfl (.inl rfl) (S.move rfl (L 0 rfl rfl)) ?_
              refine U.joinX 8 (fun e H => ∃ (u155 u156 : Value), H = V62.H ∧ e = [(75, .bool ((x7 && x8) && (decide (x61 = 1)))), (74, u155), (73, u156)]) ?_ ?_
              · rintro _ _ ⟨u155, u156, rfl, rfl⟩
                refine U.done (Nat.le_of_ble_eq_true rfl) ?_
                refine WP.cond _ (L 0 rfl rfl) rfl (fun c160 => ?_) (fun c160 => ?_)
                · have h161 := ifT c160 h65
                  refine WP.usreg rfl ?_
                  refine U.p rfl rfl (.inl rfl) (S.move rfl (L 8 rfl rfl)) ?_
                  refine U.p rfl rfl (.inl rfl) (S.move rfl (L 10 rfl rfl)) ?_
                  refine U.p rfl rfl (.inl rfl) (S.move rfl (L 12 rfl rfl)) ?_
                  refine U.p rfl rfl (.inl rfl) (S.move rfl (L 15 rfl rfl)) ?_
                  obtain ⟨x162, hx163, h164⟩ := bindS h161
                  refine O.call (V := V62) rfl rfl (.inl rfl) rfl en46 (aC (L 3 rfl rfl) (aC (L 2 rfl rfl) (aC (L 1 rfl rfl) (aC (L 0 rfl rfl) aN)))) (wk_slices_partialInsertionSortCmpFunc V62 _ xs59 x4 x5 v1 ow64 _ hx163) (fun _ _ _ _ => nd) (fun v165 V166 le167 hp168 => ?_)
                  obtain ⟨rfl, ow169⟩ := hp168
                  refine U.done (Nat.le_of_ble_eq_true rfl) ?_
                  refine WP.cond _ (L 0 rfl rfl) rfl (fun c170 => ?_) (fun c170 => ?_)
                  · have h171 := ifT c170 h164
                    refine WP.ret ?_
                    refine sqR (blkR (sqR (blkR ?_)))
                    have h172 := exitS h171 e16
                    refine fin.slots' (.inr rfl) fsN rfl ⟨V166, rfl, ((((le12.trans le48).trans le56).trans le63).trans le167), ?_⟩
                    have e173 := Option.some.inj h172
                    subst e173
                    exact ow169
                  · have h174 := ifF c170 h164
                    refine WP.skip ?_
                    refine sqN ?_
                    exact ⟨_, V166, rfl, ⟨x162.2, rfl, le167, ow169, h174⟩, (allCons (L 13 rfl rfl) (allCons (L 14 rfl rfl) (allCons (L 15 rfl rfl) (allCons (L 16 rfl rfl) (allCons (L 17 rfl rfl) (allCons (L 18 rfl rfl) (allCons (L 19 rfl rfl) (allCons (L 20 rfl rfl) (allCons (L 21 rfl rfl) allNil)))))))))⟩
                · have h175 := ifF c160 h65
                  refine WP.skip ?_
                  refine sqN ?_
                  exact ⟨_, V62, rfl, ⟨xs59, rfl, (.refl _), ow64, h175⟩, (allCons (L 8 rfl rfl) (allCons (L 9 rfl rfl) (allCons (L 10 rfl rfl) (allCons (L 11 rfl rfl) (allCons (L 12 rfl rfl) (allCons (L 13 rfl rfl) (allCons (L 14 rfl rfl) (allCons (L 15 rfl rfl) (allCons (L 16 rfl rfl) allNil)))))))))⟩
              · intro kk
                refine bcase (b := x7 && x8) (fun g176 => ?_) (fun g176 => ?_)
                · skip
                  refine U.p rfl rfl (.inr ⟨_, _, _, rfl, rfl, ((L 0 rfl rfl).trans (congrArg Value.bool g176))⟩) (S.move rfl (L 14 rfl rfl)) ?_
                  refine U.p rfl rfl (.inr ⟨_, _, _, rfl, rfl, ((L 1 rfl rfl).trans (congrArg Value.bool g176))⟩) (S.eqlI rfl (L 0 rfl rfl) K) ?_
                  refine U.p rfl rfl (.inl rfl) (S.pickT rfl ((L 2 rfl rfl).trans (congrArg Value.bool g176)) (L 0 rfl rfl)) ?_
                  exact kk [(75, .bool (decide (x61 = 1))), (74, .bool (decide (x61 = 1))), (73, .int .i64 x61)] _ ⟨.bool (decide (x61 = 1)), .int .i64 x61, rfl, (by rw [g176, Bool.true_and])⟩
                · skip
                  refine U.x rfl rfl rfl rfl ((L 0 rfl rfl).trans (congrArg Value.bool g176)) (by decide) ?_
                  refine U.x rfl rfl rfl rfl ((L 1 rfl rfl).trans (congrArg Value.bool g176)) (by decide) ?_
                  refine U.p rfl rfl (.inl rfl) (S.pickF rfl ((L 2 rfl rfl).trans (congrArg Value.bool g176)) K) ?_
                  exact kk [(75, .bool false), (74, .tuple #[]), (73, .tuple #[])] _ ⟨.tuple #[], .tuple #[], rfl, (by rw [g176, Bool.false_and])⟩
            · intro kk
              refine bcase (b := x7) (fun g177 => ?_) (fun g177 => ?_)
              · skip
                refine U.p rfl rfl (.inr ⟨_, _, _, rfl, rfl, ((L 0 rfl rfl).trans (congrArg Value.bool g177))⟩) (S.move rfl (L 8 rfl rfl)) ?_
                refine U.p rfl rfl (.inl rfl) (S.pickT rfl ((L 1 rfl rfl).trans (congrArg Value.bool g177)) (L 0 rfl rfl)) ?_
                exact kk [(71, .bool x8), (70, .bool x8)] _ ⟨.bool x8, rfl, (by rw [g177, Bool.true_and])⟩
              · skip
                refine U.x rfl rfl rfl rfl ((L 0 rfl rfl).trans (congrArg Value.bool g177)) (by decide) ?_
                refine U.p rfl rfl (.inl rfl) (S.pickF rfl ((L 1 rfl rfl).trans (congrArg Value.bool g177)) K) ?_
                exact kk [(71, .bool false), (70, .tuple #[])] _ ⟨.tuple #[], rfl, (by rw [g177, Bool.false_and])⟩
        · skip
          refine WP.usreg rfl ?_
          refine U.p rfl rfl (.inl rfl) (S.move rfl (L 0 rfl rfl)) ?_
          refine U.p rfl rfl (.inl rfl) (S.eqlI rfl (L 0 rfl rfl) K) ?_
          refine U.done (Nat.le_of_ble_eq_true rfl) ?_
          refine WP.cond _ (L 0 rfl rfl) rfl (fun c178 => ?_) (fun c178 => ?_)
          · have h179 := ifT c178 h53
            refine WP.usreg rfl ?_
            refine U.p rfl rfl (.inl rfl) (S.move rfl (L 12 rfl rfl)) ?_
            refine U.p rfl rfl (.inl rfl) (S.move rfl (L 14 rfl rfl)) ?_
            refine U.p rfl rfl (.inl rfl) (S.move rfl (L 16 rfl rfl)) ?_
            refine U.p rfl rfl (.inl rfl) (S.move rfl (L 19 rfl rfl)) ?_
            obtain ⟨x180, hx181, h182⟩ := bindS h179
            refine O.call (V := V55) rfl rfl (.inl rfl) rfl en45 (aC (L 3 rfl rfl) (aC (L 2 rfl rfl) (aC (L 1 rfl rfl) (aC (L 0 rfl rfl) aN)))) (wk_slices_reverseRangeCmpFunc V55 _ xs45 x4 x5 v1 ow58 _ hx181) (fun _ _ _ _ => nd) (fun v183 V184 le185 hp186 => ?_)
            have ow187 := hp186
            refine U.done (Nat.le_of_ble_eq_true rfl) ?_
            refine WP.usreg rfl ?_
            refine U.p rfl rfl (.inl rfl) (S.move rfl (L 19 rfl rfl)) ?_
            refine U.p rfl rfl (.inl rfl) (S.sub rfl (L 0 rfl rfl) K) ?_
            refine U.p rfl rfl (.inl rfl) (S.move rfl (L 10 rfl rfl)) ?_
            refine U.p rfl rfl (.inl rfl) (S.move rfl (L 21 rfl rfl)) ?_
            refine U.p rfl rfl (.inl rfl) (S.sub rfl (L 1 rfl rfl) (L 0 rfl rfl)) ?_
            refine U.p rfl rfl (.inl rfl) (S.sub rfl (L 3 rfl rfl) (L 0 rfl rfl)) ?_
            refine U.p rfl rfl (.inl rfl) (S.assign rfl (L 0 rfl rfl)) ?_
            refine U.done (Nat.le_of_ble_eq_true rfl) ?_
            refine WP.ureg rfl ?_
            refine U.p rfl rfl (.inl rfl) (S.assign rfl K) ?_
            refine U.done (Nat.le_of_ble_eq_true rfl) ?_
            refine sqN ?_
            exact ⟨_, V184, rfl, ⟨x180, w64 ((w64 (x5 - 1)) - (w64 (x51.1 - x4))), 1, rfl, le185, ow187, h182⟩, (allCons (L 25 rfl rfl) (allCons (L 26 rfl rfl) (allCons (L 27 rfl rfl) (allCons (L 28 rfl rfl) (allCons (L 29 rfl rfl) (allCons (L 30 rfl rfl) (allCons (L 31 rfl rfl) (allCons (L 32 rfl rfl) (allCons (L 1 rfl rfl) (allCons (L 0 rfl rfl) allNil))))))))))⟩
          · have h188 := ifF c178 h53
            refine WP.skip ?_
            refine sqN ?_
            exact ⟨_, V55, rfl, ⟨xs45, x51.1, x51.2, rfl, (.refl _), ow58, h188⟩, (allCons (L 12 rfl rfl) (allCons (L 13 rfl rfl) (allCons (L 14 rfl rfl) (allCons (L 15 rfl rfl) (allCons (L 16 rfl rfl) (allCons (L 17 rfl rfl) (allCons (L 18 rfl rfl) (allCons (L 19 rfl rfl) (allCons (L 3 rfl rfl) (allCons (L 2 rfl rfl) allNil))))))))))⟩
      · skip
        refine WP.usreg rfl ?_
        refine U.p rfl rfl (.inl rfl) (S.move rfl (L 13 rfl rfl)) ?_
        refine U.p rfl rfl (.inl rfl) (S.not rfl (L 0 rfl rfl)) ?_
        refine U.done (Nat.le_of_ble_eq_true rfl) ?_
        refine WP.cond _ (L 0 rfl rfl) rfl (fun c189 => ?_) (fun c189 => ?_)
        · have h190 := ifT c189 h44
          have k191 : x7 = false := by simpa using c189
          refine WP.usreg rfl ?_
          refine U.p rfl rfl (.inl rfl) (S.move rfl (L 10 rfl rfl)) ?_
          refine U.p rfl rfl (.inl rfl) (S.move rfl (L 12 rfl rfl)) ?_
          refine U.p rfl rfl (.inl rfl) (S.move rfl (L 14 rfl rfl)) ?_
          refine U.p rfl rfl (.inl rfl) (S.move rfl (L 17 rfl rfl)) ?_
          obtain ⟨x192, hx193, h194⟩ := bindS h190
          refine O.call (V := V11) rfl rfl (.inl rfl) rfl en43 (aC (L 3 rfl rfl) (aC (L 2 rfl rfl) (aC (L 1 rfl rfl) (aC (L 0 rfl rfl) aN)))) (wk_slices_breakPatternsCmpFunc V11 _ xs3 x4 x5 v1 ow13 _ hx193) (fun _ _ _ _ => nd) (fun v195 V196 le197 hp198 => ?_)
          have ow199 := hp198
          refine U.done (Nat.le_of_ble_eq_true rfl) ?_
          refine WP.ureg rfl ?_
          refine U.p rfl rfl (.inl rfl) (S.move rfl (L 18 rfl rfl)) ?_
          refine U.p rfl rfl (.inl rfl) (S.sub rfl (L 0 rfl rfl) K) ?_
          refine U.p rfl rfl (.inl rfl) (S.assign rfl (L 0 rfl rfl)) ?_
          refine U.done (Nat.le_of_ble_eq_true rfl) ?_
          refine sqN ?_
          exact ⟨_, V196, rfl, ⟨x192, w64 (x6 - 1), rfl, le197, ow199, h194⟩, (allCons (L 18 rfl rfl) (allCons (L 19 rfl rfl) (allCons (L 20 rfl rfl) (allCons (L 0 rfl rfl) (allCons (L 22 rfl rfl) (allCons (L 23 rfl rfl) (allCons (L 24 rfl rfl) (allCons (L 14 rfl rfl) allNil))))))))⟩
        · have h200 := ifF c189 h44
          have k201 : x7 = true := by simpa using c189
          refine WP.skip ?_
          refine sqN ?_
          exact ⟨_, V11, rfl, ⟨xs3, x6, rfl, (.refl _), ow13, h200⟩, (allCons (L 10 rfl rfl) (allCons (L 11 rfl rfl) (allCons (L 12 rfl rfl) (allCons (L 13 rfl rfl) (allCons (L 14 rfl rfl) (allCons (L 15 rfl rfl) (allCons (L 16 rfl rfl) (allCons (L 6 rfl rfl) allNil))))))))⟩
theorem wk_slices_pdqsortCmpFunc (V : Vw) (Rs : List At) (p0 : List Tflow_Span) (p1 : Int) (p2 : Int) (p3 : Int) (v1 : Value) (ow : Ow V (.os RT_Tflow_Span v1 p0 :: Rs)) (r : List Tflow_Span) (h : slices_pdqsortCmpFunc p0 p1 p2 p3 = some r) : ∃ v V', Cl Try.prog 0 37 #[v1, .int .i64 p1, .int .i64 p2, .int .i64 p3, .func (.func 28) #[] #[]] V.H v V'.H ∧ V.le V' ∧ (Ow V' (.os RT_Tflow_Span v1 r :: Rs)) := by
  have key : ∀ n, ∀ (V : Vw) (Rs : List At) (p0 : List Tflow_Span) (p1 : Int) (p2 : Int) (p3 : Int) (v1 : Value) (ow : Ow V (.os RT_Tflow_Span v1 p0 :: Rs)) (r : List Tflow_Span) (h : itF (fun rec_ a => slices_pdqsortCmpFunc_F (fun p0 p1 p2 p3 => rec_ (p0, p1, p2, p3)) a.1 a.2.1 a.2.2.1 a.2.2.2) n (p0, p1, p2, p3) = some r), ∃ v V', Cl Try.prog 0 37 #[v1, .int .i64 p1, .int .i64 p2, .int .i64 p3, .func (.func 28) #[] #[]] V.H v V'.H ∧ V.le V' ∧ (Ow V' (.os RT_Tflow_Span v1 r :: Rs)) := by
    intro n
    induction n with
    | zero => intro V Rs p0 p1 p2 p3 v1 ow r h; have h0 : (none : Option (List Tflow_Span)) = some r := h; cases h0
    | succ n ih => exact fun V Rs p0 p1 p2 p3 v1 ow r h => wks_slices_pdqsortCmpFunc (fun p0 p1 p2 p3 => itF (fun rec_ a => slices_pdqsortCmpFunc_F (fun p0 p1 p2 p3 => rec_ (p0, p1, p2, p3)) a.1 a.2.1 a.2.2.1 a.2.2.2) n (p0, p1, p2, p3)) ih V Rs p0 p1 p2 p3 v1 ow r h
  obtain ⟨n, hn⟩ := recO_some h
  exact key n V Rs p0 p1 p2 p3 v1 ow r hn

set_option maxHeartbeats 4000000 in
set_option maxRecDepth 10000 in
theorem wk_slices_SortFunc (V : Vw) (Rs : List At) (p0 : List Tflow_Span) (v1 : Value) (ow : Ow V (.os RT_Tflow_Span v1 p0 :: Rs)) (r : List Tflow_Span) (h : slices_SortFunc p0 = some r) : ∃ v V', Cl Try.prog 0 27 #[v1, .func (.func 28) #[] #[]] V.H v V'.H ∧ V.le V' ∧ (Ow V' (.os RT_Tflow_Span v1 r :: Rs)) := by
  refine Ct.of (Nat.zero_le _) Try.func27 rfl (Nat.le_of_ble_eq_true rfl) ?_
  unfold slices_SortFunc at h
  refine WP.usreg rfl ?_
  refine U.p rfl rfl (.inl rfl) (S.move rfl (L 0 rfl rfl)) ?_
  refine U.p rfl rfl (.inl rfl) (ow.oslen (k := 0) rfl rfl (L 0 rfl rfl) Try.underlying39) ?_
  refine U.p rfl rfl (.inl rfl) (S.assign rfl (L 0 rfl rfl)) ?_
  refine U.done (Nat.le_of_ble_eq_true rfl) ?_
  refine WP.ureg rfl ?_
  refine U.p rfl rfl (.inl rfl) (S.move rfl (L 3 rfl rfl)) ?_
  refine U.p rfl rfl (.inl rfl) (S.move rfl (L 1 rfl rfl)) ?_
  refine U.p rfl rfl (.inl rfl) (S.move rfl (L 2 rfl rfl)) ?_
  refine U.p rfl rfl (.inl rfl) (S.conv rfl (L 0 rfl rfl) Try.underlying3 Try.underlying65) ?_
  obtain ⟨x3, hx4, h5⟩ := bindS h
  refine O.call (V := V) rfl rfl (.inl rfl) rfl en38 (aC (L 0 rfl rfl) aN) (wk_math_bits_Len V _ (IntKind.wrap .u64 (p0.length : Int)) ow _ hx4) (fun _ _ _ _ => nd) (fun v6 V7 le8 hp9 => ?_)
  obtain ⟨rfl, ow10⟩ := hp9
  refine U.p rfl rfl (.inl rfl) (S.move rfl (L 9 rfl rfl)) ?_
  obtain ⟨x11, hx12, h13⟩ := bindS h5
  refine O.call (V := V7) rfl rfl (.inl rfl) rfl en37 (aC (L 5 rfl rfl) (aC K (aC (L 4 rfl rfl) (aC (L 1 rfl rfl) (aC (L 0 rfl rfl) aN))))) (wk_slices_pdqsortCmpFunc V7 _ p0 0 (p0.length : Int) x3 v1 ow10 _ hx12) (fun _ _ _ _ => nd) (fun v14 V15 le16 hp17 => ?_)
  have ow18 := hp17
  refine U.done (Nat.le_of_ble_eq_true rfl) ?_
  refine fin.slots' (.inl rfl) fsN rfl ⟨V15, rfl, (le8.trans le16), ?_⟩
  have e19 := Option.some.inj h13
  subst e19
  exact ow18

set_option maxHeartbeats 4000000 in
set_option maxRecDepth 10000 in
theorem wk_flow_Spans (V : Vw) (Rs : List At) (p0 : TFunc) (v1 : Value) (f2 : Fz RT_TIns V v1 p0.code) (ow : Ow V (Rs)) (r : List Tflow_Span) (h : flow_Spans p0 = some r) : ∃ v V', Cl Try.prog 0 18 #[.agg #[.string p0.name, .int .i64 p0.params, .int .i64 p0.regs, v1]] V.H v V'.H ∧ V.le V' ∧ (∃ (v3 : Value), v = v3 ∧ Ow V' (.os RT_Tflow_Span v3 r :: Rs)) := by
  refine Ct.of (Nat.zero_le _) Try.func18 rfl (Nat.le_of_ble_eq_true rfl) ?_
  unfold flow_Spans at h
  refine WP.usreg rfl ?_
  refine O.box ow rfl rfl (.inl rfl) rfl (L 0 rfl rfl) (by simp [topV]) rfl nd (fun b5 V6 le7 ow8 => ?_)
  refine U.p rfl rfl (.inl rfl) (S.assign rfl K) ?_
  refine U.done (Nat.le_of_ble_eq_true rfl) ?_
  refine WP.usreg rfl ?_
  refine U.p rfl rfl (.inl rfl) (S.assign rfl K) ?_
  refine U.done (Nat.le_of_ble_eq_true rfl) ?_
  refine WP.seq ?_
  refine WP.usreg rfl ?_
  refine U.p (v := .pointer (some ⟨b5, 1, none⟩)) rfl rfl (.inl rfl) (S.fieldAddr rfl (L 2 rfl rfl) Try.underlying24 rfl ti3 rfl rfl) ?_
  refine U.k rfl rfl (.inl rfl) (S.load rfl (L 0 rfl rfl) Try.underlying3 rfl ((ow8.own (k := 0) rfl).cell rfl)) nd ?_
  refine U.p rfl rfl (.inl rfl) (S.move rfl K) ?_
  refine U.done (Nat.le_of_ble_eq_true rfl) ?_
  refine WP.blk ?_
  have ow14 := ow8.nil RT_Tflow_Span
  have ow16 := ow14.pick 0 rfl
  have ow17 := ow16.pick 1 rfl
  unfold flow_Spans_l1 at h
  obtain ⟨n19, hn18⟩ := loopO_some.1 h
  refine WP.loopI2 (fun n l V' => ∃ (v11 : Value) (xs12 : List Tflow_Span) (x13 : Int), l = [(1, .pointer (some ⟨b5, 0, none⟩)), (3, v11), (13, .int .i64 p0.params), (14, .int .i64 x13)] ∧ V6.le V' ∧ Ow V' (.pt b5 (.cells 0 [.string p0.name, .int .i64 p0.params, .int .i64 p0.regs, v1]) :: .os RT_Tflow_Span v11 xs12 :: Rs) ∧ itO (fun s => flow_Spans_l1b p0 s.1 s.2) n (xs12, x13) = some r) n19 _ ⟨(.slice none 0 0), [], 0, rfl, .refl _, ow17, hn18⟩ (allCons (L 5 rfl rfl) (allCons (L 3 rfl rfl) (allCons (L 1 rfl rfl) (allCons (L 0 rfl rfl) allNil)))) ?_
  rintro _ _ V20 ⟨v11, xs12, x13, rfl, le21, ow22, h26⟩
  obtain ⟨m23, q24, rfl, h27, e25⟩ := itS h26
  replace h27 : flow_Spans_l1b p0 xs12 x13 = some q24 := h27
  unfold flow_Spans_l1b at h27
  refine WP.usreg rfl ?_
  refine U.p rfl rfl (.inl rfl) (S.lss rfl (L 3 rfl rfl) (L 2 rfl rfl)) ?_
  refine U.done (Nat.le_of_ble_eq_true rfl) ?_
  refine WP.seq ?_
  refine WP.cond _ (L 0 rfl rfl) rfl (fun c28 => ?_) (fun c28 => ?_)
  · have h29 := ifT c28 h27
    refine WP.skip ?_
    refine sqN ?_
    refine WP.seq ?_
    refine WP.blk ?_
    refine WP.usreg rfl ?_
    refine U.p rfl rfl (.inl rfl) (S.move rfl (L 4 rfl rfl)) ?_
    refine U.p rfl rfl (.inl rfl) (S.assign rfl (L 0 rfl rfl)) ?_
    refine U.done (Nat.le_of_ble_eq_true rfl) ?_
    refine WP.ureg rfl ?_
    refine U.p rfl rfl (.inl rfl) (S.move rfl (L 4 rfl rfl)) ?_
    refine U.p rfl rfl (.inl rfl) (S.move rfl (L 1 rfl rfl)) ?_
    have ow30 := ow22.pick 1 rfl
    obtain ⟨x31, hx32, h33⟩ := bindS h29
    refine O.call (V := V20) rfl rfl (.inl rfl) rfl en26 (aC (L 1 rfl rfl) (aC (L 0 rfl rfl) (aC K aN))) (wk_flow_grow V20 _ xs12 x13 0 v11 ow30 _ hx32) (fun _ _ _ _ => nd) (fun v34 V35 le36 hp37 => ?_)
    obtain ⟨_, rfl, ow38⟩ := hp37
    refine U.p rfl rfl (.inl rfl) (S.assign rfl (L 0 rfl rfl)) ?_
    refine U.done (Nat.le_of_ble_eq_true rfl) ?_
    refine blkN (sqN ?_)
    refine WP.ureg rfl ?_
    refine U.p rfl rfl (.inl rfl) (S.add rfl (L 10 rfl rfl) K) ?_
    refine U.p rfl rfl (.inl rfl) (S.move rfl (L 0 rfl rfl)) ?_
    refine U.done (Nat.le_of_ble_eq_true rfl) ?_
    refine sqN ?_
    have ow41 := ow38.pick 0 rfl
    have ow42 := ow41.pick 1 rfl
    exact ⟨_, V35, rfl, ⟨m23, Nat.lt_succ_self _, v34, x31, w64 (x13 + 1), rfl, (le21.trans le36), ow42, backS h33 e25⟩, (allCons (L 9 rfl rfl) (allCons (L 2 rfl rfl) (allCons (L 11 rfl rfl) (allCons (L 0 rfl rfl) allNil))))⟩
  · have h43 := ifF c28 h27
    refine WP.exit ?_
    refine sqE (sqE (blkE (sqN ?_)))
    have h44 := exitS h43 e25
    refine WP.seq ?_
    refine WP.usreg rfl ?_
    refine U.k rfl rfl (.inl rfl) (S.loadB rfl (L 1 rfl rfl) Try.underlying24 rfl ti24 (ow22.own (k := 0) rfl).get rfl) nd ?_
    have f45 := f2.up (le7.trans le21)
    obtain ⟨x46, hx47, h48⟩ := bindS h44
    refine O.call (V := V20) rfl rfl (.inl rfl) rfl en10 (aC (L 0 rfl rfl) aN) (wk_flow_Live V20 _ p0 v1 f45 ow22 _ hx47) (fun _ _ _ _ => nd) (fun v49 V50 le51 hp52 => ?_)
    obtain ⟨_, rfl, ow53⟩ := hp52
    refine U.p rfl rfl (.inl rfl) (ow53.oslen (k := 0) rfl rfl (L 0 rfl rfl) Try.underlying27) ?_
    refine U.p rfl rfl (.inl rfl) (S.move rfl K) ?_
    refine U.done (Nat.le_of_ble_eq_true rfl) ?_
    refine WP.blk ?_
    have ow60 := ow53.pick 0 rfl
    have ow61 := ow60.pick 2 rfl
    have ow62 := ow61.pick 2 rfl
    unfold flow_Spans_l2 at h48
    obtain ⟨n64, hn63⟩ := loopO_some.1 h48
    refine WP.loopI2 (fun n l V' => ∃ (v57 : Value) (xs58 : List Tflow_Span) (x59 : Int), l = [(1, .pointer (some ⟨b5, 0, none⟩)), (3, v57), (22, v49), (23, .int .i64 (x46.length : Int)), (24, .int .i64 x59)] ∧ V50.le V' ∧ Ow V' (.pt b5 (.cells 0 [.string p0.name, .int .i64 p0.params, .int .i64 p0.regs, v1]) :: .os RT_Tflow_Span v57 xs58 :: .os (RT.sl RT.bool) v49 x46 :: Rs) ∧ itO (fun s => flow_Spans_l2b p0 x46 s.1 s.2) n (xs58, x59) = some r) n64 _ ⟨v11, xs12, 0, rfl, .refl _, ow62, hn63⟩ (allCons (L 5 rfl rfl) (allCons (L 6 rfl rfl) (allCons (L 2 rfl rfl) (allCons (L 1 rfl rfl) (allCons (L 0 rfl rfl) allNil))))) ?_
    rintro _ _ V65 ⟨v57, xs58, x59, rfl, le66, ow67, h71⟩
    obtain ⟨m68, q69, rfl, h72, e70⟩ := itS h71
    replace h72 : flow_Spans_l2b p0 x46 xs58 x59 = some q69 := h72
    unfold flow_Spans_l2b at h72
    refine WP.usreg rfl ?_
    refine U.p rfl rfl (.inl rfl) (S.lss rfl (L 4 rfl rfl) (L 3 rfl rfl)) ?_
    refine U.done (Nat.le_of_ble_eq_true rfl) ?_
    refine WP.seq ?_
    refine WP.cond _ (L 0 rfl rfl) rfl (fun c73 => ?_) (fun c73 => ?_)
    · have h74 := ifT c73 h72
      refine WP.skip ?_
      refine sqN ?_
      refine WP.seq ?_
      refine WP.blk ?_
      refine WP.usreg rfl ?_
      refine U.p rfl rfl (.inl rfl) (S.move rfl (L 5 rfl rfl)) ?_
      obtain ⟨x75, hx76, h77⟩ := bindS h74
      obtain ⟨b78, o79, n80, c81, hv82⟩ := ow67.ospt (k := 2) rfl hx76
      obtain ⟨_, hv83, _⟩ := ow67.osel (k := 2) rfl hv82 hx76
      refine U.p rfl rfl (.inl rfl) (S.index rfl ((L 4 rfl rfl).trans hv83) (L 6 rfl rfl) Try.underlying27 ti29 (ix_ge hx76) (ix_lt hx76)) ?_
      obtain ⟨cs84, hv85, hlt86, hr87, hc88⟩ := ow67.osel (k := 2) rfl hv82 hx76
      obtain ⟨v89, rfl, f90⟩ := hr87
      refine U.k rfl rfl (.inl rfl) (S.load rfl (L 0 rfl rfl) Try.underlying29 rfl (hc88 0 _ rfl)) nd ?_
      refine U.p rfl rfl (.inl rfl) (S.assign rfl (L 2 rfl rfl)) ?_
      refine U.p rfl rfl (.inl rfl) (S.assign rfl (L 1 rfl rfl)) ?_
      refine U.done (Nat.le_of_ble_eq_true rfl) ?_
      refine WP.seq ?_
      refine WP.usreg rfl ?_
      refine U.p rfl rfl (.inl rfl) (S.move rfl (L 0 rfl rfl)) ?_
      refine U.p rfl rfl (.inl rfl) (f90.1.len rfl (L 0 rfl rfl) Try.underlying29) ?_
      refine U.p rfl rfl (.inl rfl) (S.move rfl K) ?_
      refine U.done (Nat.le_of_ble_eq_true rfl) ?_
      refine WP.blk ?_
      unfold flow_Spans_l3 at h77
      obtain ⟨n96, hn95⟩ := loopO_some.1 h77
      refine WP.loopI2 (fun n l V' => ∃ (v92 : Value) (xs93 : List Tflow_Span) (x94 : Int), l = [(1, .pointer (some ⟨b5, 0, none⟩)), (3, v92), (5, .int .i64 x59), (22, v49), (23, .int .i64 (x46.length : Int)), (24, .int .i64 x59), (29, v89), (30, .int .i64 (x75.length : Int)), (31, .int .i64 x94)] ∧ V65.le V' ∧ Ow V' (.pt b5 (.cells 0 [.string p0.name, .int .i64 p0.params, .int .i64 p0.regs, v1]) :: .os RT_Tflow_Span v92 xs93 :: .os (RT.sl RT.bool) v49 x46 :: Rs) ∧ itO (fun s => flow_Spans_l3b p0 x59 x75 s.1 s.2) n (xs93, x94) = some q69) n96 _ ⟨v57, xs58, 0, rfl, .refl _, ow67, hn95⟩ (allCons (L 9 rfl rfl) (allCons (L 10 rfl rfl) (allCons (L 4 rfl rfl) (allCons (L 11 rfl rfl) (allCons (L 12 rfl rfl) (allCons (L 13 rfl rfl) (allCons (L 2 rfl rfl) (allCons (L 1 rfl rfl) (allCons (L 0 rfl rfl) allNil))))))))) ?_
      rintro _ _ V97 ⟨v92, xs93, x94, rfl, le98, ow99, h103⟩
      obtain ⟨m100, q101, rfl, h104, e102⟩ := itS h103
      replace h104 : flow_Spans_l3b p0 x59 x75 xs93 x94 = some q101 := h104
      unfold flow_Spans_l3b at h104
      refine WP.usreg rfl ?_
      refine U.p rfl rfl (.inl rfl) (S.lss rfl (L 8 rfl rfl) (L 7 rfl rfl)) ?_
      refine U.done (Nat.le_of_ble_eq_true rfl) ?_
      refine WP.seq ?_
      refine WP.cond _ (L 0 rfl rfl) rfl (fun c105 => ?_) (fun c105 => ?_)
      · have h106 := ifT c105 h104
        refine WP.skip ?_
        refine sqN ?_
        refine WP.seqI (fun l V' => ∃ (v108 : Value) (xs109 : List Tflow_Span), l = [(1, .pointer (some ⟨b5, 0, none⟩)), (3, v108), (5, .int .i64 x59), (22, v49), (23, .int .i64 (x46.length : Int)), (24, .int .i64 x59), (29, v89), (30, .int .i64 (x75.length : Int)), (31, .int .i64 x94)] ∧ V97.le V' ∧ Ow V' (.pt b5 (.cells 0 [.string p0.name, .int .i64 p0.params, .int .i64 p0.regs, v1]) :: .os RT_Tflow_Span v108 xs109 :: .os (RT.sl RT.bool) v49 x46 :: Rs) ∧ flow_Spans_k1 x94 xs109 = some q101) ?_ ?_
        · rintro _ V110 ⟨v108, xs109, rfl, le111, ow112, h113⟩
          unfold flow_Spans_k1 at h113
          refine WP.ureg rfl ?_
          refine U.p rfl rfl (.inl rfl) (S.add rfl (L 8 rfl rfl) K) ?_
          refine U.p rfl rfl (.inl rfl) (S.move rfl (L 0 rfl rfl)) ?_
          refine U.done (Nat.le_of_ble_eq_true rfl) ?_
          refine sqN ?_
          exact ⟨_, V110, rfl, ⟨m100, Nat.lt_succ_self _, v108, xs109, w64 (x94 + 1), rfl, (le98.trans le111), ow112, backS h113 e102⟩, (allCons (L 2 rfl rfl) (allCons (L 3 rfl rfl) (allCons (L 4 rfl rfl) (allCons (L 5 rfl rfl) (allCons (L 6 rfl rfl) (allCons (L 7 rfl rfl) (allCons (L 8 rfl rfl) (allCons (L 9 rfl rfl) (allCons (L 0 rfl rfl) allNil)))))))))⟩
        · skip
          refine WP.blk ?_
          refine WP.usreg rfl ?_
          refine U.p rfl rfl (.inl rfl) (S.move rfl (L 9 rfl rfl)) ?_
          obtain ⟨x114, hx115, h116⟩ := bindS h106
          obtain ⟨b117, o118, c119, cs120, hv121, hf122, hr123, hc124⟩ := f90.at hx115
          obtain rfl : cs120 = [.bool x114] := hr123
          refine U.p rfl rfl (.inl rfl) (S.index rfl ((L 8 rfl rfl).trans hv121) (L 10 rfl rfl) Try.underlying29 ti4 (ix_ge hx115) (ix_lt hx115)) ?_
          refine U.k rfl rfl (.inl rfl) (S.load rfl (L 0 rfl rfl) Try.underlying4 rfl (le98.cell hf122 (hc124 0 _ rfl))) nd ?_
          refine U.p rfl rfl (.inl rfl) (S.assign rfl (L 2 rfl rfl)) ?_
          refine U.p rfl rfl (.inl rfl) (S.assign rfl (L 1 rfl rfl)) ?_
          refine U.done (Nat.le_of_ble_eq_true rfl) ?_
          refine WP.usreg rfl ?_
          refine U.p rfl rfl (.inl rfl) (S.move rfl (L 0 rfl rfl)) ?_
          refine U.done (Nat.le_of_ble_eq_true rfl) ?_
          refine WP.cond _ (L 0 rfl rfl) rfl (fun c125 => ?_) (fun c125 => ?_)
          · have h126 := ifT c125 h116
            refine WP.ureg rfl ?_
            refine U.p rfl rfl (.inl rfl) (S.move rfl (L 8 rfl rfl)) ?_
            refine U.p rfl rfl (.inl rfl) (S.move rfl (L 3 rfl rfl)) ?_
            refine U.p rfl rfl (.inl rfl) (S.move rfl (L 11 rfl rfl)) ?_
            have ow127 := ow99.pick 1 rfl
            obtain ⟨x128, hx129, h130⟩ := bindS h126
            refine O.call (V := V97) rfl rfl (.inl rfl) rfl en26 (aC (L 2 rfl rfl) (aC (L 1 rfl rfl) (aC (L 0 rfl rfl) aN))) (wk_flow_grow V97 _ xs93 x94 x59 v92 ow127 _ hx129) (fun _ _ _ _ => nd) (fun v131 V132 le133 hp134 => ?_)
            obtain ⟨_, rfl, ow135⟩ := hp134
            refine U.p rfl rfl (.inl rfl) (S.assign rfl (L 0 rfl rfl)) ?_
            refine U.done (Nat.le_of_ble_eq_true rfl) ?_
            refine blkN (sqN ?_)
            have ow138 := ow135.pick 2 rfl
            have ow139 := ow138.pick 1 rfl
            have ow140 := ow139.pick 2 rfl
            exact ⟨_, V132, rfl, ⟨v131, x128, rfl, le133, ow140, h130⟩, (allCons (L 12 rfl rfl) (allCons (L 0 rfl rfl) (allCons (L 14 rfl rfl) (allCons (L 15 rfl rfl) (allCons (L 16 rfl rfl) (allCons (L 17 rfl rfl) (allCons (L 18 rfl rfl) (allCons (L 19 rfl rfl) (allCons (L 20 rfl rfl) allNil)))))))))⟩
          · have h141 := ifF c125 h116
            refine WP.skip ?_
            refine blkN (sqN ?_)
            exact ⟨_, V97, rfl, ⟨v92, xs93, rfl, (.refl _), ow99, h141⟩, (allCons (L 7 rfl rfl) (allCons (L 8 rfl rfl) (allCons (L 9 rfl rfl) (allCons (L 10 rfl rfl) (allCons (L 11 rfl rfl) (allCons (L 12 rfl rfl) (allCons (L 13 rfl rfl) (allCons (L 14 rfl rfl) (allCons (L 15 rfl rfl) allNil)))))))))⟩
      · have h142 := ifF c105 h104
        refine WP.exit ?_
        refine sqE (sqE (blkE (sqN ?_)))
        have h143 := exitS h142 e102
        refine WP.usreg rfl ?_
        refine U.p (v := .pointer (some ⟨b5, 3, none⟩)) rfl rfl (.inl rfl) (S.fieldAddr rfl (L 1 rfl rfl) Try.underlying24 rfl ti22 rfl rfl) ?_
        refine U.k rfl rfl (.inl rfl) (S.load rfl (L 0 rfl rfl) Try.underlying22 rfl ((ow99.own (k := 0) rfl).cell rfl)) nd ?_
        refine U.p rfl rfl (.inl rfl) (S.move rfl (L 5 rfl rfl)) ?_
        obtain ⟨x144, hx145, h146⟩ := bindS h143
        obtain ⟨b147, o148, c149, cs150, hv151, hf152, hr153, hc154⟩ := f45.at hx145
        obtain ⟨v155, rfl, f156⟩ := hr153
        refine U.p rfl rfl (.inl rfl) (S.index rfl ((L 1 rfl rfl).trans hv151) (L 0 rfl rfl) Try.underlying22 ti33 (ix_ge hx145) (ix_lt hx145)) ?_
        refine U.k rfl rfl (.inl rfl) (S.loadN (cs := [.int .i64 x144.op, .int .i64 x144.d, .int .i64 x144.a, .int .i64 x144.b, .int .i64 x144.imm, v155, .int .i64 x144.what, .bool x144.volatile, .bool x144.final]) rfl (L 0 rfl rfl) Try.underlying33 rfl ti33 rfl (fun j v hj => ((le51.trans le66).trans le98).cell hf152 (hc154 j v hj))) nd ?_
        refine O.alloc ow99 rfl rfl (.inl rfl) rfl ti33 rfl rfl nd (fun b157 V158 le159 ow160 => ?_)
        refine O.store (k := 0) (cs := [.int .i64 x144.op, .int .i64 x144.d, .int .i64 x144.a, .int .i64 x144.b, .int .i64 x144.imm, v155, .int .i64 x144.what, .bool x144.volatile, .bool x144.final]) (c' := [.int .i64 x144.op, .int .i64 x144.d, .int .i64 x144.a, .int .i64 x144.b, .int .i64 x144.imm, v155, .int .i64 x144.what, .bool x144.volatile, .bool x144.final]) ow160 rfl rfl rfl (.inl rfl) rfl (L 0 rfl rfl) (L 1 rfl rfl) ti33 (by simp [topV]) rfl rfl (Nat.le_of_ble_eq_true rfl) (by have q0 := f156.one; simp only [List.all_cons, List.all_nil, q0]; rfl) rfl nd (fun V162 le163 ow164 => ?_)
        refine U.done (Nat.le_of_ble_eq_true rfl) ?_
        refine WP.usdreg rfl rfl rfl ?_
        refine U.k rfl rfl (.inl rfl) (S.loadB rfl (L 0 rfl rfl) Try.underlying33 rfl ti33 (ow164.own (k := 0) rfl).get rfl) (fun _ => (okH.nil (fun r h => by cases h; exact (ow164.own (k := 0) rfl).lt))) ?_
        have f165 := f156.up ((((le51.trans le66).trans le98).trans le159).trans le163)
        obtain ⟨x166, hx167, h168⟩ := bindS h146
        refine O.call (V := V162) rfl rfl (.inl rfl) rfl en12 (aC (L 0 rfl rfl) aN) (wk_ir_Uses V162 _ x144 v155 f165 ow164 _ hx167) (fun v169 V170 le171 hp172 => by obtain ⟨_, rfl, ow173⟩ := hp172; exact (fun _ => (okH.cons (Or.inl rfl) (okH.nil (fun r h => nomatch h))))) (fun v169 V170 le171 hp172 => ?_)
        obtain ⟨_, rfl, ow173⟩ := hp172
        refine U.k rfl rfl (.inl rfl) (S.loadB rfl (L 2 rfl rfl) Try.underlying33 rfl ti33 (ow173.own (k := 1) rfl).get rfl) (fun _ => (okH.cons (Or.inr ((ow173.own (k := 1) rfl).get.trans (ow164.own (k := 0) rfl).get.symm)) (okH.cons trivial (okH.nil (fun r h => by cases h; exact (ow173.own (k := 1) rfl).lt))))) ?_
        have f176 := f165.up le171
        obtain ⟨x177, hx178, h179⟩ := bindS h168
        refine O.call (V := V170) rfl rfl (.inl rfl) rfl en14 (aC (L 0 rfl rfl) aN) (wk_ir_Def V170 _ x144 v155 f176 ow173 _ hx178) (fun v180 V181 le182 hp183 => by obtain ⟨rfl, ow184⟩ := hp183; exact (fun _ => (okH.cons (Or.inl rfl) (okH.cons rfl (okH.cons (Or.inl rfl) (okH.nil (fun r h => nomatch h))))))) (fun v180 V181 le182 hp183 => ?_)
        obtain ⟨rfl, ow184⟩ := hp183
        refine O.lit (R := (RT.int .i64)) ow184 rfl rfl (.inl rfl) rfl Try.underlying31 ti3 rfl rfl rfl (Nat.le_of_ble_eq_true rfl) rfl (aC (L 0 rfl rfl) aN) (.cons _ _ x177 _ (by simp [topV]) rfl .nil) (fun _ => (fun _ => (okH.cons trivial (okH.cons trivial (okH.cons trivial (okH.cons trivial (okH.nil (fun r h => nomatch h)))))))) (fun v185 V186 le187 ow188 => ?_)
        obtain ⟨xs190, hx191, h192⟩ := bindS h179
        refine O.append (k := 1) ow188 rfl rfl rfl (.inl rfl) rfl (L 3 rfl rfl) (L 0 rfl rfl) Try.underlying31 ti3 rfl rfl (Nat.le_of_ble_eq_true rfl) (ow188.src (k := 0) rfl Try.underlying31) hx191 (fun V1 hs => (fun _ => (okH.cons (Or.inl rfl) (okH.cons rfl (okH.cons (Or.inl rfl) (okH.cons rfl (okH.cons (Or.inl rfl) (okH.nil (fun r h => nomatch h))))))))) (fun v193 V194 le195 ow196 => ?_)
        refine U.p rfl rfl (.inl rfl) (ow196.oslen (k := 1) rfl rfl (L 0 rfl rfl) Try.underlying31) ?_
        refine U.p rfl rfl (.inl rfl) (S.move rfl K) ?_
        refine U.done (Nat.le_of_ble_eq_true rfl) ?_
        refine WP.blk ?_
        have ow202 := ow196.drop 0 rfl
        have ow203 := ow202.drop 1 rfl
        have ow204 := ow203.pick 0 rfl
        have ow205 := ow204.pick 3 rfl
        have ow206 := ow205.pick 3 rfl
        have ow207 := ow206.pick 3 rfl
        unfold flow_Spans_l4 at h192
        obtain ⟨n209, hn208⟩ := loopO_some.1 h192
        refine WP.loopI2 (fun n l V' => ∃ (v199 : Value) (xs200 : List Tflow_Span) (x201 : Int), l = [(1, .pointer (some ⟨b5, 0, none⟩)), (3, v199), (5, .int .i64 x59), (22, v49), (23, .int .i64 (x46.length : Int)), (24, .int .i64 x59), (52, v193), (53, .int .i64 (xs190.length : Int)), (54, .int .i64 x201)] ∧ V194.le V' ∧ Ow V' (.pt b5 (.cells 0 [.string p0.name, .int .i64 p0.params, .int .i64 p0.regs, v1]) :: .os RT_Tflow_Span v199 xs200 :: .os (RT.sl RT.bool) v49 x46 :: .os (RT.int .i64) v193 xs190 :: Rs) ∧ itO (fun s => flow_Spans_l4b x59 xs190 s.1 s.2) n (xs200, x201) = some q69) n209 _ ⟨v92, xs93, 0, rfl, .refl _, ow207, hn208⟩ (allCons (L 15 rfl rfl) (allCons (L 16 rfl rfl) (allCons (L 17 rfl rfl) (allCons (L 18 rfl rfl) (allCons (L 19 rfl rfl) (allCons (L 20 rfl rfl) (allCons (L 2 rfl rfl) (allCons (L 1 rfl rfl) (allCons (L 0 rfl rfl) allNil))))))))) ?_
        rintro _ _ V210 ⟨v199, xs200, x201, rfl, le211, ow212, h216⟩
        obtain ⟨m213, q214, rfl, h217, e215⟩ := itS h216
        replace h217 : flow_Spans_l4b x59 xs190 xs200 x201 = some q214 := h217
        unfold flow_Spans_l4b at h217
        refine WP.usreg rfl ?_
        refine U.p rfl rfl (.inl rfl) (S.lss rfl (L 8 rfl rfl) (L 7 rfl rfl)) ?_
        refine U.done (Nat.le_of_ble_eq_true rfl) ?_
        refine WP.seq ?_
        refine WP.cond _ (L 0 rfl rfl) rfl (fun c218 => ?_) (fun c218 => ?_)
        · have h219 := ifT c218 h217
          refine WP.skip ?_
          refine sqN ?_
          refine WP.seqI (fun l V' => ∃ (v221 : Value) (xs222 : List Tflow_Span), l = [(1, .pointer (some ⟨b5, 0, none⟩)), (3, v221), (5, .int .i64 x59), (22, v49), (23, .int .i64 (x46.length : Int)), (24, .int .i64 x59), (52, v193), (53, .int .i64 (xs190.length : Int)), (54, .int .i64 x201)] ∧ V210.le V' ∧ Ow V' (.pt b5 (.cells 0 [.string p0.name, .int .i64 p0.params, .int .i64 p0.regs, v1]) :: .os RT_Tflow_Span v221 xs222 :: .os (RT.sl RT.bool) v49 x46 :: .os (RT.int .i64) v193 xs190 :: Rs) ∧ flow_Spans_k2 x201 xs222 = some q214) ?_ ?_
          · rintro _ V223 ⟨v221, xs222, rfl, le224, ow225, h226⟩
            unfold flow_Spans_k2 at h226
            refine WP.ureg rfl ?_
            refine U.p rfl rfl (.inl rfl) (S.add rfl (L 8 rfl rfl) K) ?_
            refine U.p rfl rfl (.inl rfl) (S.move rfl (L 0 rfl rfl)) ?_
            refine U.done (Nat.le_of_ble_eq_true rfl) ?_
            refine sqN ?_
            exact ⟨_, V223, rfl, ⟨m213, Nat.lt_succ_self _, v221, xs222, w64 (x201 + 1), rfl, (le211.trans le224), ow225, backS h226 e215⟩, (allCons (L 2 rfl rfl) (allCons (L 3 rfl rfl) (allCons (L 4 rfl rfl) (allCons (L 5 rfl rfl) (allCons (L 6 rfl rfl) (allCons (L 7 rfl rfl) (allCons (L 8 rfl rfl) (allCons (L 9 rfl rfl) (allCons (L 0 rfl rfl) allNil)))))))))⟩
          · skip
            refine WP.blk ?_
            refine WP.usreg rfl ?_
            obtain ⟨x227, hx228, h229⟩ := bindS h219
            obtain ⟨b230, o231, n232, c233, hv234⟩ := ow212.ospt (k := 3) rfl hx228
            obtain ⟨_, hv235, _⟩ := ow212.osel (k := 3) rfl hv234 hx228
            refine U.p rfl rfl (.inl rfl) (S.index rfl ((L 7 rfl rfl).trans hv235) (L 9 rfl rfl) Try.underlying31 ti3 (ix_ge hx228) (ix_lt hx228)) ?_
            obtain ⟨cs236, hv237, hlt238, hr239, hc240⟩ := ow212.osel (k := 3) rfl hv234 hx228
            obtain rfl : cs236 = [.int .i64 x227] := hr239
            refine U.k rfl rfl (.inl rfl) (S.load rfl (L 0 rfl rfl) Try.underlying3 rfl (hc240 0 _ rfl)) nd ?_
            refine U.p rfl rfl (.inl rfl) (S.assign rfl (L 0 rfl rfl)) ?_
            refine U.done (Nat.le_of_ble_eq_true rfl) ?_
            refine WP.usreg rfl ?_
            refine U.p rfl rfl (.inl rfl) (S.move rfl (L 0 rfl rfl)) ?_
            refine U.p rfl rfl (.inl rfl) (S.geq rfl (L 0 rfl rfl) K) ?_
            refine U.done (Nat.le_of_ble_eq_true rfl) ?_
            refine WP.cond _ (L 0 rfl rfl) rfl (fun c241 => ?_) (fun c241 => ?_)
            · have h242 := ifT c241 h229
              refine WP.ureg rfl ?_
              refine U.p rfl rfl (.inl rfl) (S.move rfl (L 7 rfl rfl)) ?_
              refine U.p rfl rfl (.inl rfl) (S.move rfl (L 3 rfl rfl)) ?_
              refine U.p rfl rfl (.inl rfl) (S.move rfl (L 10 rfl rfl)) ?_
              have ow243 := ow212.pick 1 rfl
              obtain ⟨x244, hx245, h246⟩ := bindS h242
              refine O.call (V := V210) rfl rfl (.inl rfl) rfl en26 (aC (L 2 rfl rfl) (aC (L 1 rfl rfl) (aC (L 0 rfl rfl) aN))) (wk_flow_grow V210 _ xs200 x227 x59 v199 ow243 _ hx245) (fun _ _ _ _ => nd) (fun v247 V248 le249 hp250 => ?_)
              obtain ⟨_, rfl, ow251⟩ := hp250
              refine U.p rfl rfl (.inl rfl) (S.assign rfl (L 0 rfl rfl)) ?_
              refine U.done (Nat.le_of_ble_eq_true rfl) ?_
              refine blkN (sqN ?_)
              have ow254 := ow251.pick 3 rfl
              have ow255 := ow254.pick 3 rfl
              have ow256 := ow255.pick 2 rfl
              have ow257 := ow256.pick 3 rfl
              exact ⟨_, V248, rfl, ⟨v247, x244, rfl, le249, ow257, h246⟩, (allCons (L 11 rfl rfl) (allCons (L 0 rfl rfl) (allCons (L 13 rfl rfl) (allCons (L 14 rfl rfl) (allCons (L 15 rfl rfl) (allCons (L 16 rfl rfl) (allCons (L 17 rfl rfl) (allCons (L 18 rfl rfl) (allCons (L 19 rfl rfl) allNil)))))))))⟩
            · have h258 := ifF c241 h229
              refine WP.skip ?_
              refine blkN (sqN ?_)
              exact ⟨_, V210, rfl, ⟨v199, xs200, rfl, (.refl _), ow212, h258⟩, (allCons (L 6 rfl rfl) (allCons (L 7 rfl rfl) (allCons (L 8 rfl rfl) (allCons (L 9 rfl rfl) (allCons (L 10 rfl rfl) (allCons (L 11 rfl rfl) (allCons (L 12 rfl rfl) (allCons (L 13 rfl rfl) (allCons (L 14 rfl rfl) allNil)))))))))⟩
        · have h259 := ifF c218 h217
          refine WP.exit ?_
          refine sqE (sqE (blkE (blkN (sqN ?_))))
          have h260 := exitS h259 e215
          refine WP.ureg rfl ?_
          refine U.p rfl rfl (.inl rfl) (S.add rfl (L 6 rfl rfl) K) ?_
          refine U.p rfl rfl (.inl rfl) (S.move rfl (L 0 rfl rfl)) ?_
          refine U.done (Nat.le_of_ble_eq_true rfl) ?_
          refine sqN ?_
          have ow261 := ow212.drop 3 rfl
          exact ⟨_, V210, rfl, ⟨m68, Nat.lt_succ_self _, v199, xs200, w64 (x59 + 1), rfl, ((((((((le66.trans le98).trans le159).trans le163).trans le171).trans le182).trans le187).trans le195).trans le211), ow261, backS h260 e70⟩, (allCons (L 3 rfl rfl) (allCons (L 4 rfl rfl) (allCons (L 6 rfl rfl) (allCons (L 7 rfl rfl) (allCons (L 0 rfl rfl) allNil)))))⟩
    · have h262 := ifF c73 h72
      refine WP.exit ?_
      refine sqE (sqE (blkE (sqN ?_)))
      have h263 := exitS h262 e70
      refine WP.usreg rfl ?_
      refine U.p rfl rfl (.inl rfl) (S.move rfl (L 2 rfl rfl)) ?_
      have ow264 := ow67.pick 1 rfl
      obtain ⟨x265, hx266, h267⟩ := bindS h263
      refine O.call (V := V65) rfl rfl (.inl rfl) rfl en27 (aC (L 0 rfl rfl) (aC Fu aN)) (wk_slices_SortFunc V65 _ xs58 v57 ow264 _ hx266) (fun _ _ _ _ => nd) (fun v268 V269 le270 hp271 => ?_)
      have ow272 := hp271
      refine U.done (Nat.le_of_ble_eq_true rfl) ?_
      refine WP.usreg rfl ?_
      refine U.p rfl rfl (.inl rfl) (S.move rfl (L 4 rfl rfl)) ?_
      refine U.p rfl rfl (.inl rfl) (S.assign rfl (L 0 rfl rfl)) ?_
      refine U.done (Nat.le_of_ble_eq_true rfl) ?_
      refine WP.ret ?_
      refine fin.slot (.inr rfl) rfl (L 0 rfl rfl) ⟨V269, rfl, ((((le7.trans le21).trans le51).trans le66).trans le270), ?_⟩
      have ow273 := ow272.drop 1 rfl
      have ow274 := ow273.drop 1 rfl
      have e275 := Option.some.inj h267
      subst e275
      exact ⟨v57, rfl, ow274⟩

set_option maxHeartbeats 4000000 in
set_option maxRecDepth 10000 in
theorem wk_ref10_reads (V : Vw) (Rs : List At) (p0 : TIns) (p1 : Int) (v1 : Value) (f2 : Fz (RT.int .i64) V v1 p0.args) (ow : Ow V (Rs)) (r : Bool) (h : ref10_reads p0 p1 = some r) : ∃ v V', Cl Try.prog 0 23 #[.agg #[.int .i64 p0.op, .int .i64 p0.d, .int .i64 p0.a, .int .i64 p0.b, .int .i64 p0.imm, v1, .int .i64 p0.what, .bool p0.volatile, .bool p0.final], .int .i64 p1] V.H v V'.H ∧ V.le V' ∧ (v = .bool r ∧ Ow V' (Rs)) := by
  refine Ct.of (Nat.zero_le _) Try.func23 rfl (Nat.le_of_ble_eq_true rfl) ?_
  unfold ref10_reads at h
  refine WP.usreg rfl ?_
  refine O.box ow rfl rfl (.inl rfl) rfl (L 0 rfl rfl) (by simp [topV]) rfl nd (fun b3 V4 le5 ow6 => ?_)
  refine U.p rfl rfl (.inl rfl) (S.assign rfl K) ?_
  refine U.done (Nat.le_of_ble_eq_true rfl) ?_
  refine WP.seq ?_
  refine WP.usreg rfl ?_
  refine U.p (v := .pointer (some ⟨b3, 5, none⟩)) rfl rfl (.inl rfl) (S.fieldAddr rfl (L 1 rfl rfl) Try.underlying33 rfl ti31 rfl rfl) ?_
  refine U.k rfl rfl (.inl rfl) (S.load rfl (L 0 rfl rfl) Try.underlying31 rfl ((ow6.own (k := 0) rfl).cell rfl)) nd ?_
  refine U.p rfl rfl (.inl rfl) (f2.1.len rfl (L 0 rfl rfl) Try.underlying31) ?_
  refine U.p rfl rfl (.inl rfl) (S.move rfl K) ?_
  refine U.done (Nat.le_of_ble_eq_true rfl) ?_
  refine WP.blk ?_
  unfold ref10_reads_l1 at h
  obtain ⟨n10, hn9⟩ := loopO_some.1 h
  refine WP.loopI2 (fun n l V' => ∃ (x8 : Int), l = [(1, .int .i64 p1), (2, .pointer (some ⟨b3, 0, none⟩)), (8, v1), (9, .int .i64 (p0.args.length : Int)), (10, .int .i64 x8)] ∧ V4.le V' ∧ Ow V' (.pt b3 (.cells 0 [.int .i64 p0.op, .int .i64 p0.d, .int .i64 p0.a, .int .i64 p0.b, .int .i64 p0.imm, v1, .int .i64 p0.what, .bool p0.volatile, .bool p0.final]) :: Rs) ∧ itO (fun s => ref10_reads_l1b p0 p1 s) n x8 = some r) n10 _ ⟨0, rfl, .refl _, ow6, hn9⟩ (allCons (L 7 rfl rfl) (allCons (L 5 rfl rfl) (allCons (L 2 rfl rfl) (allCons (L 1 rfl rfl) (allCons (L 0 rfl rfl) allNil))))) ?_
  rintro _ _ V11 ⟨x8, rfl, le12, ow13, h17⟩
  obtain ⟨m14, q15, rfl, h18, e16⟩ := itS h17
  replace h18 : ref10_reads_l1b p0 p1 x8 = some q15 := h18
  unfold ref10_reads_l1b at h18
  refine WP.usreg rfl ?_
  refine U.p rfl rfl (.inl rfl) (S.lss rfl (L 4 rfl rfl) (L 3 rfl rfl)) ?_
  refine U.done (Nat.le_of_ble_eq_true rfl) ?_
  refine WP.seq ?_
  refine WP.cond _ (L 0 rfl rfl) rfl (fun c19 => ?_) (fun c19 => ?_)
  · have h20 := ifT c19 h18
    refine WP.skip ?_
    refine sqN ?_
    refine WP.seq ?_
    refine WP.blk ?_
    refine WP.usreg rfl ?_
    obtain ⟨x21, hx22, h23⟩ := bindS h20
    obtain ⟨b24, o25, c26, cs27, hv28, hf29, hr30, hc31⟩ := f2.at hx22
    obtain rfl : cs27 = [.int .i64 x21] := hr30
    refine U.p rfl rfl (.inl rfl) (S.index rfl ((L 3 rfl rfl).trans hv28) (L 5 rfl rfl) Try.underlying31 ti3 (ix_ge hx22) (ix_lt hx22)) ?_
    refine U.k rfl rfl (.inl rfl) (S.load rfl (L 0 rfl rfl) Try.underlying3 rfl ((le5.trans le12).cell hf29 (hc31 0 _ rfl))) nd ?_
    refine U.p rfl rfl (.inl rfl) (S.assign rfl (L 0 rfl rfl)) ?_
    refine U.done (Nat.le_of_ble_eq_true rfl) ?_
    refine WP.usreg rfl ?_
    refine U.p rfl rfl (.inl rfl) (S.move rfl (L 0 rfl rfl)) ?_
    refine U.p rfl rfl (.inl rfl) (S.move rfl (L 5 rfl rfl)) ?_
    refine U.p rfl rfl (.inl rfl) (S.eqlI rfl (L 1 rfl rfl) (L 0 rfl rfl)) ?_
    refine U.done (Nat.le_of_ble_eq_true rfl) ?_
    refine WP.cond _ (L 0 rfl rfl) rfl (fun c32 => ?_) (fun c32 => ?_)
    · have h33 := ifT c32 h23
      refine WP.usreg rfl ?_
      refine U.p rfl rfl (.inl rfl) (S.assign rfl K) ?_
      refine U.done (Nat.le_of_ble_eq_true rfl) ?_
      refine WP.ret ?_
      refine blkR (sqR (sqR (blkR (sqR ?_))))
      have h34 := exitS h33 e16
      refine fin.slot (.inr rfl) rfl (L 0 rfl rfl) ⟨V11, rfl, (le5.trans le12), ?_⟩
      have ow35 := ow13.drop 0 rfl
      have e36 := Option.some.inj h34
      subst e36
      exact ⟨rfl, ow35⟩
    · have h37 := ifF c32 h23
      refine WP.skip ?_
      refine blkN (sqN ?_)
      refine WP.ureg rfl ?_
      refine U.p rfl rfl (.inl rfl) (S.add rfl (L 11 rfl rfl) K) ?_
      refine U.p rfl rfl (.inl rfl) (S.move rfl (L 0 rfl rfl)) ?_
      refine U.done (Nat.le_of_ble_eq_true rfl) ?_
      refine sqN ?_
      exact ⟨_, V11, rfl, ⟨m14, Nat.lt_succ_self _, w64 (x8 + 1), rfl, le12, ow13, backS h37 e16⟩, (allCons (L 9 rfl rfl) (allCons (L 10 rfl rfl) (allCons (L 11 rfl rfl) (allCons (L 12 rfl rfl) (allCons (L 0 rfl rfl) allNil)))))⟩
  · have h38 := ifF c19 h18
    refine WP.exit ?_
    refine sqE (sqE (blkE (sqN ?_)))
    have h39 := exitS h38 e16
    refine WP.usreg rfl ?_
    refine U.p (v := .pointer (some ⟨b3, 2, none⟩)) rfl rfl (.inl rfl) (S.fieldAddr rfl (L 2 rfl rfl) Try.underlying33 rfl ti3 rfl rfl) ?_
    refine U.k rfl rfl (.inl rfl) (S.load rfl (L 0 rfl rfl) Try.underlying3 rfl ((ow13.own (k := 0) rfl).cell rfl)) nd ?_
    refine U.p rfl rfl (.inl rfl) (S.move rfl (L 3 rfl rfl)) ?_
    refine U.p rfl rfl (.inl rfl) (S.eqlI rfl (L 1 rfl rfl) (L 0 rfl rfl)) ?_
    refine U.p rfl rfl (.inl rfl) (S.move rfl (L 0 rfl rfl)) ?_
    refine U.joinX 10 (fun e H => ∃ (u40 u41 u42 u43 : Value), H = V11.H ∧ e = [(27, .bool ((decide (p0.a = p1)) || (decide (p0.b = p1)))), (26, u40), (25, u41), (24, u42), (23, u43)]) ?_ ?_
    · rintro _ _ ⟨u40, u41, u42, u43, rfl, rfl⟩
      refine U.p rfl rfl (.inl rfl) (S.assign rfl (L 0 rfl rfl)) ?_
      refine U.done (Nat.le_of_ble_eq_true rfl) ?_
      refine WP.ret ?_
      refine fin.slot (.inr rfl) rfl (L 0 rfl rfl) ⟨V11, rfl, (le5.trans le12), ?_⟩
      have ow47 := ow13.drop 0 rfl
      have e48 := Option.some.inj h39
      subst e48
      exact ⟨rfl, ow47⟩
    · intro kk
      refine bcase (b := decide (p0.a = p1)) (fun g49 => ?_) (fun g49 => ?_)
      · skip
        refine U.x rfl rfl rfl rfl ((L 0 rfl rfl).trans (congrArg Value.bool g49)) (by decide) ?_
        refine U.x rfl rfl rfl rfl ((L 1 rfl rfl).trans (congrArg Value.bool g49)) (by decide) ?_
        refine U.x rfl rfl rfl rfl ((L 2 rfl rfl).trans (congrArg Value.bool g49)) (by decide) ?_
        refine U.x rfl rfl rfl rfl ((L 3 rfl rfl).trans (congrArg Value.bool g49)) (by decide) ?_
        refine U.p rfl rfl (.inl rfl) (S.pickT rfl ((L 4 rfl rfl).trans (congrArg Value.bool g49)) K) ?_
        exact kk [(27, .bool true), (26, .tuple #[]), (25, .tuple #[]), (24, .tuple #[]), (23, .tuple #[])] _ ⟨.tuple #[], .tuple #[], .tuple #[], .tuple #[], rfl, (by rw [g49, Bool.true_or])⟩
      · skip
        refine U.p (v := .pointer (some ⟨b3, 3, none⟩)) rfl rfl (.inr ⟨_, _, _, rfl, rfl, ((L 0 rfl rfl).trans (congrArg Value.bool g49))⟩) (S.fieldAddr rfl (L 7 rfl rfl) Try.underlying33 rfl ti3 rfl rfl) ?_
        refine U.k rfl rfl (.inr ⟨_, _, _, rfl, rfl, ((L 1 rfl rfl).trans (congrArg Value.bool g49))⟩) (S.load rfl (L 0 rfl rfl) Try.underlying3 rfl ((ow13.own (k := 0) rfl).cell rfl)) nd ?_
        refine U.p rfl rfl (.inr ⟨_, _, _, rfl, rfl, ((L 2 rfl rfl).trans (congrArg Value.bool g49))⟩) (S.move rfl (L 8 rfl rfl)) ?_
        refine U.p rfl rfl (.inr ⟨_, _, _, rfl, rfl, ((L 3 rfl rfl).trans (congrArg Value.bool g49))⟩) (S.eqlI rfl (L 1 rfl rfl) (L 0 rfl rfl)) ?_
        refine U.p rfl rfl (.inl rfl) (S.pickF rfl ((L 4 rfl rfl).trans (congrArg Value.bool g49)) (L 0 rfl rfl)) ?_
        exact kk [(27, .bool (decide (p0.b = p1))), (26, .bool (decide (p0.b = p1))), (25, .int .i64 p1), (24, .int .i64 p0.b), (23, .pointer (some ⟨b3, 3, none⟩))] _ ⟨.bool (decide (p0.b = p1)), .int .i64 p1, .int .i64 p0.b, .pointer (some ⟨b3, 3, none⟩), rfl, (by rw [g49, Bool.false_or])⟩

set_option maxHeartbeats 4000000 in
set_option maxRecDepth 10000 in
theorem wk_ref10_Next (V : Vw) (Rs : List At) (p0 : TFunc) (p1 : Int) (v1 : Value) (f2 : Fz RT_TIns V v1 p0.code) (ow : Ow V (Rs)) (r : List Int) (h : ref10_Next p0 p1 = some r) : ∃ v V', Cl Try.prog 0 16 #[.agg #[.string p0.name, .int .i64 p0.params, .int .i64 p0.regs, v1], .int .i64 p1] V.H v V'.H ∧ V.le V' ∧ (∃ (v3 : Value), v = v3 ∧ Ow V' (.os (RT.int .i64) v3 r :: Rs)) := by
  refine Ct.of (Nat.zero_le _) Try.func16 rfl (Nat.le_of_ble_eq_true rfl) ?_
  unfold ref10_Next at h
  refine WP.usreg rfl ?_
  refine O.box ow rfl rfl (.inl rfl) rfl (L 0 rfl rfl) (by simp [topV]) rfl nd (fun b5 V6 le7 ow8 => ?_)
  refine U.p rfl rfl (.inl rfl) (S.assign rfl K) ?_
  refine U.done (Nat.le_of_ble_eq_true rfl) ?_
  refine WP.seq ?_
  refine WP.usreg rfl ?_
  refine U.p rfl rfl (.inl rfl) (S.move rfl (L 3 rfl rfl)) ?_
  refine U.p rfl rfl (.inl rfl) (S.lss rfl (L 0 rfl rfl) K) ?_
  refine U.p rfl rfl (.inl rfl) (S.move rfl (L 0 rfl rfl)) ?_
  refine U.joinX 9 (fun e H => ∃ (u10 u11 u12 u13 u14 : Value), H = V6.H ∧ e = [(17, .bool ((decide (p1 < 0)) || (decide ((p0.code.length : Int) ≤ p1)))), (16, u10), (15, u11), (14, u12), (13, u13), (12, u14)]) ?_ ?_
  · rintro _ _ ⟨u10, u11, u12, u13, u14, rfl, rfl⟩
    refine U.done (Nat.le_of_ble_eq_true rfl) ?_
    refine WP.cond _ (L 0 rfl rfl) rfl (fun c18 => ?_) (fun c18 => ?_)
    · have h19 := ifT c18 h
      refine WP.usreg rfl ?_
      refine U.p rfl rfl (.inl rfl) (S.assign rfl K) ?_
      refine U.done (Nat.le_of_ble_eq_true rfl) ?_
      refine WP.ret ?_
      refine sqR ?_
      have ow20 := ow8.nil (RT.int .i64)
      refine fin.slot (.inr rfl) rfl (L 0 rfl rfl) ⟨V6, rfl, le7, ?_⟩
      have ow22 := ow20.drop 1 rfl
      have e23 := Option.some.inj h19
      subst e23
      exact ⟨(.slice none 0 0), rfl, ow22⟩
    · have h24 := ifF c18 h
      refine WP.skip ?_
      refine sqN ?_
      refine WP.usreg rfl ?_
      refine U.p (v := .pointer (some ⟨b5, 3, none⟩)) rfl rfl (.inl rfl) (S.fieldAddr rfl (L 10 rfl rfl) Try.underlying24 rfl ti22 rfl rfl) ?_
      refine U.k rfl rfl (.inl rfl) (S.load rfl (L 0 rfl rfl) Try.underlying22 rfl ((ow8.own (k := 0) rfl).cell rfl)) nd ?_
      refine U.p rfl rfl (.inl rfl) (S.move rfl (L 14 rfl rfl)) ?_
      obtain ⟨x25, hx26, h27⟩ := bindS h24
      obtain ⟨b28, o29, c30, cs31, hv32, hf33, hr34, hc35⟩ := f2.at hx26
      obtain ⟨v36, rfl, f37⟩ := hr34
      refine U.p rfl rfl (.inl rfl) (S.index rfl ((L 1 rfl rfl).trans hv32) (L 0 rfl rfl) Try.underlying22 ti33 (ix_ge hx26) (ix_lt hx26)) ?_
      refine U.k rfl rfl (.inl rfl) (S.loadN (cs := [.int .i64 x25.op, .int .i64 x25.d, .int .i64 x25.a, .int .i64 x25.b, .int .i64 x25.imm, v36, .int .i64 x25.what, .bool x25.volatile, .bool x25.final]) rfl (L 0 rfl rfl) Try.underlying33 rfl ti33 rfl (fun j v hj => le7.cell hf33 (hc35 j v hj))) nd ?_
      refine O.alloc ow8 rfl rfl (.inl rfl) rfl ti33 rfl rfl nd (fun b38 V39 le40 ow41 => ?_)
      refine O.store (k := 0) (cs := [.int .i64 x25.op, .int .i64 x25.d, .int .i64 x25.a, .int .i64 x25.b, .int .i64 x25.imm, v36, .int .i64 x25.what, .bool x25.volatile, .bool x25.final]) (c' := [.int .i64 x25.op, .int .i64 x25.d, .int .i64 x25.a, .int .i64 x25.b, .int .i64 x25.imm, v36, .int .i64 x25.what, .bool x25.volatile, .bool x25.final]) ow41 rfl rfl rfl (.inl rfl) rfl (L 0 rfl rfl) (L 1 rfl rfl) ti33 (by simp [topV]) rfl rfl (Nat.le_of_ble_eq_true rfl) (by have q0 := f37.one; simp only [List.all_cons, List.all_nil, q0]; rfl) rfl nd (fun V43 le44 ow45 => ?_)
      refine U.done (Nat.le_of_ble_eq_true rfl) ?_
      refine WP.usreg rfl ?_
      refine U.p rfl rfl (.inl rfl) (S.assign rfl K) ?_
      refine U.done (Nat.le_of_ble_eq_true rfl) ?_
      refine WP.seqI (fun l V' => ∃ (v47 : Value) (xs48 : List Int), l = [(2, .pointer (some ⟨b5, 0, none⟩)), (5, .pointer (some ⟨b38, 0, none⟩)), (6, v47)] ∧ V43.le V' ∧ Ow V' (.pt b5 (.cells 0 [.string p0.name, .int .i64 p0.params, .int .i64 p0.regs, v1]) :: .pt b38 (.cells 9 [.int .i64 x25.op, .int .i64 x25.d, .int .i64 x25.a, .int .i64 x25.b, .int .i64 x25.imm, v36, .int .i64 x25.what, .bool x25.volatile, .bool x25.final]) :: .os (RT.int .i64) v47 xs48 :: Rs) ∧ ref10_Next_k1 p0 x25 xs48 = some r) ?_ ?_
      · rintro _ V49 ⟨v47, xs48, rfl, le50, ow51, h52⟩
        unfold ref10_Next_k1 at h52
        refine WP.seqI (fun l V' => ∃ (v54 : Value) (xs55 : List Int), l = [(6, v54)] ∧ V49.le V' ∧ Ow V' (.os (RT.int .i64) v54 xs55 :: Rs) ∧ ref10_Next_k2 xs55 = some r) ?_ ?_
        · rintro _ V56 ⟨v54, xs55, rfl, le57, ow58, h59⟩
          unfold ref10_Next_k2 at h59
          refine WP.usreg rfl ?_
          refine U.p rfl rfl (.inl rfl) (S.move rfl (L 0 rfl rfl)) ?_
          refine U.p rfl rfl (.inl rfl) (S.assign rfl (L 0 rfl rfl)) ?_
          refine U.done (Nat.le_of_ble_eq_true rfl) ?_
          refine WP.ret ?_
          refine fin.slot (.inr rfl) rfl (L 0 rfl rfl) ⟨V56, rfl, ((((le7.trans le40).trans le44).trans le50).trans le57), ?_⟩
          have e60 := Option.some.inj h59
          subst e60
          exact ⟨v54, rfl, ow58⟩
        · skip
          refine WP.usreg rfl ?_
          refine U.p (v := .pointer (some ⟨b38, 0, none⟩)) rfl rfl (.inl rfl) (S.fieldAddr rfl (L 1 rfl rfl) Try.underlying33 rfl ti3 rfl rfl) ?_
          refine U.k rfl rfl (.inl rfl) (S.load rfl (L 0 rfl rfl) Try.underlying3 rfl ((ow51.own (k := 1) rfl).cell rfl)) nd ?_
          refine U.p rfl rfl (.inl rfl) (S.eqlI rfl (L 0 rfl rfl) K) ?_
          refine U.p rfl rfl (.inl rfl) (S.move rfl (L 0 rfl rfl)) ?_
          refine U.joinX 8 (fun e H => ∃ (u61 u62 u63 : Value), H = V49.H ∧ e = [(56, .bool ((decide (x25.op = 12)) || (decide (x25.op = 13)))), (55, u61), (54, u62), (53, u63)]) ?_ ?_
          · rintro _ _ ⟨u61, u62, u63, rfl, rfl⟩
            refine U.p rfl rfl (.inl rfl) (S.move rfl (L 0 rfl rfl)) ?_
            refine U.joinX 13 (fun e H => ∃ (u67 u68 u69 : Value), H = V49.H ∧ e = [(61, .bool (((decide (x25.op = 12)) || (decide (x25.op = 13))) || (decide (x25.op = 17)))), (60, u67), (59, u68), (58, u69)]) ?_ ?_
            · rintro _ _ ⟨u67, u68, u69, rfl, rfl⟩
              refine U.done (Nat.le_of_ble_eq_true rfl) ?_
              refine WP.cond _ (L 0 rfl rfl) rfl (fun c73 => ?_) (fun c73 => ?_)
              · have h74 := ifT c73 h52
                refine WP.usreg rfl ?_
                refine U.p (v := .pointer (some ⟨b5, 3, none⟩)) rfl rfl (.inl rfl) (S.fieldAddr rfl (L 13 rfl rfl) Try.underlying24 rfl ti22 rfl rfl) ?_
                refine U.k rfl rfl (.inl rfl) (S.load rfl (L 0 rfl rfl) Try.underlying22 rfl ((ow51.own (k := 0) rfl).cell rfl)) nd ?_
                refine U.p rfl rfl (.inl rfl) (f2.1.len rfl (L 0 rfl rfl) Try.underlying22) ?_
                refine U.p rfl rfl (.inl rfl) (S.move rfl K) ?_
                refine U.done (Nat.le_of_ble_eq_true rfl) ?_
                refine WP.blk ?_
                have ow79 := ow51.drop 0 rfl
                unfold ref10_Next_l1 at h74
                obtain ⟨n81, hn80⟩ := loopO_some.1 h74
                refine WP.loopI2 (fun n l V' => ∃ (v76 : Value) (xs77 : List Int) (x78 : Int), l = [(5, .pointer (some ⟨b38, 0, none⟩)), (6, v76), (63, v1), (64, .int .i64 (p0.code.length : Int)), (65, .int .i64 x78)] ∧ V49.le V' ∧ Ow V' (.pt b38 (.cells 9 [.int .i64 x25.op, .int .i64 x25.d, .int .i64 x25.a, .int .i64 x25.b, .int .i64 x25.imm, v36, .int .i64 x25.what, .bool x25.volatile, .bool x25.final]) :: .os (RT.int .i64) v76 xs77 :: Rs) ∧ itO (fun s => ref10_Next_l1b p0 x25 s.1 s.2) n (xs77, x78) = some r) n81 _ ⟨v47, xs48, 0, rfl, .refl _, ow79, hn80⟩ (allCons (L 18 rfl rfl) (allCons (L 19 rfl rfl) (allCons (L 2 rfl rfl) (allCons (L 1 rfl rfl) (allCons (L 0 rfl rfl) allNil))))) ?_
                rintro _ _ V82 ⟨v76, xs77, x78, rfl, le83, ow84, h88⟩
                obtain ⟨m85, q86, rfl, h89, e87⟩ := itS h88
                replace h89 : ref10_Next_l1b p0 x25 xs77 x78 = some q86 := h89
                unfold ref10_Next_l1b at h89
                refine WP.usreg rfl ?_
                refine U.p rfl rfl (.inl rfl) (S.lss rfl (L 4 rfl rfl) (L 3 rfl rfl)) ?_
                refine U.done (Nat.le_of_ble_eq_true rfl) ?_
                refine WP.seq ?_
                refine WP.cond _ (L 0 rfl rfl) rfl (fun c90 => ?_) (fun c90 => ?_)
                · have h91 := ifT c90 h89
                  refine WP.skip ?_
                  refine sqN ?_
                  refine WP.seqI (fun l V' => ∃ (v93 : Value) (xs94 : List Int), l = [(5, .pointer (some ⟨b38, 0, none⟩)), (6, v93), (63, v1), (64, .int .i64 (p0.code.length : Int)), (65, .int .i64 x78)] ∧ V82.le V' ∧ Ow V' (.pt b38 (.cells 9 [.int .i64 x25.op, .int .i64 x25.d, .int .i64 x25.a, .int .i64 x25.b, .int .i64 x25.imm, v36, .int .i64 x25.what, .bool x25.volatile, .bool x25.final]) :: .os (RT.int .i64) v93 xs94 :: Rs) ∧ ref10_Next_k3 x78 xs94 = some q86) ?_ ?_
                  · rintro _ V95 ⟨v93, xs94, rfl, le96, ow97, h98⟩
                    unfold ref10_Next_k3 at h98
                    refine WP.ureg rfl ?_
                    refine U.p rfl rfl (.inl rfl) (S.add rfl (L 4 rfl rfl) K) ?_
                    refine U.p rfl rfl (.inl rfl) (S.move rfl (L 0 rfl rfl)) ?_
                    refine U.done (Nat.le_of_ble_eq_true rfl) ?_
                    refine sqN ?_
                    exact ⟨_, V95, rfl, ⟨m85, Nat.lt_succ_self _, v93, xs94, w64 (x78 + 1), rfl, (le83.trans le96), ow97, backS h98 e87⟩, (allCons (L 2 rfl rfl) (allCons (L 3 rfl rfl) (allCons (L 4 rfl rfl) (allCons (L 5 rfl rfl) (allCons (L 0 rfl rfl) allNil)))))⟩
                  · skip
                    refine WP.blk ?_
                    refine WP.usreg rfl ?_
                    refine U.p rfl rfl (.inl rfl) (S.move rfl (L 5 rfl rfl)) ?_
                    obtain ⟨x99, hx100, h101⟩ := bindS h91
                    obtain ⟨b102, o103, c104, cs105, hv106, hf107, hr108, hc109⟩ := f2.at hx100
                    obtain ⟨v110, rfl, f111⟩ := hr108
                    refine U.p rfl rfl (.inl rfl) (S.index rfl ((L 4 rfl rfl).trans hv106) (L 6 rfl rfl) Try.underlying22 ti33 (ix_ge hx100) (ix_lt hx100)) ?_
                    refine U.k rfl rfl (.inl rfl) (S.loadN (cs := [.int .i64 x99.op, .int .i64 x99.d, .int .i64 x99.a, .int .i64 x99.b, .int .i64 x99.imm, v110, .int .i64 x99.what, .bool x99.volatile, .bool x99.final]) rfl (L 0 rfl rfl) Try.underlying33 rfl ti33 rfl (fun j v hj => ((((le7.trans le40).trans le44).trans le50).trans le83).cell hf107 (hc109 j v hj))) nd ?_
                    refine O.alloc ow84 rfl rfl (.inl rfl) rfl ti33 rfl rfl nd (fun b112 V113 le114 ow115 => ?_)
                    refine U.p rfl rfl (.inl rfl) (S.assign rfl (L 3 rfl rfl)) ?_
                    refine O.store (k := 0) (cs := [.int .i64 x99.op, .int .i64 x99.d, .int .i64 x99.a, .int .i64 x99.b, .int .i64 x99.imm, v110, .int .i64 x99.what, .bool x99.volatile, .bool x99.final]) (c' := [.int .i64 x99.op, .int .i64 x99.d, .int .i64 x99.a, .int .i64 x99.b, .int .i64 x99.imm, v110, .int .i64 x99.what, .bool x99.volatile, .bool x99.final]) ow115 rfl rfl rfl (.inl rfl) rfl (L 1 rfl rfl) (L 2 rfl rfl) ti33 (by simp [topV]) rfl rfl (Nat.le_of_ble_eq_true rfl) (by have q0 := f111.one; simp only [List.all_cons, List.all_nil, q0]; rfl) rfl nd (fun V117 le118 ow119 => ?_)
                    refine U.done (Nat.le_of_ble_eq_true rfl) ?_
                    refine WP.usreg rfl ?_
                    refine U.p (v := .pointer (some ⟨b112, 0, none⟩)) rfl rfl (.inl rfl) (S.fieldAddr rfl (L 1 rfl rfl) Try.underlying33 rfl ti3 rfl rfl) ?_
                    refine U.k rfl rfl (.inl rfl) (S.load rfl (L 0 rfl rfl) Try.underlying3 rfl ((ow119.own (k := 0) rfl).cell rfl)) nd ?_
                    refine U.p rfl rfl (.inl rfl) (S.eqlI rfl (L 0 rfl rfl) K) ?_
                    refine U.p rfl rfl (.inl rfl) (S.move rfl (L 0 rfl rfl)) ?_
                    refine U.joinX 10 (fun e H => ∃ (u120 u121 u122 u123 u124 : Value), H = V117.H ∧ e = [(79, .bool ((decide (x99.op = 11)) && (decide (x99.imm = x25.imm)))), (78, u120), (77, u121), (76, u122), (75, u123), (74, u124)]) ?_ ?_
                    · rintro _ _ ⟨u120, u121, u122, u123, u124, rfl, rfl⟩
                      refine U.p rfl rfl (.inl rfl) (S.move rfl (L 0 rfl rfl)) ?_
                      obtain ⟨y128, hy129, h130⟩ := bindS h101
                      refine U.joinX 22 (fun e H => ∃ (u131 u132 u133 u134 u135 u136 u137 u138 u139 u140 : Value), H = V117.H ∧ e = [(91, .bool y128), (90, u131), (89, u132), (88, u133), (87, u134), (86, u135), (85, u136), (84, u137), (83, u138), (82, u139), (81, u140)]) ?_ ?_
                      · rintro _ _ ⟨u131, u132, u133, u134, u135, u136, u137, u138, u139, u140, rfl, rfl⟩
                        refine U.done (Nat.le_of_ble_eq_true rfl) ?_
                        refine WP.cond _ (L 0 rfl rfl) rfl (fun c144 => ?_) (fun c144 => ?_)
                        · have h145 := ifT c144 h130
                          refine WP.ureg rfl ?_
                          refine U.p rfl rfl (.inl rfl) (S.move rfl (L 29 rfl rfl)) ?_
                          refine U.p rfl rfl (.inl rfl) (S.move rfl (L 23 rfl rfl)) ?_
                          refine O.lit (R := (RT.int .i64)) ow119 rfl rfl (.inl rfl) rfl Try.underlying31 ti3 rfl rfl rfl (Nat.le_of_ble_eq_true rfl) rfl (aC (L 0 rfl rfl) aN) (.cons _ _ x78 _ (by simp [topV]) rfl .nil) (fun _ => nd) (fun v146 V147 le148 ow149 => ?_)
                          obtain ⟨xs151, hx152, h153⟩ := bindS h145
                          refine O.append (k := 3) ow149 rfl rfl rfl (.inl rfl) rfl (L 2 rfl rfl) (L 0 rfl rfl) Try.underlying31 ti3 rfl rfl (Nat.le_of_ble_eq_true rfl) (ow149.src (k := 0) rfl Try.underlying31) hx152 (fun _ _ => nd) (fun v154 V155 le156 ow157 => ?_)
                          refine U.p rfl rfl (.inl rfl) (S.assign rfl (L 0 rfl rfl)) ?_
                          refine U.done (Nat.le_of_ble_eq_true rfl) ?_
                          refine blkN (sqN ?_)
                          have ow159 := ow157.drop 0 rfl
                          have ow160 := ow159.drop 0 rfl
                          exact ⟨_, V155, rfl, ⟨v154, xs151, rfl, (((le114.trans le118).trans le148).trans le156), ow160, h153⟩, (allCons (L 33 rfl rfl) (allCons (L 0 rfl rfl) (allCons (L 35 rfl rfl) (allCons (L 36 rfl rfl) (allCons (L 37 rfl rfl) allNil)))))⟩
                        · have h161 := ifF c144 h130
                          refine WP.skip ?_
                          refine blkN (sqN ?_)
                          have ow162 := ow119.drop 0 rfl
                          exact ⟨_, V117, rfl, ⟨v76, xs77, rfl, (le114.trans le118), ow162, h161⟩, (allCons (L 28 rfl rfl) (allCons (L 29 rfl rfl) (allCons (L 30 rfl rfl) (allCons (L 31 rfl rfl) (allCons (L 32 rfl rfl) allNil)))))⟩
                      · intro kk
                        refine bcase (b := (decide (x99.op = 11)) && (decide (x99.imm = x25.imm))) (fun g163 => ?_) (fun g163 => ?_)
                        · have h164 := ifT g163 hy129
                          refine U.p rfl rfl (.inr ⟨_, _, _, rfl, rfl, ((L 0 rfl rfl).trans (congrArg Value.bool g163))⟩) (S.move rfl (L 18 rfl rfl)) ?_
                          refine U.p rfl rfl (.inr ⟨_, _, _, rfl, rfl, ((L 1 rfl rfl).trans (congrArg Value.bool g163))⟩) (ow119.oslen (k := 2) rfl rfl (L 0 rfl rfl) Try.underlying31) ?_
                          refine U.p rfl rfl (.inr ⟨_, _, _, rfl, rfl, ((L 2 rfl rfl).trans (congrArg Value.bool g163))⟩) (S.eqlI rfl (L 0 rfl rfl) K) ?_
                          refine U.p rfl rfl (.inr ⟨_, _, _, rfl, rfl, ((L 3 rfl rfl).trans (congrArg Value.bool g163))⟩) (S.move rfl (L 0 rfl rfl)) ?_
                          obtain ⟨y165, hy166, h167⟩ := bindS h164
                          refine U.joinX 21 (fun e H => ∃ (u168 u169 u170 u171 u172 : Value), H = V117.H ∧ e = [(90, .bool y165), (89, u168), (88, u169), (87, u170), (86, u171), (85, u172)]) ?_ ?_
                          · rintro _ _ ⟨u168, u169, u170, u171, u172, rfl, rfl⟩
                            refine U.p rfl rfl (.inl rfl) (S.pickT rfl ((L 10 rfl rfl).trans (congrArg Value.bool g163)) (L 0 rfl rfl)) ?_
                            have e176 := Option.some.inj h167
                            subst e176
                            exact kk [(91, .bool y165), (90, .bool y165), (89, u168), (88, u169), (87, u170), (86, u171), (85, u172), (84, .bool (decide ((xs77.length : Int) = 0))), (83, .bool (decide ((xs77.length : Int) = 0))), (82, .int .i64 (xs77.length : Int)), (81, v76)] _ ⟨.bool y165, u168, u169, u170, u171, u172, .bool (decide ((xs77.length : Int) = 0)), .bool (decide ((xs77.length : Int) = 0)), .int .i64 (xs77.length : Int), v76, rfl, rfl⟩
                          · intro kk
                            refine bcase (b := decide ((xs77.length : Int) = 0)) (fun g177 => ?_) (fun g177 => ?_)
                            · have h178 := ifT g177 hy166
                              refine U.x rfl rfl rfl rfl ((L 0 rfl rfl).trans (congrArg Value.bool g177)) (by decide) ?_
                              refine U.x rfl rfl rfl rfl ((L 1 rfl rfl).trans (congrArg Value.bool g177)) (by decide) ?_
                              refine U.x rfl rfl rfl rfl ((L 2 rfl rfl).trans (congrArg Value.bool g177)) (by decide) ?_
                              refine U.x rfl rfl rfl rfl ((L 3 rfl rfl).trans (congrArg Value.bool g177)) (by decide) ?_
                              refine U.x rfl rfl rfl rfl ((L 4 rfl rfl).trans (congrArg Value.bool g177)) (by decide) ?_
                              refine U.p rfl rfl (.inr ⟨_, _, _, rfl, rfl, ((L 9 rfl rfl).trans (congrArg Value.bool g163))⟩) (S.pickT rfl ((L 5 rfl rfl).trans (congrArg Value.bool g177)) K) ?_
                              have e179 := Option.some.inj h178
                              subst e179
                              exact kk [(90, .bool true), (89, .tuple #[]), (88, .tuple #[]), (87, .tuple #[]), (86, .tuple #[]), (85, .tuple #[])] _ ⟨.tuple #[], .tuple #[], .tuple #[], .tuple #[], .tuple #[], rfl, rfl⟩
                            · have h180 := ifF g177 hy166
                              refine U.p rfl rfl (.inr ⟨_, _, _, rfl, rfl, ((L 0 rfl rfl).trans (congrArg Value.bool g177))⟩) (S.move rfl (L 22 rfl rfl)) ?_
                              obtain ⟨x181, hx182, h183⟩ := bindS h180
                              obtain ⟨b184, o185, n186, c187, hv188⟩ := ow119.ospt (k := 2) rfl hx182
                              obtain ⟨_, hv189, _⟩ := ow119.osel (k := 2) rfl hv188 hx182
                              refine U.p rfl rfl (.inr ⟨_, _, _, rfl, rfl, ((L 1 rfl rfl).trans (congrArg Value.bool g177))⟩) (S.index rfl ((L 0 rfl rfl).trans hv189) K Try.underlying31 ti3 (ix_ge hx182) (ix_lt hx182)) ?_
                              obtain ⟨cs190, hv191, hlt192, hr193, hc194⟩ := ow119.osel (k := 2) rfl hv188 hx182
                              obtain rfl : cs190 = [.int .i64 x181] := hr193
                              refine U.k rfl rfl (.inr ⟨_, _, _, rfl, rfl, ((L 2 rfl rfl).trans (congrArg Value.bool g177))⟩) (S.load rfl (L 0 rfl rfl) Try.underlying3 rfl (hc194 0 _ rfl)) nd ?_
                              refine U.p rfl rfl (.inr ⟨_, _, _, rfl, rfl, ((L 3 rfl rfl).trans (congrArg Value.bool g177))⟩) (S.move rfl (L 18 rfl rfl)) ?_
                              refine U.p rfl rfl (.inr ⟨_, _, _, rfl, rfl, ((L 4 rfl rfl).trans (congrArg Value.bool g177))⟩) (S.neqI rfl (L 1 rfl rfl) (L 0 rfl rfl)) ?_
                              refine U.p rfl rfl (.inr ⟨_, _, _, rfl, rfl, ((L 9 rfl rfl).trans (congrArg Value.bool g163))⟩) (S.pickF rfl ((L 5 rfl rfl).trans (congrArg Value.bool g177)) (L 0 rfl rfl)) ?_
                              have e195 := Option.some.inj h183
                              subst e195
                              exact kk [(90, .bool (decide (x181 ≠ x78))), (89, .bool (decide (x181 ≠ x78))), (88, .int .i64 x78), (87, .int .i64 x181), (86, .pointer (some ⟨b184, o185 + Int.toNat 0 * 1, none⟩)), (85, v76)] _ ⟨.bool (decide (x181 ≠ x78)), .int .i64 x78, .int .i64 x181, .pointer (some ⟨b184, o185 + Int.toNat 0 * 1, none⟩), v76, rfl, rfl⟩
                        · have h196 := ifF g163 hy129
                          refine U.x rfl rfl rfl rfl ((L 0 rfl rfl).trans (congrArg Value.bool g163)) (by decide) ?_
                          refine U.x rfl rfl rfl rfl ((L 1 rfl rfl).trans (congrArg Value.bool g163)) (by decide) ?_
                          refine U.x rfl rfl rfl rfl ((L 2 rfl rfl).trans (congrArg Value.bool g163)) (by decide) ?_
                          refine U.x rfl rfl rfl rfl ((L 3 rfl rfl).trans (congrArg Value.bool g163)) (by decide) ?_
                          refine U.z rfl rfl rfl rfl (L 0 rfl rfl) ?_
                          refine U.z rfl rfl rfl rfl (L 1 rfl rfl) ?_
                          refine U.z rfl rfl rfl rfl (L 2 rfl rfl) ?_
                          refine U.z rfl rfl rfl rfl (L 3 rfl rfl) ?_
                          refine U.z rfl rfl rfl rfl (L 4 rfl rfl) ?_
                          refine U.x rfl rfl rfl rfl ((L 9 rfl rfl).trans (congrArg Value.bool g163)) (by decide) ?_
                          refine U.p rfl rfl (.inl rfl) (S.pickF rfl ((L 10 rfl rfl).trans (congrArg Value.bool g163)) K) ?_
                          have e197 := Option.some.inj h196
                          subst e197
                          exact kk [(91, .bool false), (90, .tuple #[]), (89, .tuple #[]), (88, .tuple #[]), (87, .tuple #[]), (86, .tuple #[]), (85, .tuple #[]), (84, .tuple #[]), (83, .tuple #[]), (82, .tuple #[]), (81, .tuple #[])] _ ⟨.tuple #[], .tuple #[], .tuple #[], .tuple #[], .tuple #[], .tuple #[], .tuple #[], .tuple #[], .tuple #[], .tuple #[], rfl, rfl⟩
                    · intro kk
                      refine bcase (b := decide (x99.op = 11)) (fun g198 => ?_) (fun g198 => ?_)
                      · skip
                        refine U.p (v := .pointer (some ⟨b112, 4, none⟩)) rfl rfl (.inr ⟨_, _, _, rfl, rfl, ((L 0 rfl rfl).trans (congrArg Value.bool g198))⟩) (S.fieldAddr rfl (L 5 rfl rfl) Try.underlying33 rfl ti3 rfl rfl) ?_
                        refine U.k rfl rfl (.inr ⟨_, _, _, rfl, rfl, ((L 1 rfl rfl).trans (congrArg Value.bool g198))⟩) (S.load rfl (L 0 rfl rfl) Try.underlying3 rfl ((ow119.own (k := 0) rfl).cell rfl)) nd ?_
                        refine U.p (v := .pointer (some ⟨b38, 4, none⟩)) rfl rfl (.inr ⟨_, _, _, rfl, rfl, ((L 2 rfl rfl).trans (congrArg Value.bool g198))⟩) (S.fieldAddr rfl (L 12 rfl rfl) Try.underlying33 rfl ti3 rfl rfl) ?_
                        refine U.k rfl rfl (.inr ⟨_, _, _, rfl, rfl, ((L 3 rfl rfl).trans (congrArg Value.bool g198))⟩) (S.load rfl (L 0 rfl rfl) Try.underlying3 rfl ((ow119.own (k := 1) rfl).cell rfl)) nd ?_
                        refine U.p rfl rfl (.inr ⟨_, _, _, rfl, rfl, ((L 4 rfl rfl).trans (congrArg Value.bool g198))⟩) (S.eqlI rfl (L 2 rfl rfl) (L 0 rfl rfl)) ?_
                        refine U.p rfl rfl (.inl rfl) (S.pickT rfl ((L 5 rfl rfl).trans (congrArg Value.bool g198)) (L 0 rfl rfl)) ?_
                        exact kk [(79, .bool (decide (x99.imm = x25.imm))), (78, .bool (decide (x99.imm = x25.imm))), (77, .int .i64 x25.imm), (76, .pointer (some ⟨b38, 4, none⟩)), (75, .int .i64 x99.imm), (74, .pointer (some ⟨b112, 4, none⟩))] _ ⟨.bool (decide (x99.imm = x25.imm)), .int .i64 x25.imm, .pointer (some ⟨b38, 4, none⟩), .int .i64 x99.imm, .pointer (some ⟨b112, 4, none⟩), rfl, (by rw [g198, Bool.true_and])⟩
                      · skip
                        refine U.x rfl rfl rfl rfl ((L 0 rfl rfl).trans (congrArg Value.bool g198)) (by decide) ?_
                        refine U.x rfl rfl rfl rfl ((L 1 rfl rfl).trans (congrArg Value.bool g198)) (by decide) ?_
                        refine U.x rfl rfl rfl rfl ((L 2 rfl rfl).trans (congrArg Value.bool g198)) (by decide) ?_
                        refine U.x rfl rfl rfl rfl ((L 3 rfl rfl).trans (congrArg Value.bool g198)) (by decide) ?_
                        refine U.x rfl rfl rfl rfl ((L 4 rfl rfl).trans (congrArg Value.bool g198)) (by decide) ?_
                        refine U.p rfl rfl (.inl rfl) (S.pickF rfl ((L 5 rfl rfl).trans (congrArg Value.bool g198)) K) ?_
                        exact kk [(79, .bool false), (78, .tuple #[]), (77, .tuple #[]), (76, .tuple #[]), (75, .tuple #[]), (74, .tuple #[])] _ ⟨.tuple #[], .tuple #[], .tuple #[], .tuple #[], .tuple #[], rfl, (by rw [g198, Bool.false_and])⟩
                · have h199 := ifF c90 h89
                  refine WP.exit ?_
                  refine sqE (sqE (blkE (sqN ?_)))
                  have h200 := exitS h199 e87
                  have ow201 := ow84.drop 0 rfl
                  exact ⟨_, V82, rfl, ⟨v76, xs77, rfl, le83, ow201, h200⟩, (allCons (L 2 rfl rfl) allNil)⟩
              · have h202 := ifF c73 h52
                refine WP.skip ?_
                refine sqN ?_
                have ow203 := ow51.drop 0 rfl
                have ow204 := ow203.drop 0 rfl
                exact ⟨_, V49, rfl, ⟨v47, xs48, rfl, (.refl _), ow204, h202⟩, (allCons (L 15 rfl rfl) allNil)⟩
            · intro kk
              refine bcase (b := (decide (x25.op = 12)) || (decide (x25.op = 13))) (fun g205 => ?_) (fun g205 => ?_)
              · skip
                refine U.x rfl rfl rfl rfl ((L 0 rfl rfl).trans (congrArg Value.bool g205)) (by decide) ?_
                refine U.x rfl rfl rfl rfl ((L 1 rfl rfl).trans (congrArg Value.bool g205)) (by decide) ?_
                refine U.x rfl rfl rfl rfl ((L 2 rfl rfl).trans (congrArg Value.bool g205)) (by decide) ?_
                refine U.p rfl rfl (.inl rfl) (S.pickT rfl ((L 3 rfl rfl).trans (congrArg Value.bool g205)) K) ?_
                exact kk [(61, .bool true), (60, .tuple #[]), (59, .tuple #[]), (58, .tuple #[])] _ ⟨.tuple #[], .tuple #[], .tuple #[], rfl, (by rw [g205, Bool.true_or])⟩
              · skip
                refine U.p (v := .pointer (some ⟨b38, 0, none⟩)) rfl rfl (.inr ⟨_, _, _, rfl, rfl, ((L 0 rfl rfl).trans (congrArg Value.bool g205))⟩) (S.fieldAddr rfl (L 10 rfl rfl) Try.underlying33 rfl ti3 rfl rfl) ?_
                refine U.k rfl rfl (.inr ⟨_, _, _, rfl, rfl, ((L 1 rfl rfl).trans (congrArg Value.bool g205))⟩) (S.load rfl (L 0 rfl rfl) Try.underlying3 rfl ((ow51.own (k := 1) rfl).cell rfl)) nd ?_
                refine U.p rfl rfl (.inr ⟨_, _, _, rfl, rfl, ((L 2 rfl rfl).trans (congrArg Value.bool g205))⟩) (S.eqlI rfl (L 0 rfl rfl) K) ?_
                refine U.p rfl rfl (.inl rfl) (S.pickF rfl ((L 3 rfl rfl).trans (congrArg Value.bool g205)) (L 0 rfl rfl)) ?_
                exact kk [(61, .bool (decide (x25.op = 17))), (60, .bool (decide (x25.op = 17))), (59, .int .i64 x25.op), (58, .pointer (some ⟨b38, 0, none⟩))] _ ⟨.bool (decide (x25.op = 17)), .int .i64 x25.op, .pointer (some ⟨b38, 0, none⟩), rfl, (by rw [g205, Bool.false_or])⟩
          · intro kk
            refine bcase (b := decide (x25.op = 12)) (fun g206 => ?_) (fun g206 => ?_)
            · skip
              refine U.x rfl rfl rfl rfl ((L 0 rfl rfl).trans (congrArg Value.bool g206)) (by decide) ?_
              refine U.x rfl rfl rfl rfl ((L 1 rfl rfl).trans (congrArg Value.bool g206)) (by decide) ?_
              refine U.x rfl rfl rfl rfl ((L 2 rfl rfl).trans (congrArg Value.bool g206)) (by decide) ?_
              refine U.p rfl rfl (.inl rfl) (S.pickT rfl ((L 3 rfl rfl).trans (congrArg Value.bool g206)) K) ?_
              exact kk [(56, .bool true), (55, .tuple #[]), (54, .tuple #[]), (53, .tuple #[])] _ ⟨.tuple #[], .tuple #[], .tuple #[], rfl, (by rw [g206, Bool.true_or])⟩
            · skip
              refine U.p (v := .pointer (some ⟨b38, 0, none⟩)) rfl rfl (.inr ⟨_, _, _, rfl, rfl, ((L 0 rfl rfl).trans (congrArg Value.bool g206))⟩) (S.fieldAddr rfl (L 5 rfl rfl) Try.underlying33 rfl ti3 rfl rfl) ?_
              refine U.k rfl rfl (.inr ⟨_, _, _, rfl, rfl, ((L 1 rfl rfl).trans (congrArg Value.bool g206))⟩) (S.load rfl (L 0 rfl rfl) Try.underlying3 rfl ((ow51.own (k := 1) rfl).cell rfl)) nd ?_
              refine U.p rfl rfl (.inr ⟨_, _, _, rfl, rfl, ((L 2 rfl rfl).trans (congrArg Value.bool g206))⟩) (S.eqlI rfl (L 0 rfl rfl) K) ?_
              refine U.p rfl rfl (.inl rfl) (S.pickF rfl ((L 3 rfl rfl).trans (congrArg Value.bool g206)) (L 0 rfl rfl)) ?_
              exact kk [(56, .bool (decide (x25.op = 13))), (55, .bool (decide (x25.op = 13))), (54, .int .i64 x25.op), (53, .pointer (some ⟨b38, 0, none⟩))] _ ⟨.bool (decide (x25.op = 13)), .int .i64 x25.op, .pointer (some ⟨b38, 0, none⟩), rfl, (by rw [g206, Bool.false_or])⟩
      · skip
        refine WP.usreg rfl ?_
        refine U.p (v := .pointer (some ⟨b38, 0, none⟩)) rfl rfl (.inl rfl) (S.fieldAddr rfl (L 1 rfl rfl) Try.underlying33 rfl ti3 rfl rfl) ?_
        refine U.k rfl rfl (.inl rfl) (S.load rfl (L 0 rfl rfl) Try.underlying3 rfl ((ow45.own (k := 0) rfl).cell rfl)) nd ?_
        refine U.p rfl rfl (.inl rfl) (S.neqI rfl (L 0 rfl rfl) K) ?_
        refine U.p rfl rfl (.inl rfl) (S.move rfl (L 0 rfl rfl)) ?_
        refine U.joinX 8 (fun e H => ∃ (u207 u208 u209 : Value), H = V43.H ∧ e = [(30, .bool ((decide (x25.op ≠ 12)) && (decide (x25.op ≠ 15)))), (29, u207), (28, u208), (27, u209)]) ?_ ?_
        · rintro _ _ ⟨u207, u208, u209, rfl, rfl⟩
          refine U.p rfl rfl (.inl rfl) (S.move rfl (L 0 rfl rfl)) ?_
          refine U.joinX 13 (fun e H => ∃ (u213 u214 u215 : Value), H = V43.H ∧ e = [(35, .bool (((decide (x25.op ≠ 12)) && (decide (x25.op ≠ 15))) && (decide (x25.op ≠ 16)))), (34, u213), (33, u214), (32, u215)]) ?_ ?_
          · rintro _ _ ⟨u213, u214, u215, rfl, rfl⟩
            refine U.p rfl rfl (.inl rfl) (S.move rfl (L 0 rfl rfl)) ?_
            refine U.joinX 21 (fun e H => ∃ (u219 u220 u221 u222 u223 u224 : Value), H = V43.H ∧ e = [(43, .bool ((((decide (x25.op ≠ 12)) && (decide (x25.op ≠ 15))) && (decide (x25.op ≠ 16))) && (decide ((w64 (p1 + 1)) < (p0.code.length : Int))))), (42, u219), (41, u220), (40, u221), (39, u222), (38, u223), (37, u224)]) ?_ ?_
            · rintro _ _ ⟨u219, u220, u221, u222, u223, u224, rfl, rfl⟩
              refine U.done (Nat.le_of_ble_eq_true rfl) ?_
              refine WP.cond _ (L 0 rfl rfl) rfl (fun c228 => ?_) (fun c228 => ?_)
              · have h229 := ifT c228 h27
                refine WP.ureg rfl ?_
                refine U.p rfl rfl (.inl rfl) (S.move rfl (L 21 rfl rfl)) ?_
                refine U.p rfl rfl (.inl rfl) (S.move rfl (L 41 rfl rfl)) ?_
                refine U.p rfl rfl (.inl rfl) (S.add rfl (L 0 rfl rfl) K) ?_
                refine O.lit (R := (RT.int .i64)) ow45 rfl rfl (.inl rfl) rfl Try.underlying31 ti3 rfl rfl rfl (Nat.le_of_ble_eq_true rfl) rfl (aC (L 0 rfl rfl) aN) (.cons _ _ (w64 (p1 + 1)) _ (by simp [topV]) rfl .nil) (fun _ => nd) (fun v230 V231 le232 ow233 => ?_)
                have ow235 := ow233.nil (RT.int .i64)
                obtain ⟨xs237, hx238, h239⟩ := bindS h229
                refine O.append (k := 0) ow235 rfl rfl rfl (.inl rfl) rfl (L 3 rfl rfl) (L 0 rfl rfl) Try.underlying31 ti3 rfl rfl (Nat.le_of_ble_eq_true rfl) (ow235.src (k := 1) rfl Try.underlying31) hx238 (fun _ _ => nd) (fun v240 V241 le242 ow243 => ?_)
                refine U.p rfl rfl (.inl rfl) (S.assign rfl (L 0 rfl rfl)) ?_
                refine U.done (Nat.le_of_ble_eq_true rfl) ?_
                refine sqN ?_
                have ow245 := ow243.drop 1 rfl
                have ow246 := ow245.pick 0 rfl
                have ow247 := ow246.pick 1 rfl
                have ow248 := ow247.pick 2 rfl
                exact ⟨_, V241, rfl, ⟨v240, xs237, rfl, (le232.trans le242), ow248, h239⟩, (allCons (L 44 rfl rfl) (allCons (L 28 rfl rfl) (allCons (L 0 rfl rfl) allNil)))⟩
              · have h249 := ifF c228 h27
                refine WP.skip ?_
                refine sqN ?_
                have ow250 := ow45.nil (RT.int .i64)
                have ow252 := ow250.pick 0 rfl
                have ow253 := ow252.pick 1 rfl
                have ow254 := ow253.pick 2 rfl
                exact ⟨_, V43, rfl, ⟨(.slice none 0 0), [], rfl, (.refl _), ow254, h249⟩, (allCons (L 38 rfl rfl) (allCons (L 22 rfl rfl) (allCons (L 21 rfl rfl) allNil)))⟩
            · intro kk
              refine bcase (b := ((decide (x25.op ≠ 12)) && (decide (x25.op ≠ 15))) && (decide (x25.op ≠ 16))) (fun g255 => ?_) (fun g255 => ?_)
              · skip
                refine U.p rfl rfl (.inr ⟨_, _, _, rfl, rfl, ((L 0 rfl rfl).trans (congrArg Value.bool g255))⟩) (S.move rfl (L 33 rfl rfl)) ?_
                refine U.p rfl rfl (.inr ⟨_, _, _, rfl, rfl, ((L 1 rfl rfl).trans (congrArg Value.bool g255))⟩) (S.add rfl (L 0 rfl rfl) K) ?_
                refine U.p (v := .pointer (some ⟨b5, 3, none⟩)) rfl rfl (.inr ⟨_, _, _, rfl, rfl, ((L 2 rfl rfl).trans (congrArg Value.bool g255))⟩) (S.fieldAddr rfl (L 33 rfl rfl) Try.underlying24 rfl ti22 rfl rfl) ?_
                refine U.k rfl rfl (.inr ⟨_, _, _, rfl, rfl, ((L 3 rfl rfl).trans (congrArg Value.bool g255))⟩) (S.load rfl (L 0 rfl rfl) Try.underlying22 rfl ((ow45.own (k := 1) rfl).cell rfl)) nd ?_
                refine U.p rfl rfl (.inr ⟨_, _, _, rfl, rfl, ((L 4 rfl rfl).trans (congrArg Value.bool g255))⟩) (f2.1.len rfl (L 0 rfl rfl) Try.underlying22) ?_
                refine U.p rfl rfl (.inr ⟨_, _, _, rfl, rfl, ((L 5 rfl rfl).trans (congrArg Value.bool g255))⟩) (S.lss rfl (L 3 rfl rfl) (L 0 rfl rfl)) ?_
                refine U.p rfl rfl (.inl rfl) (S.pickT rfl ((L 6 rfl rfl).trans (congrArg Value.bool g255)) (L 0 rfl rfl)) ?_
                exact kk [(43, .bool (decide ((w64 (p1 + 1)) < (p0.code.length : Int)))), (42, .bool (decide ((w64 (p1 + 1)) < (p0.code.length : Int)))), (41, .int .i64 (p0.code.length : Int)), (40, v1), (39, .pointer (some ⟨b5, 3, none⟩)), (38, .int .i64 (w64 (p1 + 1))), (37, .int .i64 p1)] _ ⟨.bool (decide ((w64 (p1 + 1)) < (p0.code.length : Int))), .int .i64 (p0.code.length : Int), v1, .pointer (some ⟨b5, 3, none⟩), .int .i64 (w64 (p1 + 1)), .int .i64 p1, rfl, (by rw [g255, Bool.true_and])⟩
              · skip
                refine U.x rfl rfl rfl rfl ((L 0 rfl rfl).trans (congrArg Value.bool g255)) (by decide) ?_
                refine U.x rfl rfl rfl rfl ((L 1 rfl rfl).trans (congrArg Value.bool g255)) (by decide) ?_
                refine U.x rfl rfl rfl rfl ((L 2 rfl rfl).trans (congrArg Value.bool g255)) (by decide) ?_
                refine U.x rfl rfl rfl rfl ((L 3 rfl rfl).trans (congrArg Value.bool g255)) (by decide) ?_
                refine U.x rfl rfl rfl rfl ((L 4 rfl rfl).trans (congrArg Value.bool g255)) (by decide) ?_
                refine U.x rfl rfl rfl rfl ((L 5 rfl rfl).trans (congrArg Value.bool g255)) (by decide) ?_
                refine U.p rfl rfl (.inl rfl) (S.pickF rfl ((L 6 rfl rfl).trans (congrArg Value.bool g255)) K) ?_
                exact kk [(43, .bool false), (42, .tuple #[]), (41, .tuple #[]), (40, .tuple #[]), (39, .tuple #[]), (38, .tuple #[]), (37, .tuple #[])] _ ⟨.tuple #[], .tuple #[], .tuple #[], .tuple #[], .tuple #[], .tuple #[], rfl, (by rw [g255, Bool.false_and])⟩
          · intro kk
            refine bcase (b := (decide (x25.op ≠ 12)) && (decide (x25.op ≠ 15))) (fun g256 => ?_) (fun g256 => ?_)
            · skip
              refine U.p (v := .pointer (some ⟨b38, 0, none⟩)) rfl rfl (.inr ⟨_, _, _, rfl, rfl, ((L 0 rfl rfl).trans (congrArg Value.bool g256))⟩) (S.fieldAddr rfl (L 10 rfl rfl) Try.underlying33 rfl ti3 rfl rfl) ?_
              refine U.k rfl rfl (.inr ⟨_, _, _, rfl, rfl, ((L 1 rfl rfl).trans (congrArg Value.bool g256))⟩) (S.load rfl (L 0 rfl rfl) Try.underlying3 rfl ((ow45.own (k := 0) rfl).cell rfl)) nd ?_
              refine U.p rfl rfl (.inr ⟨_, _, _, rfl, rfl, ((L 2 rfl rfl).trans (congrArg Value.bool g256))⟩) (S.neqI rfl (L 0 rfl rfl) K) ?_
              refine U.p rfl rfl (.inl rfl) (S.pickT rfl ((L 3 rfl rfl).trans (congrArg Value.bool g256)) (L 0 rfl rfl)) ?_
              exact kk [(35, .bool (decide (x25.op ≠ 16))), (34, .bool (decide (x25.op ≠ 16))), (33, .int .i64 x25.op), (32, .pointer (some ⟨b38, 0, none⟩))] _ ⟨.bool (decide (x25.op ≠ 16)), .int .i64 x25.op, .pointer (some ⟨b38, 0, none⟩), rfl, (by rw [g256, Bool.true_and])⟩
            · skip
              refine U.x rfl rfl rfl rfl ((L 0 rfl rfl).trans (congrArg Value.bool g256)) (by decide) ?_
              refine U.x rfl rfl rfl rfl ((L 1 rfl rfl).trans (congrArg Value.bool g256)) (by decide) ?_
              refine U.x rfl rfl rfl rfl ((L 2 rfl rfl).trans (congrArg Value.bool g256)) (by decide) ?_
              refine U.p rfl rfl (.inl rfl) (S.pickF rfl ((L 3 rfl rfl).trans (congrArg Value.bool g256)) K) ?_
              exact kk [(35, .bool false), (34, .tuple #[]), (33, .tuple #[]), (32, .tuple #[])] _ ⟨.tuple #[], .tuple #[], .tuple #[], rfl, (by rw [g256, Bool.false_and])⟩
        · intro kk
          refine bcase (b := decide (x25.op ≠ 12)) (fun g257 => ?_) (fun g257 => ?_)
          · skip
            refine U.p (v := .pointer (some ⟨b38, 0, none⟩)) rfl rfl (.inr ⟨_, _, _, rfl, rfl, ((L 0 rfl rfl).trans (congrArg Value.bool g257))⟩) (S.fieldAddr rfl (L 5 rfl rfl) Try.underlying33 rfl ti3 rfl rfl) ?_
            refine U.k rfl rfl (.inr ⟨_, _, _, rfl, rfl, ((L 1 rfl rfl).trans (congrArg Value.bool g257))⟩) (S.load rfl (L 0 rfl rfl) Try.underlying3 rfl ((ow45.own (k := 0) rfl).cell rfl)) nd ?_
            refine U.p rfl rfl (.inr ⟨_, _, _, rfl, rfl, ((L 2 rfl rfl).trans (congrArg Value.bool g257))⟩) (S.neqI rfl (L 0 rfl rfl) K) ?_
            refine U.p rfl rfl (.inl rfl) (S.pickT rfl ((L 3 rfl rfl).trans (congrArg Value.bool g257)) (L 0 rfl rfl)) ?_
            exact kk [(30, .bool (decide (x25.op ≠ 15))), (29, .bool (decide (x25.op ≠ 15))), (28, .int .i64 x25.op), (27, .pointer (some ⟨b38, 0, none⟩))] _ ⟨.bool (decide (x25.op ≠ 15)), .int .i64 x25.op, .pointer (some ⟨b38, 0, none⟩), rfl, (by rw [g257, Bool.true_and])⟩
          · skip
            refine U.x rfl rfl rfl rfl ((L 0 rfl rfl).trans (congrArg Value.bool g257)) (by decide) ?_
            refine U.x rfl rfl rfl rfl ((L 1 rfl rfl).trans (congrArg Value.bool g257)) (by decide) ?_
            refine U.x rfl rfl rfl rfl ((L 2 rfl rfl).trans (congrArg Value.bool g257)) (by decide) ?_
            refine U.p rfl rfl (.inl rfl) (S.pickF rfl ((L 3 rfl rfl).trans (congrArg Value.bool g257)) K) ?_
            exact kk [(30, .bool false), (29, .tuple #[]), (28, .tuple #[]), (27, .tuple #[])] _ ⟨.tuple #[], .tuple #[], .tuple #[], rfl, (by rw [g257, Bool.false_and])⟩
  · intro kk
    refine bcase (b := decide (p1 < 0)) (fun g258 => ?_) (fun g258 => ?_)
    · skip
      refine U.x rfl rfl rfl rfl ((L 0 rfl rfl).trans (congrArg Value.bool g258)) (by decide) ?_
      refine U.x rfl rfl rfl rfl ((L 1 rfl rfl).trans (congrArg Value.bool g258)) (by decide) ?_
      refine U.x rfl rfl rfl rfl ((L 2 rfl rfl).trans (congrArg Value.bool g258)) (by decide) ?_
      refine U.x rfl rfl rfl rfl ((L 3 rfl rfl).trans (congrArg Value.bool g258)) (by decide) ?_
      refine U.x rfl rfl rfl rfl ((L 4 rfl rfl).trans (congrArg Value.bool g258)) (by decide) ?_
      refine U.p rfl rfl (.inl rfl) (S.pickT rfl ((L 5 rfl rfl).trans (congrArg Value.bool g258)) K) ?_
      exact kk [(17, .bool true), (16, .tuple #[]), (15, .tuple #[]), (14, .tuple #[]), (13, .tuple #[]), (12, .tuple #[])] _ ⟨.tuple #[], .tuple #[], .tuple #[], .tuple #[], .tuple #[], rfl, (by rw [g258, Bool.true_or])⟩
    · skip
      refine U.p rfl rfl (.inr ⟨_, _, _, rfl, rfl, ((L 0 rfl rfl).trans (congrArg Value.bool g258))⟩) (S.move rfl (L 6 rfl rfl)) ?_
      refine U.p (v := .pointer (some ⟨b5, 3, none⟩)) rfl rfl (.inr ⟨_, _, _, rfl, rfl, ((L 1 rfl rfl).trans (congrArg Value.bool g258))⟩) (S.fieldAddr rfl (L 5 rfl rfl) Try.underlying24 rfl ti22 rfl rfl) ?_
      refine U.k rfl rfl (.inr ⟨_, _, _, rfl, rfl, ((L 2 rfl rfl).trans (congrArg Value.bool g258))⟩) (S.load rfl (L 0 rfl rfl) Try.underlying22 rfl ((ow8.own (k := 0) rfl).cell rfl)) nd ?_
      refine U.p rfl rfl (.inr ⟨_, _, _, rfl, rfl, ((L 3 rfl rfl).trans (congrArg Value.bool g258))⟩) (f2.1.len rfl (L 0 rfl rfl) Try.underlying22) ?_
      refine U.p rfl rfl (.inr ⟨_, _, _, rfl, rfl, ((L 4 rfl rfl).trans (congrArg Value.bool g258))⟩) (S.geq rfl (L 3 rfl rfl) (L 0 rfl rfl)) ?_
      refine U.p rfl rfl (.inl rfl) (S.pickF rfl ((L 5 rfl rfl).trans (congrArg Value.bool g258)) (L 0 rfl rfl)) ?_
      exact kk [(17, .bool (decide ((p0.code.length : Int) ≤ p1))), (16, .bool (decide ((p0.code.length : Int) ≤ p1))), (15, .int .i64 (p0.code.length : Int)), (14, v1), (13, .pointer (some ⟨b5, 3, none⟩)), (12, .int .i64 p1)] _ ⟨.bool (decide ((p0.code.length : Int) ≤ p1)), .int .i64 (p0.code.length : Int), v1, .pointer (some ⟨b5, 3, none⟩), .int .i64 p1, rfl, (by rw [g258, Bool.false_or])⟩

set_option maxHeartbeats 4000000 in
set_option maxRecDepth 10000 in
theorem wk_ref10_Needed (V : Vw) (Rs : List At) (p0 : TFunc) (p1 : Int) (p2 : Int) (v1 : Value) (f2 : Fz RT_TIns V v1 p0.code) (ow : Ow V (Rs)) (r : Bool) (h : ref10_Needed p0 p1 p2 = some r) : ∃ v V', Cl Try.prog 0 11 #[.agg #[.string p0.name, .int .i64 p0.params, .int .i64 p0.regs, v1], .int .i64 p1, .int .i64 p2] V.H v V'.H ∧ V.le V' ∧ (v = .bool r ∧ Ow V' (Rs)) := by
  refine Ct.of (Nat.zero_le _) Try.func11 rfl (Nat.le_of_ble_eq_true rfl) ?_
  unfold ref10_Needed at h
  refine WP.usreg rfl ?_
  refine O.box ow rfl rfl (.inl rfl) rfl (L 0 rfl rfl) (by simp [topV]) rfl nd (fun b3 V4 le5 ow6 => ?_)
  refine U.p rfl rfl (.inl rfl) (S.assign rfl K) ?_
  refine U.done (Nat.le_of_ble_eq_true rfl) ?_
  refine WP.usreg rfl ?_
  refine U.p (v := .pointer (some ⟨b3, 3, none⟩)) rfl rfl (.inl rfl) (S.fieldAddr rfl (L 1 rfl rfl) Try.underlying24 rfl ti22 rfl rfl) ?_
  refine U.k rfl rfl (.inl rfl) (S.load rfl (L 0 rfl rfl) Try.underlying22 rfl ((ow6.own (k := 0) rfl).cell rfl)) nd ?_
  refine U.p rfl rfl (.inl rfl) (f2.1.len rfl (L 0 rfl rfl) Try.underlying22) ?_
  obtain ⟨xs8, hx9, h10⟩ := bindS h
  refine O.make (R := RT.bool) ow6 rfl rfl (.inl rfl) rfl (L 0 rfl rfl) (L 0 rfl rfl) Try.underlying29 ti4 rfl rfl rfl (Nat.le_of_ble_eq_true rfl) rfl hx9 (fun _ => nd) (fun v11 V12 le13 ow14 => ?_)
  refine U.p rfl rfl (.inl rfl) (S.assign rfl (L 0 rfl rfl)) ?_
  refine U.done (Nat.le_of_ble_eq_true rfl) ?_
  refine WP.usreg rfl ?_
  refine U.p rfl rfl (.inl rfl) (S.move rfl (L 9 rfl rfl)) ?_
  refine O.lit (R := (RT.int .i64)) ow14 rfl rfl (.inl rfl) rfl Try.underlying31 ti3 rfl rfl rfl (Nat.le_of_ble_eq_true rfl) rfl (aC (L 0 rfl rfl) aN) (.cons _ _ p2 _ (by simp [topV]) rfl .nil) (fun _ => nd) (fun v16 V17 le18 ow19 => ?_)
  refine U.p rfl rfl (.inl rfl) (S.assign rfl (L 0 rfl rfl)) ?_
  refine U.done (Nat.le_of_ble_eq_true rfl) ?_
  refine WP.seq ?_
  refine WP.blk ?_
  have ow25 := ow19.pick 0 rfl
  have ow26 := ow25.pick 1 rfl
  have ow27 := ow26.pick 2 rfl
  unfold ref10_Needed_l1 at h10
  obtain ⟨n29, hn28⟩ := loopO_some.1 h10
  refine WP.loopI2 (fun n l V' => ∃ (xs21 : List Bool) (v23 : Value) (xs24 : List Int), l = [(1, .int .i64 p1), (3, .pointer (some ⟨b3, 0, none⟩)), (7, v11), (8, v23)] ∧ V17.le V' ∧ Ow V' (.pt b3 (.cells 0 [.string p0.name, .int .i64 p0.params, .int .i64 p0.regs, v1]) :: .os RT.bool v11 xs21 :: .os (RT.int .i64) v23 xs24 :: Rs) ∧ itO (fun s => ref10_Needed_l1b p0 p1 s.1 s.2) n (xs21, xs24) = some r) n29 _ ⟨xs8, v16, [p2], rfl, .refl _, ow27, hn28⟩ (allCons (L 11 rfl rfl) (allCons (L 9 rfl rfl) (allCons (L 3 rfl rfl) (allCons (L 0 rfl rfl) allNil)))) ?_
  rintro _ _ V30 ⟨xs21, v23, xs24, rfl, le31, ow32, h36⟩
  obtain ⟨m33, q34, rfl, h37, e35⟩ := itS h36
  replace h37 : ref10_Needed_l1b p0 p1 xs21 xs24 = some q34 := h37
  unfold ref10_Needed_l1b at h37
  refine WP.seq ?_
  refine WP.usreg rfl ?_
  refine U.p rfl rfl (.inl rfl) (S.move rfl (L 3 rfl rfl)) ?_
  refine U.p rfl rfl (.inl rfl) (ow32.oslen (k := 2) rfl rfl (L 0 rfl rfl) Try.underlying31) ?_
  refine U.p rfl rfl (.inl rfl) (S.gtr rfl (L 0 rfl rfl) K) ?_
  refine U.done (Nat.le_of_ble_eq_true rfl) ?_
  refine WP.cond _ (L 0 rfl rfl) rfl (fun c38 => ?_) (fun c38 => ?_)
  · have h39 := ifT c38 h37
    refine WP.skip ?_
    refine sqN ?_
    refine WP.blk ?_
    refine WP.usreg rfl ?_
    refine U.p rfl rfl (.inl rfl) (S.move rfl (L 6 rfl rfl)) ?_
    obtain ⟨x40, hx41, h42⟩ := bindS h39
    obtain ⟨b43, o44, n45, c46, hv47⟩ := ow32.ospt (k := 2) rfl hx41
    obtain ⟨_, hv48, _⟩ := ow32.osel (k := 2) rfl hv47 hx41
    refine U.p rfl rfl (.inl rfl) (S.index rfl ((L 0 rfl rfl).trans hv48) K Try.underlying31 ti3 (ix_ge hx41) (ix_lt hx41)) ?_
    obtain ⟨cs49, hv50, hlt51, hr52, hc53⟩ := ow32.osel (k := 2) rfl hv47 hx41
    obtain rfl : cs49 = [.int .i64 x40] := hr52
    refine U.k rfl rfl (.inl rfl) (S.load rfl (L 0 rfl rfl) Try.underlying3 rfl (hc53 0 _ rfl)) nd ?_
    refine U.p rfl rfl (.inl rfl) (S.assign rfl (L 0 rfl rfl)) ?_
    refine U.done (Nat.le_of_ble_eq_true rfl) ?_
    refine WP.usreg rfl ?_
    refine U.p rfl rfl (.inl rfl) (S.move rfl (L 10 rfl rfl)) ?_
    obtain ⟨xs54, hx55, h56⟩ := bindS h42
    refine O.subO (k := 2) ow32 rfl hx55 rfl rfl (.inl rfl) rfl (L 0 rfl rfl) Try.underlying31 ti3 ⟨.inr ⟨_, _, rfl, K⟩, .inl ⟨rfl, rfl⟩, .inl rfl⟩ (fun v57 ow60 => ?_)
    refine U.p rfl rfl (.inl rfl) (S.assign rfl (L 0 rfl rfl)) ?_
    refine U.done (Nat.le_of_ble_eq_true rfl) ?_
    refine WP.seq ?_
    refine WP.usreg rfl ?_
    refine U.p rfl rfl (.inl rfl) (S.move rfl (L 12 rfl rfl)) ?_
    refine U.p rfl rfl (.inl rfl) (S.move rfl (L 4 rfl rfl)) ?_
    obtain ⟨x62, hx63, h64⟩ := bindS h56
    obtain ⟨b65, o66, n67, c68, hv69⟩ := ow60.ospt (k := 1) rfl hx63
    obtain ⟨_, hv70, _⟩ := ow60.osel (k := 1) rfl hv69 hx63
    refine U.p rfl rfl (.inl rfl) (S.index rfl ((L 1 rfl rfl).trans hv70) (L 0 rfl rfl) Try.underlying29 ti4 (ix_ge hx63) (ix_lt hx63)) ?_
    obtain ⟨cs71, hv72, hlt73, hr74, hc75⟩ := ow60.osel (k := 1) rfl hv69 hx63
    obtain rfl : cs71 = [.bool x62] := hr74
    refine U.k rfl rfl (.inl rfl) (S.load rfl (L 0 rfl rfl) Try.underlying4 rfl (hc75 0 _ rfl)) nd ?_
    refine U.done (Nat.le_of_ble_eq_true rfl) ?_
    refine WP.cond _ (L 0 rfl rfl) rfl (fun c76 => ?_) (fun c76 => ?_)
    · have h77 := ifT c76 h64
      refine WP.exit ?_
      refine sqE (blkE (sqN ?_))
      exact ⟨_, V30, rfl, ⟨m33, Nat.lt_succ_self _, xs21, v57, xs54, rfl, le31, ow60, backS h77 e35⟩, (allCons (L 14 rfl rfl) (allCons (L 15 rfl rfl) (allCons (L 16 rfl rfl) (allCons (L 4 rfl rfl) allNil))))⟩
    · have h78 := ifF c76 h64
      refine WP.skip ?_
      refine sqN ?_
      refine WP.usreg rfl ?_
      refine U.p rfl rfl (.inl rfl) (S.move rfl (L 16 rfl rfl)) ?_
      refine U.p rfl rfl (.inl rfl) (S.move rfl (L 8 rfl rfl)) ?_
      obtain ⟨x79, hx80, h81⟩ := bindS h78
      obtain ⟨_, hv82, _⟩ := ow60.osel (k := 1) rfl hv69 hx80
      refine U.p rfl rfl (.inl rfl) (S.index rfl ((L 1 rfl rfl).trans hv82) (L 0 rfl rfl) Try.underlying29 ti4 (ix_ge hx80) (ix_lt hx80)) ?_
      obtain ⟨cs83, hv84, hlt85, hr86, hc87⟩ := ow60.osel (k := 1) rfl hv69 hx80
      obtain rfl : cs83 = [.bool x79] := hr86
      refine O.storeE (k := 1) (R := RT.bool) (j := 0) (y := true) (cs := [.bool true]) ow60 rfl hv84 rfl rfl (.inl rfl) rfl (L 0 rfl rfl) K ti4 hx80 (by simp [topV]) rfl rfl rfl (full rfl) (fun _ _ => nd) (fun V88 le89 ow90 => ?_)
      refine U.done (Nat.le_of_ble_eq_true rfl) ?_
      refine WP.seq ?_
      refine WP.usreg rfl ?_
      refine U.p (v := .pointer (some ⟨b3, 3, none⟩)) rfl rfl (.inl rfl) (S.fieldAddr rfl (L 18 rfl rfl) Try.underlying24 rfl ti22 rfl rfl) ?_
      refine U.k rfl rfl (.inl rfl) (S.load rfl (L 0 rfl rfl) Try.underlying22 rfl ((ow90.own (k := 0) rfl).cell rfl)) nd ?_
      refine U.p rfl rfl (.inl rfl) (S.move rfl (L 12 rfl rfl)) ?_
      obtain ⟨x91, hx92, h93⟩ := bindS h81
      obtain ⟨b94, o95, c96, cs97, hv98, hf99, hr100, hc101⟩ := f2.at hx92
      obtain ⟨v102, rfl, f103⟩ := hr100
      refine U.p rfl rfl (.inl rfl) (S.index rfl ((L 1 rfl rfl).trans hv98) (L 0 rfl rfl) Try.underlying22 ti33 (ix_ge hx92) (ix_lt hx92)) ?_
      refine U.k rfl rfl (.inl rfl) (S.loadN (cs := [.int .i64 x91.op, .int .i64 x91.d, .int .i64 x91.a, .int .i64 x91.b, .int .i64 x91.imm, v102, .int .i64 x91.what, .bool x91.volatile, .bool x91.final]) rfl (L 0 rfl rfl) Try.underlying33 rfl ti33 rfl (fun j v hj => ((((le5.trans le13).trans le18).trans le31).trans le89).cell hf99 (hc101 j v hj))) nd ?_
      refine U.p rfl rfl (.inl rfl) (S.move rfl (L 22 rfl rfl)) ?_
      have f104 := f103.up ((((le5.trans le13).trans le18).trans le31).trans le89)
      obtain ⟨x105, hx106, h107⟩ := bindS h93
      refine O.call (V := V88) rfl rfl (.inl rfl) rfl en23 (aC (L 1 rfl rfl) (aC (L 0 rfl rfl) aN)) (wk_ref10_reads V88 _ x91 p1 v102 f104 ow90 _ hx106) (fun _ _ _ _ => nd) (fun v108 V109 le110 hp111 => ?_)
      obtain ⟨rfl, ow112⟩ := hp111
      refine U.done (Nat.le_of_ble_eq_true rfl) ?_
      refine WP.cond _ (L 0 rfl rfl) rfl (fun c113 => ?_) (fun c113 => ?_)
      · have h114 := ifT c113 h107
        refine WP.usreg rfl ?_
        refine U.p rfl rfl (.inl rfl) (S.assign rfl K) ?_
        refine U.done (Nat.le_of_ble_eq_true rfl) ?_
        refine WP.ret ?_
        refine sqR (blkR (sqR (blkR (sqR ?_))))
        have h115 := exitS h114 e35
        refine fin.slot (.inr rfl) rfl (L 0 rfl rfl) ⟨V109, rfl, (((((le5.trans le13).trans le18).trans le31).trans le89).trans le110), ?_⟩
        have ow116 := ow112.drop 0 rfl
        have ow117 := ow116.drop 0 rfl
        have ow118 := ow117.drop 0 rfl
        have e119 := Option.some.inj h115
        subst e119
        exact ⟨rfl, ow118⟩
      · have h120 := ifF c113 h107
        refine WP.skip ?_
        refine sqN ?_
        refine WP.usreg rfl ?_
        refine U.p (v := .pointer (some ⟨b3, 3, none⟩)) rfl rfl (.inl rfl) (S.fieldAddr rfl (L 25 rfl rfl) Try.underlying24 rfl ti22 rfl rfl) ?_
        refine U.k rfl rfl (.inl rfl) (S.load rfl (L 0 rfl rfl) Try.underlying22 rfl ((ow112.own (k := 0) rfl).cell rfl)) nd ?_
        refine U.p rfl rfl (.inl rfl) (S.move rfl (L 19 rfl rfl)) ?_
        obtain ⟨x121, hx122, h123⟩ := bindS h120
        obtain ⟨b124, o125, c126, cs127, hv128, hf129, hr130, hc131⟩ := f2.at hx122
        obtain ⟨v132, rfl, f133⟩ := hr130
        refine U.p rfl rfl (.inl rfl) (S.index rfl ((L 1 rfl rfl).trans hv128) (L 0 rfl rfl) Try.underlying22 ti33 (ix_ge hx122) (ix_lt hx122)) ?_
        refine U.p (v := .pointer (some ⟨b124, o125 + Int.toNat x40 * 9 + 1, none⟩)) rfl rfl (.inl rfl) (S.fieldAddr rfl (L 0 rfl rfl) Try.underlying33 rfl ti3 rfl rfl) ?_
        refine U.k rfl rfl (.inl rfl) (S.load rfl (L 0 rfl rfl) Try.underlying3 rfl ((((((le5.trans le13).trans le18).trans le31).trans le89).trans le110).cell hf129 (hc131 1 _ rfl))) nd ?_
        refine U.p rfl rfl (.inl rfl) (S.move rfl (L 30 rfl rfl)) ?_
        refine U.p rfl rfl (.inl rfl) (S.neqI rfl (L 1 rfl rfl) (L 0 rfl rfl)) ?_
        refine U.done (Nat.le_of_ble_eq_true rfl) ?_
        refine WP.cond _ (L 0 rfl rfl) rfl (fun c134 => ?_) (fun c134 => ?_)
        · have h135 := ifT c134 h123
          refine WP.ureg rfl ?_
          refine U.p rfl rfl (.inl rfl) (S.move rfl (L 22 rfl rfl)) ?_
          refine U.k rfl rfl (.inl rfl) (S.loadB rfl (L 34 rfl rfl) Try.underlying24 rfl ti24 (ow112.own (k := 0) rfl).get rfl) nd ?_
          refine U.p rfl rfl (.inl rfl) (S.move rfl (L 27 rfl rfl)) ?_
          have f136 := f2.up (((((le5.trans le13).trans le18).trans le31).trans le89).trans le110)
          obtain ⟨x137, hx138, h139⟩ := bindS h135
          refine O.call (V := V109) rfl rfl (.inl rfl) rfl en16 (aC (L 1 rfl rfl) (aC (L 0 rfl rfl) aN)) (wk_ref10_Next V109 _ p0 x40 v1 f136 ow112 _ hx138) (fun _ _ _ _ => nd) (fun v140 V141 le142 hp143 => ?_)
          obtain ⟨_, rfl, ow144⟩ := hp143
          obtain ⟨xs147, hx148, h149⟩ := bindS h139
          refine O.append (k := 3) ow144 rfl rfl rfl (.inl rfl) rfl (L 3 rfl rfl) (L 0 rfl rfl) Try.underlying31 ti3 rfl rfl (Nat.le_of_ble_eq_true rfl) (ow144.src (k := 0) rfl Try.underlying31) hx148 (fun _ _ => nd) (fun v150 V151 le152 ow153 => ?_)
          refine U.p rfl rfl (.inl rfl) (S.assign rfl (L 0 rfl rfl)) ?_
          refine U.done (Nat.le_of_ble_eq_true rfl) ?_
          refine blkN (sqN ?_)
          have ow155 := ow153.drop 0 rfl
          exact ⟨_, V151, rfl, ⟨m33, Nat.lt_succ_self _, xs21.set (Int.toNat x40) true, v150, xs147, rfl, ((((le31.trans le89).trans le110).trans le142).trans le152), ow155, backS h149 e35⟩, (allCons (L 38 rfl rfl) (allCons (L 39 rfl rfl) (allCons (L 40 rfl rfl) (allCons (L 0 rfl rfl) allNil))))⟩
        · have h156 := ifF c134 h123
          refine WP.skip ?_
          refine blkN (sqN ?_)
          exact ⟨_, V109, rfl, ⟨m33, Nat.lt_succ_self _, xs21.set (Int.toNat x40) true, v57, xs54, rfl, ((le31.trans le89).trans le110), ow112, backS h156 e35⟩, (allCons (L 32 rfl rfl) (allCons (L 33 rfl rfl) (allCons (L 34 rfl rfl) (allCons (L 22 rfl rfl) allNil))))⟩
  · have h157 := ifF c38 h37
    refine WP.exit ?_
    refine sqE (sqE (blkE (sqN ?_)))
    have h158 := exitS h157 e35
    refine WP.usreg rfl ?_
    refine U.p rfl rfl (.inl rfl) (S.assign rfl K) ?_
    refine U.done (Nat.le_of_ble_eq_true rfl) ?_
    refine WP.ret ?_
    refine fin.slot (.inr rfl) rfl (L 0 rfl rfl) ⟨V30, rfl, (((le5.trans le13).trans le18).trans le31), ?_⟩
    have ow159 := ow32.drop 0 rfl
    have ow160 := ow159.drop 0 rfl
    have ow161 := ow160.drop 0 rfl
    have e162 := Option.some.inj h158
    subst e162
    exact ⟨rfl, ow161⟩

set_option maxHeartbeats 4000000 in
set_option maxRecDepth 10000 in
theorem wk_ref10_Span (V : Vw) (Rs : List At) (p0 : TFunc) (p1 : Int) (v1 : Value) (f2 : Fz RT_TIns V v1 p0.code) (ow : Ow V (Rs)) (r : Int × Int × Bool) (h : ref10_Span p0 p1 = some r) : ∃ v V', Cl Try.prog 0 19 #[.agg #[.string p0.name, .int .i64 p0.params, .int .i64 p0.regs, v1], .int .i64 p1] V.H v V'.H ∧ V.le V' ∧ (v = .tuple #[.int .i64 r.1, .int .i64 r.2.1, .bool r.2.2] ∧ Ow V' (Rs)) := by
  refine Ct.of (Nat.zero_le _) Try.func19 rfl (Nat.le_of_ble_eq_true rfl) ?_
  unfold ref10_Span at h
  refine WP.usreg rfl ?_
  refine O.box ow rfl rfl (.inl rfl) rfl (L 0 rfl rfl) (by simp [topV]) rfl nd (fun b3 V4 le5 ow6 => ?_)
  refine U.p rfl rfl (.inl rfl) (S.assign rfl K) ?_
  refine U.p rfl rfl (.inl rfl) (S.assign rfl K) ?_
  refine U.p rfl rfl (.inl rfl) (S.assign rfl K) ?_
  refine U.done (Nat.le_of_ble_eq_true rfl) ?_
  refine WP.usdreg rfl rfl rfl ?_
  refine U.p rfl rfl (.inl rfl) (S.move rfl (L 5 rfl rfl)) ?_
  refine U.p (v := .pointer (some ⟨b3, 1, none⟩)) rfl rfl (.inl rfl) (S.fieldAddr rfl (L 4 rfl rfl) Try.underlying24 rfl ti3 rfl rfl) ?_
  refine U.k rfl rfl (.inl rfl) (S.load rfl (L 0 rfl rfl) Try.underlying3 rfl ((ow6.own (k := 0) rfl).cell rfl)) (fun _ => (okH.nil (fun r h => by cases h; exact (ow6.own (k := 0) rfl).lt))) ?_
  refine U.p rfl rfl (.inl rfl) (S.lss rfl (L 2 rfl rfl) (L 0 rfl rfl)) ?_
  refine U.p rfl rfl (.inl rfl) (S.assign rfl K) ?_
  refine U.p rfl rfl (.inl rfl) (S.assign rfl K) ?_
  refine U.p rfl rfl (.inl rfl) (S.assign rfl (L 2 rfl rfl)) ?_
  refine U.done (Nat.le_of_ble_eq_true rfl) ?_
  refine WP.seq ?_
  refine WP.usreg rfl ?_
  refine U.p (v := .pointer (some ⟨b3, 3, none⟩)) rfl rfl (.inl rfl) (S.fieldAddr rfl (L 10 rfl rfl) Try.underlying24 rfl ti22 rfl rfl) ?_
  refine U.k rfl rfl (.inl rfl) (S.load rfl (L 0 rfl rfl) Try.underlying22 rfl ((ow6.own (k := 0) rfl).cell rfl)) nd ?_
  refine U.p rfl rfl (.inl rfl) (f2.1.len rfl (L 0 rfl rfl) Try.underlying22) ?_
  refine U.p rfl rfl (.inl rfl) (S.move rfl K) ?_
  refine U.done (Nat.le_of_ble_eq_true rfl) ?_
  refine WP.blk ?_
  unfold ref10_Span_l1 at h
  obtain ⟨n13, hn12⟩ := loopO_some.1 h
  refine WP.loopI2 (fun n l V' => ∃ (x8 : Int) (x9 : Int) (x10 : Bool) (x11 : Int), l = [(1, .int .i64 p1), (2, .pointer (some ⟨b3, 0, none⟩)), (7, .int .i64 x8), (8, .int .i64 x9), (9, .bool x10), (17, v1), (18, .int .i64 (p0.code.length : Int)), (19, .int .i64 x11)] ∧ V4.le V' ∧ Ow V' (.pt b3 (.cells 0 [.string p0.name, .int .i64 p0.params, .int .i64 p0.regs, v1]) :: Rs) ∧ itO (fun s => ref10_Span_l1b p0 p1 s.1 s.2.1 s.2.2.1 s.2.2.2) n (x8, x9, x10, x11) = some r) n13 _ ⟨0, 0, decide (p1 < p0.params), 0, rfl, .refl _, ow6, hn12⟩ (allCons (L 16 rfl rfl) (allCons (L 14 rfl rfl) (allCons (L 6 rfl rfl) (allCons (L 5 rfl rfl) (allCons (L 4 rfl rfl) (allCons (L 2 rfl rfl) (allCons (L 1 rfl rfl) (allCons (L 0 rfl rfl) allNil)))))))) ?_
  rintro _ _ V14 ⟨x8, x9, x10, x11, rfl, le15, ow16, h20⟩
  obtain ⟨m17, q18, rfl, h21, e19⟩ := itS h20
  replace h21 : ref10_Span_l1b p0 p1 x8 x9 x10 x11 = some q18 := h21
  unfold ref10_Span_l1b at h21
  refine WP.usreg rfl ?_
  refine U.p rfl rfl (.inl rfl) (S.lss rfl (L 7 rfl rfl) (L 6 rfl rfl)) ?_
  refine U.done (Nat.le_of_ble_eq_true rfl) ?_
  refine WP.seq ?_
  refine WP.cond _ (L 0 rfl rfl) rfl (fun c22 => ?_) (fun c22 => ?_)
  · have h23 := ifT c22 h21
    refine WP.skip ?_
    refine sqN ?_
    refine WP.seqI (fun l V' => ∃ (x24 : Int) (x25 : Int) (x26 : Bool), l = [(1, .int .i64 p1), (2, .pointer (some ⟨b3, 0, none⟩)), (7, .int .i64 x24), (8, .int .i64 x25), (9, .bool x26), (17, v1), (18, .int .i64 (p0.code.length : Int)), (19, .int .i64 x11)] ∧ V14.le V' ∧ Ow V' (.pt b3 (.cells 0 [.string p0.name, .int .i64 p0.params, .int .i64 p0.regs, v1]) :: Rs) ∧ ref10_Span_k1 x11 x24 x25 x26 = some q18) ?_ ?_
    · rintro _ V27 ⟨x24, x25, x26, rfl, le28, ow29, h30⟩
      unfold ref10_Span_k1 at h30
      refine WP.ureg rfl ?_
      refine U.p rfl rfl (.inl rfl) (S.add rfl (L 7 rfl rfl) K) ?_
      refine U.p rfl rfl (.inl rfl) (S.move rfl (L 0 rfl rfl)) ?_
      refine U.done (Nat.le_of_ble_eq_true rfl) ?_
      refine sqN ?_
      exact ⟨_, V27, rfl, ⟨m17, Nat.lt_succ_self _, x24, x25, x26, w64 (x11 + 1), rfl, (le15.trans le28), ow29, backS h30 e19⟩, (allCons (L 2 rfl rfl) (allCons (L 3 rfl rfl) (allCons (L 4 rfl rfl) (allCons (L 5 rfl rfl) (allCons (L 6 rfl rfl) (allCons (L 7 rfl rfl) (allCons (L 8 rfl rfl) (allCons (L 0 rfl rfl) allNil))))))))⟩
    · skip
      refine WP.blk ?_
      refine WP.usreg rfl ?_
      refine U.p rfl rfl (.inl rfl) (S.move rfl (L 8 rfl rfl)) ?_
      obtain ⟨x31, hx32, h33⟩ := bindS h23
      obtain ⟨b34, o35, c36, cs37, hv38, hf39, hr40, hc41⟩ := f2.at hx32
      obtain ⟨v42, rfl, f43⟩ := hr40
      refine U.p rfl rfl (.inl rfl) (S.index rfl ((L 7 rfl rfl).trans hv38) (L 9 rfl rfl) Try.underlying22 ti33 (ix_ge hx32) (ix_lt hx32)) ?_
      refine U.k rfl rfl (.inl rfl) (S.loadN (cs := [.int .i64 x31.op, .int .i64 x31.d, .int .i64 x31.a, .int .i64 x31.b, .int .i64 x31.imm, v42, .int .i64 x31.what, .bool x31.volatile, .bool x31.final]) rfl (L 0 rfl rfl) Try.underlying33 rfl ti33 rfl (fun j v hj => (le5.trans le15).cell hf39 (hc41 j v hj))) nd ?_
      refine O.alloc ow16 rfl rfl (.inl rfl) rfl ti33 rfl rfl nd (fun b44 V45 le46 ow47 => ?_)
      refine U.p rfl rfl (.inl rfl) (S.assign rfl (L 3 rfl rfl)) ?_
      refine O.store (k := 0) (cs := [.int .i64 x31.op, .int .i64 x31.d, .int .i64 x31.a, .int .i64 x31.b, .int .i64 x31.imm, v42, .int .i64 x31.what, .bool x31.volatile, .bool x31.final]) (c' := [.int .i64 x31.op, .int .i64 x31.d, .int .i64 x31.a, .int .i64 x31.b, .int .i64 x31.imm, v42, .int .i64 x31.what, .bool x31.volatile, .bool x31.final]) ow47 rfl rfl rfl (.inl rfl) rfl (L 1 rfl rfl) (L 2 rfl rfl) ti33 (by simp [topV]) rfl rfl (Nat.le_of_ble_eq_true rfl) (by have q0 := f43.one; simp only [List.all_cons, List.all_nil, q0]; rfl) rfl nd (fun V49 le50 ow51 => ?_)
      refine U.done (Nat.le_of_ble_eq_true rfl) ?_
      refine WP.usreg rfl ?_
      refine U.k rfl rfl (.inl rfl) (S.loadB rfl (L 1 rfl rfl) Try.underlying33 rfl ti33 (ow51.own (k := 0) rfl).get rfl) nd ?_
      refine U.p rfl rfl (.inl rfl) (S.move rfl (L 7 rfl rfl)) ?_
      have f52 := f43.up (((le5.trans le15).trans le46).trans le50)
      obtain ⟨x53, hx54, h55⟩ := bindS h33
      refine O.call (V := V49) rfl rfl (.inl rfl) rfl en23 (aC (L 1 rfl rfl) (aC (L 0 rfl rfl) aN)) (wk_ref10_reads V49 _ x31 p1 v42 f52 ow51 _ hx54) (fun _ _ _ _ => nd) (fun v56 V57 le58 hp59 => ?_)
      obtain ⟨rfl, ow60⟩ := hp59
      refine U.p rfl rfl (.inl rfl) (S.move rfl (L 0 rfl rfl)) ?_
      refine U.joinX 9 (fun e H => ∃ (u61 u62 u63 u64 : Value), H = V57.H ∧ e = [(32, .bool (x53 || (decide (x31.d = p1)))), (31, u61), (30, u62), (29, u63), (28, u64)]) ?_ ?_
      · rintro _ _ ⟨u61, u62, u63, u64, rfl, rfl⟩
        refine U.p rfl rfl (.inl rfl) (S.move rfl (L 0 rfl rfl)) ?_
        obtain ⟨y68, hy69, h70⟩ := bindS h55
        refine U.joinX 15 (fun e H => ∃ (u71 u72 u73 u74 : Value), ∃ V' : Vw, H = V'.H ∧ V57.le V' ∧ e = [(38, .bool y68), (37, u71), (36, u72), (35, u73), (34, u74)] ∧ Ow V' (.pt b44 (.cells 9 [.int .i64 x31.op, .int .i64 x31.d, .int .i64 x31.a, .int .i64 x31.b, .int .i64 x31.imm, v42, .int .i64 x31.what, .bool x31.volatile, .bool x31.final]) :: .pt b3 (.cells 0 [.string p0.name, .int .i64 p0.params, .int .i64 p0.regs, v1]) :: Rs)) ?_ ?_
        · rintro _ _ ⟨u71, u72, u73, u74, V75, rfl, le76, rfl, ow77⟩
          refine U.done (Nat.le_of_ble_eq_true rfl) ?_
          refine WP.cond _ (L 0 rfl rfl) rfl (fun c78 => ?_) (fun c78 => ?_)
          · have h79 := ifT c78 h70
            refine WP.seqI (fun l V' => ∃ (x80 : Int), l = [(1, .int .i64 p1), (2, .pointer (some ⟨b3, 0, none⟩)), (7, .int .i64 x80), (8, .int .i64 x9), (9, .bool x10), (10, .int .i64 x11), (17, v1), (18, .int .i64 (p0.code.length : Int)), (19, .int .i64 x11)] ∧ V75.le V' ∧ Ow V' (.pt b3 (.cells 0 [.string p0.name, .int .i64 p0.params, .int .i64 p0.regs, v1]) :: Rs) ∧ ref10_Span_k2 x9 x10 x11 x80 = some q18) ?_ ?_
            · rintro _ V81 ⟨x80, rfl, le82, ow83, h84⟩
              unfold ref10_Span_k2 at h84
              refine WP.seqI (fun l V' => ∃ (x85 : Int), l = [(1, .int .i64 p1), (2, .pointer (some ⟨b3, 0, none⟩)), (7, .int .i64 x80), (8, .int .i64 x85), (17, v1), (18, .int .i64 (p0.code.length : Int)), (19, .int .i64 x11)] ∧ V81.le V' ∧ Ow V' (.pt b3 (.cells 0 [.string p0.name, .int .i64 p0.params, .int .i64 p0.regs, v1]) :: Rs) ∧ ref10_Span_k3 x11 x80 x85 = some q18) ?_ ?_
              · rintro _ V86 ⟨x85, rfl, le87, ow88, h89⟩
                unfold ref10_Span_k3 at h89
                refine WP.ureg rfl ?_
                refine U.p rfl rfl (.inl rfl) (S.assign rfl K) ?_
                refine U.done (Nat.le_of_ble_eq_true rfl) ?_
                refine blkN (sqN ?_)
                exact ⟨_, V86, rfl, ⟨x80, x85, true, rfl, (((((le46.trans le50).trans le58).trans le76).trans le82).trans le87), ow88, h89⟩, (allCons (L 1 rfl rfl) (allCons (L 2 rfl rfl) (allCons (L 3 rfl rfl) (allCons (L 4 rfl rfl) (allCons (L 0 rfl rfl) (allCons (L 5 rfl rfl) (allCons (L 6 rfl rfl) (allCons (L 7 rfl rfl) allNil))))))))⟩
              · skip
                refine WP.usreg rfl ?_
                refine U.p rfl rfl (.inl rfl) (S.move rfl (L 4 rfl rfl)) ?_
                refine U.p rfl rfl (.inl rfl) (S.not rfl (L 0 rfl rfl)) ?_
                refine U.p rfl rfl (.inl rfl) (S.move rfl (L 0 rfl rfl)) ?_
                refine U.joinX 7 (fun e H => ∃ (u90 u91 u92 : Value), H = V81.H ∧ e = [(53, .bool ((!x10) || (decide (x9 < x11)))), (52, u90), (51, u91), (50, u92)]) ?_ ?_
                · rintro _ _ ⟨u90, u91, u92, rfl, rfl⟩
                  refine U.done (Nat.le_of_ble_eq_true rfl) ?_
                  refine WP.cond _ (L 0 rfl rfl) rfl (fun c96 => ?_) (fun c96 => ?_)
                  · have h97 := ifT c96 h84
                    refine WP.ureg rfl ?_
                    refine U.p rfl rfl (.inl rfl) (S.move rfl (L 12 rfl rfl)) ?_
                    refine U.p rfl rfl (.inl rfl) (S.assign rfl (L 0 rfl rfl)) ?_
                    refine U.done (Nat.le_of_ble_eq_true rfl) ?_
                    refine sqN ?_
                    exact ⟨_, V81, rfl, ⟨x11, rfl, (.refl _), ow83, h97⟩, (allCons (L 9 rfl rfl) (allCons (L 10 rfl rfl) (allCons (L 11 rfl rfl) (allCons (L 0 rfl rfl) (allCons (L 15 rfl rfl) (allCons (L 16 rfl rfl) (allCons (L 17 rfl rfl) allNil)))))))⟩
                  · have h98 := ifF c96 h84
                    refine WP.skip ?_
                    refine sqN ?_
                    exact ⟨_, V81, rfl, ⟨x9, rfl, (.refl _), ow83, h98⟩, (allCons (L 7 rfl rfl) (allCons (L 8 rfl rfl) (allCons (L 9 rfl rfl) (allCons (L 10 rfl rfl) (allCons (L 13 rfl rfl) (allCons (L 14 rfl rfl) (allCons (L 15 rfl rfl) allNil)))))))⟩
                · intro kk
                  refine bcase (b := !x10) (fun g99 => ?_) (fun g99 => ?_)
                  · skip
                    have k100 : x10 = false := by simpa using g99
                    refine U.x rfl rfl rfl rfl ((L 0 rfl rfl).trans (congrArg Value.bool g99)) (by decide) ?_
                    refine U.x rfl rfl rfl rfl ((L 1 rfl rfl).trans (congrArg Value.bool g99)) (by decide) ?_
                    refine U.x rfl rfl rfl rfl ((L 2 rfl rfl).trans (congrArg Value.bool g99)) (by decide) ?_
                    refine U.p rfl rfl (.inl rfl) (S.pickT rfl ((L 3 rfl rfl).trans (congrArg Value.bool g99)) K) ?_
                    exact kk [(53, .bool true), (52, .tuple #[]), (51, .tuple #[]), (50, .tuple #[])] _ ⟨.tuple #[], .tuple #[], .tuple #[], rfl, (by rw [g99, Bool.true_or])⟩
                  · skip
                    have k101 : x10 = true := by simpa using g99
                    refine U.p rfl rfl (.inr ⟨_, _, _, rfl, rfl, ((L 0 rfl rfl).trans (congrArg Value.bool g99))⟩) (S.move rfl (L 8 rfl rfl)) ?_
                    refine U.p rfl rfl (.inr ⟨_, _, _, rfl, rfl, ((L 1 rfl rfl).trans (congrArg Value.bool g99))⟩) (S.move rfl (L 7 rfl rfl)) ?_
                    refine U.p rfl rfl (.inr ⟨_, _, _, rfl, rfl, ((L 2 rfl rfl).trans (congrArg Value.bool g99))⟩) (S.gtr rfl (L 1 rfl rfl) (L 0 rfl rfl)) ?_
                    refine U.p rfl rfl (.inl rfl) (S.pickF rfl ((L 3 rfl rfl).trans (congrArg Value.bool g99)) (L 0 rfl rfl)) ?_
                    exact kk [(53, .bool (decide (x9 < x11))), (52, .bool (decide (x9 < x11))), (51, .int .i64 x9), (50, .int .i64 x11)] _ ⟨.bool (decide (x9 < x11)), .int .i64 x9, .int .i64 x11, rfl, (by rw [g99, Bool.false_or])⟩
            · skip
              refine WP.usreg rfl ?_
              refine U.p rfl rfl (.inl rfl) (S.move rfl (L 25 rfl rfl)) ?_
              refine U.p rfl rfl (.inl rfl) (S.not rfl (L 0 rfl rfl)) ?_
              refine U.p rfl rfl (.inl rfl) (S.move rfl (L 0 rfl rfl)) ?_
              refine U.joinX 7 (fun e H => ∃ (u102 u103 u104 : Value), H = V75.H ∧ e = [(45, .bool ((!x10) || (decide (x11 < x8)))), (44, u102), (43, u103), (42, u104)]) ?_ ?_
              · rintro _ _ ⟨u102, u103, u104, rfl, rfl⟩
                refine U.done (Nat.le_of_ble_eq_true rfl) ?_
                refine WP.cond _ (L 0 rfl rfl) rfl (fun c108 => ?_) (fun c108 => ?_)
                · have h109 := ifT c108 h79
                  refine WP.ureg rfl ?_
                  refine U.p rfl rfl (.inl rfl) (S.move rfl (L 22 rfl rfl)) ?_
                  refine U.p rfl rfl (.inl rfl) (S.assign rfl (L 0 rfl rfl)) ?_
                  refine U.done (Nat.le_of_ble_eq_true rfl) ?_
                  refine sqN ?_
                  have ow110 := ow77.drop 0 rfl
                  exact ⟨_, V75, rfl, ⟨x11, rfl, (.refl _), ow110, h109⟩, (allCons (L 30 rfl rfl) (allCons (L 31 rfl rfl) (allCons (L 0 rfl rfl) (allCons (L 33 rfl rfl) (allCons (L 34 rfl rfl) (allCons (L 24 rfl rfl) (allCons (L 35 rfl rfl) (allCons (L 36 rfl rfl) (allCons (L 37 rfl rfl) allNil)))))))))⟩
                · have h111 := ifF c108 h79
                  refine WP.skip ?_
                  refine sqN ?_
                  have ow112 := ow77.drop 0 rfl
                  exact ⟨_, V75, rfl, ⟨x8, rfl, (.refl _), ow112, h111⟩, (allCons (L 28 rfl rfl) (allCons (L 29 rfl rfl) (allCons (L 30 rfl rfl) (allCons (L 31 rfl rfl) (allCons (L 32 rfl rfl) (allCons (L 22 rfl rfl) (allCons (L 33 rfl rfl) (allCons (L 34 rfl rfl) (allCons (L 35 rfl rfl) allNil)))))))))⟩
              · intro kk
                refine bcase (b := !x10) (fun g113 => ?_) (fun g113 => ?_)
                · skip
                  have k114 : x10 = false := by simpa using g113
                  refine U.x rfl rfl rfl rfl ((L 0 rfl rfl).trans (congrArg Value.bool g113)) (by decide) ?_
                  refine U.x rfl rfl rfl rfl ((L 1 rfl rfl).trans (congrArg Value.bool g113)) (by decide) ?_
                  refine U.x rfl rfl rfl rfl ((L 2 rfl rfl).trans (congrArg Value.bool g113)) (by decide) ?_
                  refine U.p rfl rfl (.inl rfl) (S.pickT rfl ((L 3 rfl rfl).trans (congrArg Value.bool g113)) K) ?_
                  exact kk [(45, .bool true), (44, .tuple #[]), (43, .tuple #[]), (42, .tuple #[])] _ ⟨.tuple #[], .tuple #[], .tuple #[], rfl, (by rw [g113, Bool.true_or])⟩
                · skip
                  have k115 : x10 = true := by simpa using g113
                  refine U.p rfl rfl (.inr ⟨_, _, _, rfl, rfl, ((L 0 rfl rfl).trans (congrArg Value.bool g113))⟩) (S.move rfl (L 18 rfl rfl)) ?_
                  refine U.p rfl rfl (.inr ⟨_, _, _, rfl, rfl, ((L 1 rfl rfl).trans (congrArg Value.bool g113))⟩) (S.move rfl (L 27 rfl rfl)) ?_
                  refine U.p rfl rfl (.inr ⟨_, _, _, rfl, rfl, ((L 2 rfl rfl).trans (congrArg Value.bool g113))⟩) (S.lss rfl (L 1 rfl rfl) (L 0 rfl rfl)) ?_
                  refine U.p rfl rfl (.inl rfl) (S.pickF rfl ((L 3 rfl rfl).trans (congrArg Value.bool g113)) (L 0 rfl rfl)) ?_
                  exact kk [(45, .bool (decide (x11 < x8))), (44, .bool (decide (x11 < x8))), (43, .int .i64 x8), (42, .int .i64 x11)] _ ⟨.bool (decide (x11 < x8)), .int .i64 x8, .int .i64 x11, rfl, (by rw [g113, Bool.false_or])⟩
          · have h116 := ifF c78 h70
            refine WP.skip ?_
            refine blkN (sqN ?_)
            have ow117 := ow77.drop 0 rfl
            exact ⟨_, V75, rfl, ⟨x8, x9, x10, rfl, (((le46.trans le50).trans le58).trans le76), ow117, h116⟩, (allCons (L 21 rfl rfl) (allCons (L 22 rfl rfl) (allCons (L 23 rfl rfl) (allCons (L 24 rfl rfl) (allCons (L 25 rfl rfl) (allCons (L 26 rfl rfl) (allCons (L 27 rfl rfl) (allCons (L 28 rfl rfl) allNil))))))))⟩
        · intro kk
          refine bcase (b := x53 || (decide (x31.d = p1))) (fun g118 => ?_) (fun g118 => ?_)
          · have h119 := ifT g118 hy69
            refine U.x rfl rfl rfl rfl ((L 0 rfl rfl).trans (congrArg Value.bool g118)) (by decide) ?_
            refine U.x rfl rfl rfl rfl ((L 1 rfl rfl).trans (congrArg Value.bool g118)) (by decide) ?_
            refine U.x rfl rfl rfl rfl ((L 2 rfl rfl).trans (congrArg Value.bool g118)) (by decide) ?_
            refine U.x rfl rfl rfl rfl ((L 3 rfl rfl).trans (congrArg Value.bool g118)) (by decide) ?_
            refine U.p rfl rfl (.inl rfl) (S.pickT rfl ((L 4 rfl rfl).trans (congrArg Value.bool g118)) K) ?_
            have e120 := Option.some.inj h119
            subst e120
            exact kk [(38, .bool true), (37, .tuple #[]), (36, .tuple #[]), (35, .tuple #[]), (34, .tuple #[])] _ ⟨.tuple #[], .tuple #[], .tuple #[], .tuple #[], V57, rfl, (.refl _), rfl, ow60⟩
          · have h121 := ifF g118 hy69
            refine U.k rfl rfl (.inr ⟨_, _, _, rfl, rfl, ((L 0 rfl rfl).trans (congrArg Value.bool g118))⟩) (S.loadB rfl (L 17 rfl rfl) Try.underlying24 rfl ti24 (ow60.own (k := 1) rfl).get rfl) nd ?_
            refine U.p rfl rfl (.inr ⟨_, _, _, rfl, rfl, ((L 1 rfl rfl).trans (congrArg Value.bool g118))⟩) (S.move rfl (L 17 rfl rfl)) ?_
            refine U.p rfl rfl (.inr ⟨_, _, _, rfl, rfl, ((L 2 rfl rfl).trans (congrArg Value.bool g118))⟩) (S.move rfl (L 12 rfl rfl)) ?_
            have f122 := f2.up ((((le5.trans le15).trans le46).trans le50).trans le58)
            obtain ⟨x123, hx124, h125⟩ := bindS h121
            refine O.call (V := V57) rfl rfl (.inr ⟨_, _, _, rfl, rfl, ((L 3 rfl rfl).trans (congrArg Value.bool g118))⟩) rfl en11 (aC (L 2 rfl rfl) (aC (L 1 rfl rfl) (aC (L 0 rfl rfl) aN))) (wk_ref10_Needed V57 _ p0 p1 x11 v1 f122 ow60 _ hx124) (fun _ _ _ _ => nd) (fun v126 V127 le128 hp129 => ?_)
            obtain ⟨rfl, ow130⟩ := hp129
            refine U.p rfl rfl (.inl rfl) (S.pickF rfl ((L 4 rfl rfl).trans (congrArg Value.bool g118)) (L 0 rfl rfl)) ?_
            have e131 := Option.some.inj h125
            subst e131
            exact kk [(38, .bool x123), (37, .bool x123), (36, .int .i64 x11), (35, .int .i64 p1), (34, .agg #[.string p0.name, .int .i64 p0.params, .int .i64 p0.regs, v1])] _ ⟨.bool x123, .int .i64 x11, .int .i64 p1, .agg #[.string p0.name, .int .i64 p0.params, .int .i64 p0.regs, v1], V127, rfl, le128, rfl, ow130⟩
      · intro kk
        refine bcase (b := x53) (fun g132 => ?_) (fun g132 => ?_)
        · skip
          refine U.x rfl rfl rfl rfl ((L 0 rfl rfl).trans (congrArg Value.bool g132)) (by decide) ?_
          refine U.x rfl rfl rfl rfl ((L 1 rfl rfl).trans (congrArg Value.bool g132)) (by decide) ?_
          refine U.x rfl rfl rfl rfl ((L 2 rfl rfl).trans (congrArg Value.bool g132)) (by decide) ?_
          refine U.x rfl rfl rfl rfl ((L 3 rfl rfl).trans (congrArg Value.bool g132)) (by decide) ?_
          refine U.p rfl rfl (.inl rfl) (S.pickT rfl ((L 4 rfl rfl).trans (congrArg Value.bool g132)) K) ?_
          exact kk [(32, .bool true), (31, .tuple #[]), (30, .tuple #[]), (29, .tuple #[]), (28, .tuple #[])] _ ⟨.tuple #[], .tuple #[], .tuple #[], .tuple #[], rfl, (by rw [g132, Bool.true_or])⟩
        · skip
          refine U.p (v := .pointer (some ⟨b44, 1, none⟩)) rfl rfl (.inr ⟨_, _, _, rfl, rfl, ((L 0 rfl rfl).trans (congrArg Value.bool g132))⟩) (S.fieldAddr rfl (L 5 rfl rfl) Try.underlying33 rfl ti3 rfl rfl) ?_
          refine U.k rfl rfl (.inr ⟨_, _, _, rfl, rfl, ((L 1 rfl rfl).trans (congrArg Value.bool g132))⟩) (S.load rfl (L 0 rfl rfl) Try.underlying3 rfl ((ow60.own (k := 0) rfl).cell rfl)) nd ?_
          refine U.p rfl rfl (.inr ⟨_, _, _, rfl, rfl, ((L 2 rfl rfl).trans (congrArg Value.bool g132))⟩) (S.move rfl (L 12 rfl rfl)) ?_
          refine U.p rfl rfl (.inr ⟨_, _, _, rfl, rfl, ((L 3 rfl rfl).trans (congrArg Value.bool g132))⟩) (S.eqlI rfl (L 1 rfl rfl) (L 0 rfl rfl)) ?_
          refine U.p rfl rfl (.inl rfl) (S.pickF rfl ((L 4 rfl rfl).trans (congrArg Value.bool g132)) (L 0 rfl rfl)) ?_
          exact kk [(32, .bool (decide (x31.d = p1))), (31, .bool (decide (x31.d = p1))), (30, .int .i64 p1), (29, .int .i64 x31.d), (28, .pointer (some ⟨b44, 1, none⟩))] _ ⟨.bool (decide (x31.d = p1)), .int .i64 p1, .int .i64 x31.d, .pointer (some ⟨b44, 1, none⟩), rfl, (by rw [g132, Bool.false_or])⟩
  · have h133 := ifF c22 h21
    refine WP.exit ?_
    refine sqE (sqE (blkE (sqN ?_)))
    have h134 := exitS h133 e19
    refine WP.usreg rfl ?_
    refine U.p rfl rfl (.inl rfl) (S.move rfl (L 3 rfl rfl)) ?_
    refine U.p rfl rfl (.inl rfl) (S.move rfl (L 5 rfl rfl)) ?_
    refine U.p rfl rfl (.inl rfl) (S.move rfl (L 7 rfl rfl)) ?_
    refine U.p rfl rfl (.inl rfl) (S.assign rfl (L 2 rfl rfl)) ?_
    refine U.p rfl rfl (.inl rfl) (S.assign rfl (L 2 rfl rfl)) ?_
    refine U.p rfl rfl (.inl rfl) (S.assign rfl (L 2 rfl rfl)) ?_
    refine U.done (Nat.le_of_ble_eq_true rfl) ?_
    refine WP.ret ?_
    refine fin.slots' (.inr rfl) (fsC (L 2 rfl rfl) (fsC (L 1 rfl rfl) (fsC (L 0 rfl rfl) fsN))) rfl ⟨V14, rfl, (le5.trans le15), ?_⟩
    have ow135 := ow16.drop 0 rfl
    have e136 := Option.some.inj h134
    subst e136
    exact ⟨rfl, ow135⟩

set_option maxHeartbeats 4000000 in
set_option maxRecDepth 10000 in
theorem wk_law10_FlowSpans (V : Vw) (Rs : List At) (p0 : TFunc) (v1 : Value) (f2 : Fz RT_TIns V v1 p0.code) (ow : Ow V (Rs)) (r : Bool) (h : law10_FlowSpans p0 = some r) : ∃ v V', Cl Try.prog 0 7 #[.agg #[.string p0.name, .int .i64 p0.params, .int .i64 p0.regs, v1]] V.H v V'.H ∧ V.le V' ∧ (v = .bool r ∧ Ow V' (Rs)) := by
  refine Ct.of (Nat.zero_le _) Try.func7 rfl (Nat.le_of_ble_eq_true rfl) ?_
  unfold law10_FlowSpans at h
  refine WP.usreg rfl ?_
  refine O.box ow rfl rfl (.inl rfl) rfl (L 0 rfl rfl) (by simp [topV]) rfl nd (fun b3 V4 le5 ow6 => ?_)
  refine U.p rfl rfl (.inl rfl) (S.assign rfl K) ?_
  refine U.done (Nat.le_of_ble_eq_true rfl) ?_
  refine WP.seq ?_
  refine WP.usreg rfl ?_
  obtain ⟨x8, hx9, h10⟩ := bindS h
  refine O.call (V := V4) rfl rfl (.inl rfl) rfl en8 aN (wk_law10_alive V4 _ ow6 _ hx9) (fun _ _ _ _ => nd) (fun v11 V12 le13 hp14 => ?_)
  obtain ⟨rfl, ow15⟩ := hp14
  refine U.p rfl rfl (.inl rfl) (S.not rfl (L 0 rfl rfl)) ?_
  refine U.done (Nat.le_of_ble_eq_true rfl) ?_
  refine WP.cond _ (L 0 rfl rfl) rfl (fun c16 => ?_) (fun c16 => ?_)
  · have h17 := ifT c16 h10
    have k18 : x8 = false := by simpa using c16
    refine WP.usreg rfl ?_
    refine U.p rfl rfl (.inl rfl) (S.assign rfl K) ?_
    refine U.done (Nat.le_of_ble_eq_true rfl) ?_
    refine WP.ret ?_
    refine sqR ?_
    refine fin.slot (.inr rfl) rfl (L 0 rfl rfl) ⟨V12, rfl, (le5.trans le13), ?_⟩
    have ow19 := ow15.drop 0 rfl
    have e20 := Option.some.inj h17
    subst e20
    exact ⟨rfl, ow19⟩
  · have h21 := ifF c16 h10
    have k22 : x8 = true := by simpa using c16
    refine WP.skip ?_
    refine sqN ?_
    refine WP.seq ?_
    refine WP.usreg rfl ?_
    refine U.k rfl rfl (.inl rfl) (S.loadB rfl (L 3 rfl rfl) Try.underlying24 rfl ti24 (ow15.own (k := 0) rfl).get rfl) nd ?_
    have f23 := f2.up (le5.trans le13)
    obtain ⟨x24, hx25, h26⟩ := bindS h21
    refine O.call (V := V12) rfl rfl (.inl rfl) rfl en9 (aC (L 0 rfl rfl) aN) (wk_law10_great V12 _ p0 v1 f23 ow15 _ hx25) (fun _ _ _ _ => nd) (fun v27 V28 le29 hp30 => ?_)
    obtain ⟨rfl, ow31⟩ := hp30
    refine U.done (Nat.le_of_ble_eq_true rfl) ?_
    refine WP.cond _ (L 0 rfl rfl) rfl (fun c32 => ?_) (fun c32 => ?_)
    · have h33 := ifT c32 h26
      refine WP.usreg rfl ?_
      refine U.p rfl rfl (.inl rfl) (S.assign rfl K) ?_
      refine U.done (Nat.le_of_ble_eq_true rfl) ?_
      refine WP.ret ?_
      refine sqR ?_
      refine fin.slot (.inr rfl) rfl (L 0 rfl rfl) ⟨V28, rfl, ((le5.trans le13).trans le29), ?_⟩
      have ow34 := ow31.drop 0 rfl
      have e35 := Option.some.inj h33
      subst e35
      exact ⟨rfl, ow34⟩
    · have h36 := ifF c32 h26
      refine WP.skip ?_
      refine sqN ?_
      refine WP.usreg rfl ?_
      refine U.k rfl rfl (.inl rfl) (S.loadB rfl (L 5 rfl rfl) Try.underlying24 rfl ti24 (ow31.own (k := 0) rfl).get rfl) nd ?_
      have f37 := f23.up le29
      obtain ⟨x38, hx39, h40⟩ := bindS h36
      refine O.call (V := V28) rfl rfl (.inl rfl) rfl en18 (aC (L 0 rfl rfl) aN) (wk_flow_Spans V28 _ p0 v1 f37 ow31 _ hx39) (fun _ _ _ _ => nd) (fun v41 V42 le43 hp44 => ?_)
      obtain ⟨_, rfl, ow45⟩ := hp44
      refine U.p rfl rfl (.inl rfl) (S.assign rfl (L 0 rfl rfl)) ?_
      refine U.done (Nat.le_of_ble_eq_true rfl) ?_
      refine WP.usreg rfl ?_
      refine U.p rfl rfl (.inl rfl) (S.assign rfl K) ?_
      refine U.done (Nat.le_of_ble_eq_true rfl) ?_
      refine WP.seq ?_
      refine WP.usreg rfl ?_
      refine U.p rfl rfl (.inl rfl) (S.assign rfl K) ?_
      refine U.done (Nat.le_of_ble_eq_true rfl) ?_
      refine WP.blk ?_
      have ow50 := ow45.pick 0 rfl
      have ow51 := ow50.pick 1 rfl
      unfold law10_FlowSpans_l1 at h40
      obtain ⟨n53, hn52⟩ := loopO_some.1 h40
      refine WP.loopI2 (fun n l V' => ∃ (x48 : Int) (x49 : Int), l = [(1, .pointer (some ⟨b3, 0, none⟩)), (3, v41), (4, .int .i64 x48), (5, .int .i64 x49)] ∧ V42.le V' ∧ Ow V' (.pt b3 (.cells 0 [.string p0.name, .int .i64 p0.params, .int .i64 p0.regs, v1]) :: .os RT_Tflow_Span v41 x38 :: Rs) ∧ itO (fun s => law10_FlowSpans_l1b p0 x38 s.1 s.2) n (x48, x49) = some r) n53 _ ⟨0, 0, rfl, .refl _, ow51, hn52⟩ (allCons (L 10 rfl rfl) (allCons (L 2 rfl rfl) (allCons (L 1 rfl rfl) (allCons (L 0 rfl rfl) allNil)))) ?_
      rintro _ _ V54 ⟨x48, x49, rfl, le55, ow56, h60⟩
      obtain ⟨m57, q58, rfl, h61, e59⟩ := itS h60
      replace h61 : law10_FlowSpans_l1b p0 x38 x48 x49 = some q58 := h61
      unfold law10_FlowSpans_l1b at h61
      refine WP.seq ?_
      refine WP.usreg rfl ?_
      refine U.p rfl rfl (.inl rfl) (S.move rfl (L 3 rfl rfl)) ?_
      refine U.p (v := .pointer (some ⟨b3, 2, none⟩)) rfl rfl (.inl rfl) (S.fieldAddr rfl (L 1 rfl rfl) Try.underlying24 rfl ti3 rfl rfl) ?_
      refine U.k rfl rfl (.inl rfl) (S.load rfl (L 0 rfl rfl) Try.underlying3 rfl ((ow56.own (k := 0) rfl).cell rfl)) nd ?_
      refine U.p rfl rfl (.inl rfl) (S.lss rfl (L 2 rfl rfl) (L 0 rfl rfl)) ?_
      refine U.done (Nat.le_of_ble_eq_true rfl) ?_
      refine WP.cond _ (L 0 rfl rfl) rfl (fun c62 => ?_) (fun c62 => ?_)
      · have h63 := ifT c62 h61
        refine WP.skip ?_
        refine sqN ?_
        refine WP.seq ?_
        refine WP.blk ?_
        refine WP.usreg rfl ?_
        refine U.k rfl rfl (.inl rfl) (S.loadB rfl (L 4 rfl rfl) Try.underlying24 rfl ti24 (ow56.own (k := 0) rfl).get rfl) nd ?_
        refine U.p rfl rfl (.inl rfl) (S.move rfl (L 8 rfl rfl)) ?_
        have f64 := f37.up (le43.trans le55)
        obtain ⟨x65, hx66, h67⟩ := bindS h63
        refine O.call (V := V54) rfl rfl (.inl rfl) rfl en19 (aC (L 1 rfl rfl) (aC (L 0 rfl rfl) aN)) (wk_ref10_Span V54 _ p0 x49 v1 f64 ow56 _ hx66) (fun _ _ _ _ => nd) (fun v68 V69 le70 hp71 => ?_)
        obtain ⟨rfl, ow72⟩ := hp71
        refine U.p rfl rfl (.inl rfl) (S.move rfl (L 0 rfl rfl)) ?_
        refine U.p rfl rfl (.inl rfl) (S.extract rfl (L 0 rfl rfl) rfl (Nat.le_of_ble_eq_true rfl)) ?_
        refine U.p rfl rfl (.inl rfl) (S.extract rfl (L 1 rfl rfl) rfl (Nat.le_of_ble_eq_true rfl)) ?_
        refine U.p rfl rfl (.inl rfl) (S.extract rfl (L 2 rfl rfl) rfl (Nat.le_of_ble_eq_true rfl)) ?_
        refine U.p rfl rfl (.inl rfl) (S.assign rfl (L 2 rfl rfl)) ?_
        refine U.p rfl rfl (.inl rfl) (S.assign rfl (L 2 rfl rfl)) ?_
        refine U.p rfl rfl (.inl rfl) (S.assign rfl (L 2 rfl rfl)) ?_
        refine U.done (Nat.le_of_ble_eq_true rfl) ?_
        refine WP.usreg rfl ?_
        refine U.p rfl rfl (.inl rfl) (S.assign rfl K) ?_
        refine U.done (Nat.le_of_ble_eq_true rfl) ?_
        refine WP.seq ?_
        refine WP.usreg rfl ?_
        refine U.p rfl rfl (.inl rfl) (S.move rfl (L 16 rfl rfl)) ?_
        refine U.p rfl rfl (.inl rfl) (ow72.oslen (k := 1) rfl rfl (L 0 rfl rfl) Try.underlying39) ?_
        refine U.p rfl rfl (.inl rfl) (S.move rfl K) ?_
        refine U.done (Nat.le_of_ble_eq_true rfl) ?_
        refine WP.blk ?_
        unfold law10_FlowSpans_l2 at h67
        obtain ⟨n76, hn75⟩ := loopO_some.1 h67
        refine WP.loopI2 (fun n l V' => ∃ (x73 : Bool) (x74 : Int), l = [(1, .pointer (some ⟨b3, 0, none⟩)), (3, v41), (4, .int .i64 x48), (5, .int .i64 x49), (6, .int .i64 x65.1), (7, .int .i64 x65.2.1), (8, .bool x65.2.2), (9, .bool x73), (33, v41), (34, .int .i64 (x38.length : Int)), (35, .int .i64 x74)] ∧ V69.le V' ∧ Ow V' (.pt b3 (.cells 0 [.string p0.name, .int .i64 p0.params, .int .i64 p0.regs, v1]) :: .os RT_Tflow_Span v41 x38 :: Rs) ∧ itO (fun s => law10_FlowSpans_l2b p0 x38 x48 x49 x65 s.1 s.2) n (x73, x74) = some q58) n76 _ ⟨false, 0, rfl, .refl _, ow72, hn75⟩ (allCons (L 18 rfl rfl) (allCons (L 19 rfl rfl) (allCons (L 20 rfl rfl) (allCons (L 21 rfl rfl) (allCons (L 6 rfl rfl) (allCons (L 5 rfl rfl) (allCons (L 4 rfl rfl) (allCons (L 3 rfl rfl) (allCons (L 2 rfl rfl) (allCons (L 1 rfl rfl) (allCons (L 0 rfl rfl) allNil))))))))))) ?_
        rintro _ _ V77 ⟨x73, x74, rfl, le78, ow79, h83⟩
        obtain ⟨m80, q81, rfl, h84, e82⟩ := itS h83
        replace h84 : law10_FlowSpans_l2b p0 x38 x48 x49 x65 x73 x74 = some q81 := h84
        unfold law10_FlowSpans_l2b at h84
        refine WP.usreg rfl ?_
        refine U.p rfl rfl (.inl rfl) (S.lss rfl (L 10 rfl rfl) (L 9 rfl rfl)) ?_
        refine U.done (Nat.le_of_ble_eq_true rfl) ?_
        refine WP.seq ?_
        refine WP.cond _ (L 0 rfl rfl) rfl (fun c85 => ?_) (fun c85 => ?_)
        · have h86 := ifT c85 h84
          refine WP.skip ?_
          refine sqN ?_
          refine WP.seq ?_
          refine WP.blk ?_
          refine WP.usreg rfl ?_
          obtain ⟨x87, hx88, h89⟩ := bindS h86
          obtain ⟨b90, o91, n92, c93, hv94⟩ := ow79.ospt (k := 1) rfl hx88
          obtain ⟨_, hv95, _⟩ := ow79.osel (k := 1) rfl hv94 hx88
          refine U.p rfl rfl (.inl rfl) (S.index rfl ((L 9 rfl rfl).trans hv95) (L 11 rfl rfl) Try.underlying39 ti44 (ix_ge hx88) (ix_lt hx88)) ?_
          obtain ⟨cs96, hv97, hlt98, hr99, hc100⟩ := ow79.osel (k := 1) rfl hv94 hx88
          obtain rfl : cs96 = [.int .i64 x87.reg, .int .i64 x87.from_, .int .i64 x87.to_] := hr99
          refine U.k rfl rfl (.inl rfl) (S.loadN (cs := [.int .i64 x87.reg, .int .i64 x87.from_, .int .i64 x87.to_]) rfl (L 0 rfl rfl) Try.underlying44 rfl ti44 rfl hc100) nd ?_
          refine O.alloc ow79 rfl rfl (.inl rfl) rfl ti44 rfl rfl nd (fun b101 V102 le103 ow104 => ?_)
          refine O.store (k := 0) (cs := [.int .i64 x87.reg, .int .i64 x87.from_, .int .i64 x87.to_]) (c' := [.int .i64 x87.reg, .int .i64 x87.from_, .int .i64 x87.to_]) ow104 rfl rfl rfl (.inl rfl) rfl (L 0 rfl rfl) (L 1 rfl rfl) ti44 (by simp [topV]) rfl rfl (Nat.le_of_ble_eq_true rfl) rfl rfl nd (fun V106 le107 ow108 => ?_)
          refine U.done (Nat.le_of_ble_eq_true rfl) ?_
          refine WP.ureg rfl ?_
          refine U.p rfl rfl (.inl rfl) (S.move rfl (L 11 rfl rfl)) ?_
          refine U.p rfl rfl (.inl rfl) (S.move rfl (L 0 rfl rfl)) ?_
          refine U.joinX 9 (fun e H => ∃ (u109 u110 u111 u112 u113 u114 : Value), H = V106.H ∧ e = [(47, .bool (x73 || ((decide (x87.reg = x49)) && ((decide (x87.from_ = x65.1)) && ((decide (x87.to_ = x65.2.1)) && true))))), (46, u109), (45, u110), (44, u111), (43, u112), (42, u113), (41, u114)]) ?_ ?_
          · rintro _ _ ⟨u109, u110, u111, u112, u113, u114, rfl, rfl⟩
            refine U.p rfl rfl (.inl rfl) (S.assign rfl (L 0 rfl rfl)) ?_
            refine U.done (Nat.le_of_ble_eq_true rfl) ?_
            refine blkN (sqN ?_)
            refine WP.ureg rfl ?_
            refine U.p rfl rfl (.inl rfl) (S.add rfl (L 24 rfl rfl) K) ?_
            refine U.p rfl rfl (.inl rfl) (S.move rfl (L 0 rfl rfl)) ?_
            refine U.done (Nat.le_of_ble_eq_true rfl) ?_
            refine sqN ?_
            have ow118 := ow108.drop 0 rfl
            exact ⟨_, V106, rfl, ⟨m80, Nat.lt_succ_self _, x73 || ((decide (x87.reg = x49)) && ((decide (x87.from_ = x65.1)) && ((decide (x87.to_ = x65.2.1)) && true))), w64 (x74 + 1), rfl, ((le78.trans le103).trans le107), ow118, backS h89 e82⟩, (allCons (L 16 rfl rfl) (allCons (L 17 rfl rfl) (allCons (L 18 rfl rfl) (allCons (L 19 rfl rfl) (allCons (L 20 rfl rfl) (allCons (L 21 rfl rfl) (allCons (L 22 rfl rfl) (allCons (L 2 rfl rfl) (allCons (L 24 rfl rfl) (allCons (L 25 rfl rfl) (allCons (L 0 rfl rfl) allNil)))))))))))⟩
          · intro kk
            refine bcase (b := x73) (fun g119 => ?_) (fun g119 => ?_)
            · skip
              refine U.x rfl rfl rfl rfl ((L 0 rfl rfl).trans (congrArg Value.bool g119)) (by decide) ?_
              refine U.x rfl rfl rfl rfl ((L 1 rfl rfl).trans (congrArg Value.bool g119)) (by decide) ?_
              refine U.x rfl rfl rfl rfl ((L 2 rfl rfl).trans (congrArg Value.bool g119)) (by decide) ?_
              refine U.x rfl rfl rfl rfl ((L 3 rfl rfl).trans (congrArg Value.bool g119)) (by decide) ?_
              refine U.x rfl rfl rfl rfl ((L 4 rfl rfl).trans (congrArg Value.bool g119)) (by decide) ?_
              refine U.x rfl rfl rfl rfl ((L 5 rfl rfl).trans (congrArg Value.bool g119)) (by decide) ?_
              refine U.p rfl rfl (.inl rfl) (S.pickT rfl ((L 6 rfl rfl).trans (congrArg Value.bool g119)) K) ?_
              exact kk [(47, .bool true), (46, .tuple #[]), (45, .tuple #[]), (44, .tuple #[]), (43, .tuple #[]), (42, .tuple #[]), (41, .tuple #[])] _ ⟨.tuple #[], .tuple #[], .tuple #[], .tuple #[], .tuple #[], .tuple #[], rfl, (by rw [g119, Bool.true_or])⟩
            · skip
              refine U.k rfl rfl (.inr ⟨_, _, _, rfl, rfl, ((L 0 rfl rfl).trans (congrArg Value.bool g119))⟩) (S.loadB rfl (L 2 rfl rfl) Try.underlying44 rfl ti44 (ow108.own (k := 0) rfl).get rfl) nd ?_
              refine U.p rfl rfl (.inr ⟨_, _, _, rfl, rfl, ((L 1 rfl rfl).trans (congrArg Value.bool g119))⟩) (S.move rfl (L 10 rfl rfl)) ?_
              refine U.p rfl rfl (.inr ⟨_, _, _, rfl, rfl, ((L 2 rfl rfl).trans (congrArg Value.bool g119))⟩) (S.move rfl (L 12 rfl rfl)) ?_
              refine U.p rfl rfl (.inr ⟨_, _, _, rfl, rfl, ((L 3 rfl rfl).trans (congrArg Value.bool g119))⟩) (S.move rfl (L 14 rfl rfl)) ?_
              refine U.p (v := .agg #[.int .i64 x49, .int .i64 x65.1, .int .i64 x65.2.1]) rfl rfl (.inr ⟨_, _, _, rfl, rfl, ((L 4 rfl rfl).trans (congrArg Value.bool g119))⟩) (S.build (vs := [.int .i64 x49, .int .i64 x65.1, .int .i64 x65.2.1]) rfl ti44 rfl pl44 (aC (L 2 rfl rfl) (aC (L 1 rfl rfl) (aC (L 0 rfl rfl) aN))) (allC (by simp [topV]) (allC (by simp [topV]) (allC (by simp [topV]) allN))) rfl) ?_
              refine U.p rfl rfl (.inr ⟨_, _, _, rfl, rfl, ((L 5 rfl rfl).trans (congrArg Value.bool g119))⟩) (S.eqlT (flA (flC (.int _ _) (flC (.int _ _) (flC (.int _ _) flN)))) (flA (flC (.int _ _) (flC (.int _ _) (flC (.int _ _) flN)))) rfl (L 4 rfl rfl) (L 0 rfl rfl) Try.underlying44 (by kernel_rfl) (by kernel_rfl) (.cons _ _ _ _ _ _ (by decide) (part_cell Try.underlying3 rfl rfl) (part_cell Try.underlying3 rfl rfl) (eqIn_int Try.underlying3 9998) (.cons _ _ _ _ _ _ (by decide) (part_cell Try.underlying3 rfl rfl) (part_cell Try.underlying3 rfl rfl) (eqIn_int Try.underlying3 9998) (.cons _ _ _ _ _ _ (by decide) (part_cell Try.underlying3 rfl rfl) (part_cell Try.underlying3 rfl rfl) (eqIn_int Try.underlying3 9998) .nil)))) ?_
              refine U.p rfl rfl (.inl rfl) (S.pickF rfl ((L 6 rfl rfl).trans (congrArg Value.bool g119)) (L 0 rfl rfl)) ?_
              exact kk [(47, .bool ((decide (x87.reg = x49)) && ((decide (x87.from_ = x65.1)) && ((decide (x87.to_ = x65.2.1)) && true)))), (46, .bool ((decide (x87.reg = x49)) && ((decide (x87.from_ = x65.1)) && ((decide (x87.to_ = x65.2.1)) && true)))), (45, .agg #[.int .i64 x49, .int .i64 x65.1, .int .i64 x65.2.1]), (44, .int .i64 x65.2.1), (43, .int .i64 x65.1), (42, .int .i64 x49), (41, .agg #[.int .i64 x87.reg, .int .i64 x87.from_, .int .i64 x87.to_])] _ ⟨.bool ((decide (x87.reg = x49)) && ((decide (x87.from_ = x65.1)) && ((decide (x87.to_ = x65.2.1)) && true))), .agg #[.int .i64 x49, .int .i64 x65.1, .int .i64 x65.2.1], .int .i64 x65.2.1, .int .i64 x65.1, .int .i64 x49, .agg #[.int .i64 x87.reg, .int .i64 x87.from_, .int .i64 x87.to_], rfl, (by rw [g119, Bool.false_or])⟩
        · have h120 := ifF c85 h84
          refine WP.exit ?_
          refine sqE (sqE (blkE (sqN ?_)))
          have h121 := exitS h120 e82
          refine WP.seq ?_
          refine WP.usreg rfl ?_
          refine U.p rfl rfl (.inl rfl) (S.move rfl (L 8 rfl rfl)) ?_
          refine U.p rfl rfl (.inl rfl) (S.move rfl (L 8 rfl rfl)) ?_
          refine U.p rfl rfl (.inl rfl) (S.neqB rfl (L 1 rfl rfl) (L 0 rfl rfl) Try.underlying4) ?_
          refine U.done (Nat.le_of_ble_eq_true rfl) ?_
          refine WP.cond _ (L 0 rfl rfl) rfl (fun c122 => ?_) (fun c122 => ?_)
          · have h123 := ifT c122 h121
            have k124 : (x73 == x65.2.2) = false := by simpa using c122
            refine WP.usreg rfl ?_
            refine U.p rfl rfl (.inl rfl) (S.assign rfl K) ?_
            refine U.done (Nat.le_of_ble_eq_true rfl) ?_
            refine WP.ret ?_
            refine sqR (blkR (sqR (sqR (blkR (sqR ?_)))))
            have h125 := exitS h123 e59
            refine fin.slot (.inr rfl) rfl (L 0 rfl rfl) ⟨V77, rfl, ((((((le5.trans le13).trans le29).trans le43).trans le55).trans le70).trans le78), ?_⟩
            have ow126 := ow79.drop 0 rfl
            have ow127 := ow126.drop 0 rfl
            have e128 := Option.some.inj h125
            subst e128
            exact ⟨rfl, ow127⟩
          · have h129 := ifF c122 h121
            have k130 : (x73 == x65.2.2) = true := by simpa using c122
            refine WP.skip ?_
            refine sqN ?_
            refine WP.seqI (fun l V' => ∃ (x131 : Int), l = [(1, .pointer (some ⟨b3, 0, none⟩)), (3, v41), (4, .int .i64 x131), (5, .int .i64 x49), (6, .int .i64 x65.1), (7, .int .i64 x65.2.1)] ∧ V77.le V' ∧ Ow V' (.pt b3 (.cells 0 [.string p0.name, .int .i64 p0.params, .int .i64 p0.regs, v1]) :: .os RT_Tflow_Span v41 x38 :: Rs) ∧ law10_FlowSpans_k1 p0 x49 x65 x131 = some q58) ?_ ?_
            · rintro _ V132 ⟨x131, rfl, le133, ow134, h135⟩
              unfold law10_FlowSpans_k1 at h135
              refine WP.usreg rfl ?_
              refine U.p (v := .pointer (some ⟨b3, 3, none⟩)) rfl rfl (.inl rfl) (S.fieldAddr rfl (L 0 rfl rfl) Try.underlying24 rfl ti22 rfl rfl) ?_
              refine U.k rfl rfl (.inl rfl) (S.load rfl (L 0 rfl rfl) Try.underlying22 rfl ((ow134.own (k := 0) rfl).cell rfl)) nd ?_
              refine U.p rfl rfl (.inl rfl) (f64.1.len rfl (L 0 rfl rfl) Try.underlying22) ?_
              refine U.p rfl rfl (.inl rfl) (S.move rfl K) ?_
              refine U.done (Nat.le_of_ble_eq_true rfl) ?_
              refine WP.blk ?_
              unfold law10_FlowSpans_l3 at h135
              obtain ⟨n138, hn137⟩ := loopO_some.1 h135
              refine WP.loopI2 (fun n l V' => ∃ (x136 : Int), l = [(1, .pointer (some ⟨b3, 0, none⟩)), (3, v41), (4, .int .i64 x131), (5, .int .i64 x49), (6, .int .i64 x65.1), (7, .int .i64 x65.2.1), (57, .int .i64 (p0.code.length : Int)), (58, .int .i64 x136)] ∧ V132.le V' ∧ Ow V' (.pt b3 (.cells 0 [.string p0.name, .int .i64 p0.params, .int .i64 p0.regs, v1]) :: .os RT_Tflow_Span v41 x38 :: Rs) ∧ itO (fun s => law10_FlowSpans_l3b p0 x49 x65 x131 s) n x136 = some q58) n138 _ ⟨0, rfl, .refl _, ow134, hn137⟩ (allCons (L 4 rfl rfl) (allCons (L 5 rfl rfl) (allCons (L 6 rfl rfl) (allCons (L 7 rfl rfl) (allCons (L 8 rfl rfl) (allCons (L 9 rfl rfl) (allCons (L 1 rfl rfl) (allCons (L 0 rfl rfl) allNil)))))))) ?_
              rintro _ _ V139 ⟨x136, rfl, le140, ow141, h145⟩
              obtain ⟨m142, q143, rfl, h146, e144⟩ := itS h145
              replace h146 : law10_FlowSpans_l3b p0 x49 x65 x131 x136 = some q143 := h146
              unfold law10_FlowSpans_l3b at h146
              refine WP.usreg rfl ?_
              refine U.p rfl rfl (.inl rfl) (S.lss rfl (L 7 rfl rfl) (L 6 rfl rfl)) ?_
              refine U.done (Nat.le_of_ble_eq_true rfl) ?_
              refine WP.seq ?_
              refine WP.cond _ (L 0 rfl rfl) rfl (fun c147 => ?_) (fun c147 => ?_)
              · have h148 := ifT c147 h146
                refine WP.skip ?_
                refine sqN ?_
                refine WP.seq ?_
                refine WP.blk ?_
                refine WP.usreg rfl ?_
                refine U.p rfl rfl (.inl rfl) (S.move rfl (L 8 rfl rfl)) ?_
                refine U.p rfl rfl (.inl rfl) (S.assign rfl (L 0 rfl rfl)) ?_
                refine U.done (Nat.le_of_ble_eq_true rfl) ?_
                refine WP.usreg rfl ?_
                refine U.k rfl rfl (.inl rfl) (S.loadB rfl (L 3 rfl rfl) Try.underlying24 rfl ti24 (ow141.own (k := 0) rfl).get rfl) nd ?_
                refine U.p rfl rfl (.inl rfl) (S.move rfl (L 7 rfl rfl)) ?_
                refine U.p rfl rfl (.inl rfl) (S.move rfl (L 2 rfl rfl)) ?_
                have f149 := f64.up (((le70.trans le78).trans le133).trans le140)
                obtain ⟨x150, hx151, h152⟩ := bindS h148
                refine O.call (V := V139) rfl rfl (.inl rfl) rfl en11 (aC (L 2 rfl rfl) (aC (L 1 rfl rfl) (aC (L 0 rfl rfl) aN))) (wk_ref10_Needed V139 _ p0 x49 x136 v1 f149 ow141 _ hx151) (fun _ _ _ _ => nd) (fun v153 V154 le155 hp156 => ?_)
                obtain ⟨rfl, ow157⟩ := hp156
                refine U.p rfl rfl (.inl rfl) (S.move rfl (L 0 rfl rfl)) ?_
                refine U.joinX 14 (fun e H => ∃ (u158 u159 u160 u161 u162 u163 u164 u165 : Value), H = V154.H ∧ e = [(74, .bool (x150 && ((decide (x136 < x65.1)) || (decide (x65.2.1 < x136))))), (73, u158), (72, u159), (71, u160), (70, u161), (69, u162), (68, u163), (67, u164), (66, u165)]) ?_ ?_
                · rintro _ _ ⟨u158, u159, u160, u161, u162, u163, u164, u165, rfl, rfl⟩
                  refine U.done (Nat.le_of_ble_eq_true rfl) ?_
                  refine WP.cond _ (L 0 rfl rfl) rfl (fun c169 => ?_) (fun c169 => ?_)
                  · have h170 := ifT c169 h152
                    refine WP.usreg rfl ?_
                    refine U.p rfl rfl (.inl rfl) (S.assign rfl K) ?_
                    refine U.done (Nat.le_of_ble_eq_true rfl) ?_
                    refine WP.ret ?_
                    refine blkR (sqR (sqR (blkR (blkR (sqR (sqR (blkR (sqR ?_))))))))
                    have h171 := exitS h170 e144
                    have h172 := exitS h171 e59
                    refine fin.slot (.inr rfl) rfl (L 0 rfl rfl) ⟨V154, rfl, (((((((((le5.trans le13).trans le29).trans le43).trans le55).trans le70).trans le78).trans le133).trans le140).trans le155), ?_⟩
                    have ow173 := ow157.drop 0 rfl
                    have ow174 := ow173.drop 0 rfl
                    have e175 := Option.some.inj h172
                    subst e175
                    exact ⟨rfl, ow174⟩
                  · have h176 := ifF c169 h152
                    refine WP.skip ?_
                    refine blkN (sqN ?_)
                    refine WP.ureg rfl ?_
                    refine U.p rfl rfl (.inl rfl) (S.add rfl (L 24 rfl rfl) K) ?_
                    refine U.p rfl rfl (.inl rfl) (S.move rfl (L 0 rfl rfl)) ?_
                    refine U.done (Nat.le_of_ble_eq_true rfl) ?_
                    refine sqN ?_
                    exact ⟨_, V154, rfl, ⟨m142, Nat.lt_succ_self _, w64 (x136 + 1), rfl, (le140.trans le155), ow157, backS h176 e144⟩, (allCons (L 19 rfl rfl) (allCons (L 20 rfl rfl) (allCons (L 21 rfl rfl) (allCons (L 22 rfl rfl) (allCons (L 23 rfl rfl) (allCons (L 24 rfl rfl) (allCons (L 25 rfl rfl) (allCons (L 0 rfl rfl) allNil))))))))⟩
                · intro kk
                  refine bcase (b := x150) (fun g177 => ?_) (fun g177 => ?_)
                  · skip
                    refine U.p rfl rfl (.inr ⟨_, _, _, rfl, rfl, ((L 0 rfl rfl).trans (congrArg Value.bool g177))⟩) (S.move rfl (L 5 rfl rfl)) ?_
                    refine U.p rfl rfl (.inr ⟨_, _, _, rfl, rfl, ((L 1 rfl rfl).trans (congrArg Value.bool g177))⟩) (S.move rfl (L 13 rfl rfl)) ?_
                    refine U.p rfl rfl (.inr ⟨_, _, _, rfl, rfl, ((L 2 rfl rfl).trans (congrArg Value.bool g177))⟩) (S.lss rfl (L 1 rfl rfl) (L 0 rfl rfl)) ?_
                    refine U.p rfl rfl (.inr ⟨_, _, _, rfl, rfl, ((L 3 rfl rfl).trans (congrArg Value.bool g177))⟩) (S.move rfl (L 0 rfl rfl)) ?_
                    refine U.joinX 13 (fun e H => ∃ (u178 u179 u180 : Value), H = V154.H ∧ e = [(73, .bool ((decide (x136 < x65.1)) || (decide (x65.2.1 < x136)))), (72, u178), (71, u179), (70, u180)]) ?_ ?_
                    · rintro _ _ ⟨u178, u179, u180, rfl, rfl⟩
                      refine U.p rfl rfl (.inl rfl) (S.pickT rfl ((L 8 rfl rfl).trans (congrArg Value.bool g177)) (L 0 rfl rfl)) ?_
                      exact kk [(74, .bool ((decide (x136 < x65.1)) || (decide (x65.2.1 < x136)))), (73, .bool ((decide (x136 < x65.1)) || (decide (x65.2.1 < x136)))), (72, u178), (71, u179), (70, u180), (69, .bool (decide (x136 < x65.1))), (68, .bool (decide (x136 < x65.1))), (67, .int .i64 x65.1), (66, .int .i64 x136)] _ ⟨.bool ((decide (x136 < x65.1)) || (decide (x65.2.1 < x136))), u178, u179, u180, .bool (decide (x136 < x65.1)), .bool (decide (x136 < x65.1)), .int .i64 x65.1, .int .i64 x136, rfl, (by rw [g177, Bool.true_and])⟩
                    · intro kk
                      refine bcase (b := decide (x136 < x65.1)) (fun g184 => ?_) (fun g184 => ?_)
                      · skip
                        refine U.x rfl rfl rfl rfl ((L 0 rfl rfl).trans (congrArg Value.bool g184)) (by decide) ?_
                        refine U.x rfl rfl rfl rfl ((L 1 rfl rfl).trans (congrArg Value.bool g184)) (by decide) ?_
                        refine U.x rfl rfl rfl rfl ((L 2 rfl rfl).trans (congrArg Value.bool g184)) (by decide) ?_
                        refine U.p rfl rfl (.inr ⟨_, _, _, rfl, rfl, ((L 7 rfl rfl).trans (congrArg Value.bool g177))⟩) (S.pickT rfl ((L 3 rfl rfl).trans (congrArg Value.bool g184)) K) ?_
                        exact kk [(73, .bool true), (72, .tuple #[]), (71, .tuple #[]), (70, .tuple #[])] _ ⟨.tuple #[], .tuple #[], .tuple #[], rfl, (by rw [g184, Bool.true_or])⟩
                      · skip
                        refine U.p rfl rfl (.inr ⟨_, _, _, rfl, rfl, ((L 0 rfl rfl).trans (congrArg Value.bool g184))⟩) (S.move rfl (L 9 rfl rfl)) ?_
                        refine U.p rfl rfl (.inr ⟨_, _, _, rfl, rfl, ((L 1 rfl rfl).trans (congrArg Value.bool g184))⟩) (S.move rfl (L 18 rfl rfl)) ?_
                        refine U.p rfl rfl (.inr ⟨_, _, _, rfl, rfl, ((L 2 rfl rfl).trans (congrArg Value.bool g184))⟩) (S.gtr rfl (L 1 rfl rfl) (L 0 rfl rfl)) ?_
                        refine U.p rfl rfl (.inr ⟨_, _, _, rfl, rfl, ((L 7 rfl rfl).trans (congrArg Value.bool g177))⟩) (S.pickF rfl ((L 3 rfl rfl).trans (congrArg Value.bool g184)) (L 0 rfl rfl)) ?_
                        exact kk [(73, .bool (decide (x65.2.1 < x136))), (72, .bool (decide (x65.2.1 < x136))), (71, .int .i64 x65.2.1), (70, .int .i64 x136)] _ ⟨.bool (decide (x65.2.1 < x136)), .int .i64 x65.2.1, .int .i64 x136, rfl, (by rw [g184, Bool.false_or])⟩
                  · skip
                    refine U.x rfl rfl rfl rfl ((L 0 rfl rfl).trans (congrArg Value.bool g177)) (by decide) ?_
                    refine U.x rfl rfl rfl rfl ((L 1 rfl rfl).trans (congrArg Value.bool g177)) (by decide) ?_
                    refine U.x rfl rfl rfl rfl ((L 2 rfl rfl).trans (congrArg Value.bool g177)) (by decide) ?_
                    refine U.x rfl rfl rfl rfl ((L 3 rfl rfl).trans (congrArg Value.bool g177)) (by decide) ?_
                    refine U.z rfl rfl rfl rfl (L 0 rfl rfl) ?_
                    refine U.z rfl rfl rfl rfl (L 1 rfl rfl) ?_
                    refine U.z rfl rfl rfl rfl (L 2 rfl rfl) ?_
                    refine U.x rfl rfl rfl rfl ((L 7 rfl rfl).trans (congrArg Value.bool g177)) (by decide) ?_
                    refine U.p rfl rfl (.inl rfl) (S.pickF rfl ((L 8 rfl rfl).trans (congrArg Value.bool g177)) K) ?_
                    exact kk [(74, .bool false), (73, .tuple #[]), (72, .tuple #[]), (71, .tuple #[]), (70, .tuple #[]), (69, .tuple #[]), (68, .tuple #[]), (67, .tuple #[]), (66, .tuple #[])] _ ⟨.tuple #[], .tuple #[], .tuple #[], .tuple #[], .tuple #[], .tuple #[], .tuple #[], .tuple #[], rfl, (by rw [g177, Bool.false_and])⟩
              · have h185 := ifF c147 h146
                refine WP.exit ?_
                refine sqE (sqE (blkE (blkN (sqN ?_))))
                have h186 := exitS h185 e144
                refine WP.ureg rfl ?_
                refine U.p rfl rfl (.inl rfl) (S.move rfl (L 4 rfl rfl)) ?_
                refine U.p rfl rfl (.inl rfl) (S.add rfl (L 0 rfl rfl) K) ?_
                refine U.p rfl rfl (.inl rfl) (S.assign rfl (L 0 rfl rfl)) ?_
                refine U.done (Nat.le_of_ble_eq_true rfl) ?_
                refine sqN ?_
                exact ⟨_, V139, rfl, ⟨m57, Nat.lt_succ_self _, x131, w64 (x49 + 1), rfl, ((((le55.trans le70).trans le78).trans le133).trans le140), ow141, backS h186 e59⟩, (allCons (L 4 rfl rfl) (allCons (L 5 rfl rfl) (allCons (L 6 rfl rfl) (allCons (L 0 rfl rfl) allNil))))⟩
            · skip
              refine WP.usreg rfl ?_
              refine U.p rfl rfl (.inl rfl) (S.move rfl (L 10 rfl rfl)) ?_
              refine U.done (Nat.le_of_ble_eq_true rfl) ?_
              refine WP.cond _ (L 0 rfl rfl) rfl (fun c187 => ?_) (fun c187 => ?_)
              · have h188 := ifT c187 h129
                refine WP.ureg rfl ?_
                refine U.p rfl rfl (.inl rfl) (S.move rfl (L 7 rfl rfl)) ?_
                refine U.p rfl rfl (.inl rfl) (S.add rfl (L 0 rfl rfl) K) ?_
                refine U.p rfl rfl (.inl rfl) (S.assign rfl (L 0 rfl rfl)) ?_
                refine U.done (Nat.le_of_ble_eq_true rfl) ?_
                refine sqN ?_
                exact ⟨_, V77, rfl, ⟨w64 (x48 + 1), rfl, (.refl _), ow79, h188⟩, (allCons (L 8 rfl rfl) (allCons (L 9 rfl rfl) (allCons (L 0 rfl rfl) (allCons (L 11 rfl rfl) (allCons (L 12 rfl rfl) (allCons (L 13 rfl rfl) allNil))))))⟩
              · have h189 := ifF c187 h129
                refine WP.skip ?_
                refine sqN ?_
                exact ⟨_, V77, rfl, ⟨x48, rfl, (.refl _), ow79, h189⟩, (allCons (L 5 rfl rfl) (allCons (L 6 rfl rfl) (allCons (L 7 rfl rfl) (allCons (L 8 rfl rfl) (allCons (L 9 rfl rfl) (allCons (L 10 rfl rfl) allNil))))))⟩
      · have h190 := ifF c62 h61
        refine WP.exit ?_
        refine sqE (sqE (blkE (sqN ?_)))
        have h191 := exitS h190 e59
        refine WP.seq ?_
        refine WP.usreg rfl ?_
        refine U.p rfl rfl (.inl rfl) (S.assign rfl K) ?_
        refine U.done (Nat.le_of_ble_eq_true rfl) ?_
        refine WP.blk ?_
        have ow193 := ow56.drop 0 rfl
        unfold law10_FlowSpans_l4 at h191
        obtain ⟨n195, hn194⟩ := loopO_some.1 h191
        refine WP.loopI2 (fun n l V' => ∃ (x192 : Int), l = [(3, v41), (4, .int .i64 x48), (13, .int .i64 x192)] ∧ V54.le V' ∧ Ow V' (.os RT_Tflow_Span v41 x38 :: Rs) ∧ itO (fun s => law10_FlowSpans_l4b x38 x48 s) n x192 = some r) n195 _ ⟨1, rfl, .refl _, ow193, hn194⟩ (allCons (L 6 rfl rfl) (allCons (L 7 rfl rfl) (allCons (L 0 rfl rfl) allNil))) ?_
        rintro _ _ V196 ⟨x192, rfl, le197, ow198, h202⟩
        obtain ⟨m199, q200, rfl, h203, e201⟩ := itS h202
        replace h203 : law10_FlowSpans_l4b x38 x48 x192 = some q200 := h203
        unfold law10_FlowSpans_l4b at h203
        refine WP.seq ?_
        refine WP.usreg rfl ?_
        refine U.p rfl rfl (.inl rfl) (S.move rfl (L 2 rfl rfl)) ?_
        refine U.p rfl rfl (.inl rfl) (S.move rfl (L 1 rfl rfl)) ?_
        refine U.p rfl rfl (.inl rfl) (ow198.oslen (k := 0) rfl rfl (L 0 rfl rfl) Try.underlying39) ?_
        refine U.p rfl rfl (.inl rfl) (S.lss rfl (L 2 rfl rfl) (L 0 rfl rfl)) ?_
        refine U.done (Nat.le_of_ble_eq_true rfl) ?_
        refine WP.cond _ (L 0 rfl rfl) rfl (fun c204 => ?_) (fun c204 => ?_)
        · have h205 := ifT c204 h203
          refine WP.skip ?_
          refine sqN ?_
          refine WP.seq ?_
          refine WP.blk ?_
          refine WP.seqI (fun l V' => ∃ (x206 : Bool), l = [(3, v41), (4, .int .i64 x48), (13, .int .i64 x192), (121, .bool x206)] ∧ V196.le V' ∧ Ow V' (.os RT_Tflow_Span v41 x38 :: Rs) ∧ law10_FlowSpans_k2 x192 x206 = some q200) ?_ ?_
          · rintro _ V207 ⟨x206, rfl, le208, ow209, h210⟩
            unfold law10_FlowSpans_k2 at h210
            refine WP.cond _ (L 3 rfl rfl) rfl (fun c211 => ?_) (fun c211 => ?_)
            · have h212 := ifT c211 h210
              refine WP.usreg rfl ?_
              refine U.p rfl rfl (.inl rfl) (S.assign rfl K) ?_
              refine U.done (Nat.le_of_ble_eq_true rfl) ?_
              refine WP.ret ?_
              refine blkR (sqR (sqR (blkR (sqR ?_))))
              have h213 := exitS h212 e201
              refine fin.slot (.inr rfl) rfl (L 0 rfl rfl) ⟨V207, rfl, ((((((le5.trans le13).trans le29).trans le43).trans le55).trans le197).trans le208), ?_⟩
              have ow214 := ow209.drop 0 rfl
              have e215 := Option.some.inj h213
              subst e215
              exact ⟨rfl, ow214⟩
            · have h216 := ifF c211 h210
              refine WP.skip ?_
              refine blkN (sqN ?_)
              refine WP.ureg rfl ?_
              refine U.p rfl rfl (.inl rfl) (S.move rfl (L 2 rfl rfl)) ?_
              refine U.p rfl rfl (.inl rfl) (S.add rfl (L 0 rfl rfl) K) ?_
              refine U.p rfl rfl (.inl rfl) (S.assign rfl (L 0 rfl rfl)) ?_
              refine U.done (Nat.le_of_ble_eq_true rfl) ?_
              refine sqN ?_
              exact ⟨_, V207, rfl, ⟨m199, Nat.lt_succ_self _, w64 (x192 + 1), rfl, (le197.trans le208), ow209, backS h216 e201⟩, (allCons (L 3 rfl rfl) (allCons (L 4 rfl rfl) (allCons (L 0 rfl rfl) allNil)))⟩
          · skip
            refine WP.udreg rfl rfl rfl ?_
            refine U.p rfl rfl (.inl rfl) (S.move rfl (L 4 rfl rfl)) ?_
            refine U.p rfl rfl (.inl rfl) (S.move rfl (L 7 rfl rfl)) ?_
            refine U.p rfl rfl (.inl rfl) (S.sub rfl (L 0 rfl rfl) K) ?_
            obtain ⟨x217, hx218, h219⟩ := bindS h205
            obtain ⟨b220, o221, n222, c223, hv224⟩ := ow198.ospt (k := 0) rfl hx218
            obtain ⟨_, hv225, _⟩ := ow198.osel (k := 0) rfl hv224 hx218
            refine U.p rfl rfl (.inl rfl) (S.index rfl ((L 2 rfl rfl).trans hv225) (L 0 rfl rfl) Try.underlying39 ti44 (ix_ge hx218) (ix_lt hx218)) ?_
            refine U.p (v := .pointer (some ⟨b220, o221 + Int.toNat (w64 (x192 - 1)) * 3 + 1, none⟩)) rfl rfl (.inl rfl) (S.fieldAddr rfl (L 0 rfl rfl) Try.underlying44 rfl ti3 rfl rfl) ?_
            obtain ⟨cs226, hv227, hlt228, hr229, hc230⟩ := ow198.osel (k := 0) rfl hv224 hx218
            obtain rfl : cs226 = [.int .i64 x217.reg, .int .i64 x217.from_, .int .i64 x217.to_] := hr229
            refine U.k rfl rfl (.inl rfl) (S.load rfl (L 0 rfl rfl) Try.underlying3 rfl (hc230 1 _ rfl)) (fun _ => (okH.nil (fun r h => by cases h; exact hlt228))) ?_
            refine U.p rfl rfl (.inl rfl) (S.move rfl (L 10 rfl rfl)) ?_
            refine U.p rfl rfl (.inl rfl) (S.move rfl (L 13 rfl rfl)) ?_
            obtain ⟨x231, hx232, h233⟩ := bindS h219
            obtain ⟨_, hv234, _⟩ := ow198.osel (k := 0) rfl hv224 hx232
            refine U.p rfl rfl (.inl rfl) (S.index rfl ((L 1 rfl rfl).trans hv234) (L 0 rfl rfl) Try.underlying39 ti44 (ix_ge hx232) (ix_lt hx232)) ?_
            refine U.p (v := .pointer (some ⟨b220, o221 + Int.toNat x192 * 3 + 1, none⟩)) rfl rfl (.inl rfl) (S.fieldAddr rfl (L 0 rfl rfl) Try.underlying44 rfl ti3 rfl rfl) ?_
            obtain ⟨cs235, hv236, hlt237, hr238, hc239⟩ := ow198.osel (k := 0) rfl hv224 hx232
            obtain rfl : cs235 = [.int .i64 x231.reg, .int .i64 x231.from_, .int .i64 x231.to_] := hr238
            refine U.k rfl rfl (.inl rfl) (S.load rfl (L 0 rfl rfl) Try.underlying3 rfl (hc239 1 _ rfl)) (fun _ => (okH.cons trivial (okH.nil (fun r h => by cases h; exact hlt237)))) ?_
            refine U.p rfl rfl (.inl rfl) (S.gtr rfl (L 5 rfl rfl) (L 0 rfl rfl)) ?_
            refine U.p rfl rfl (.inl rfl) (S.move rfl (L 0 rfl rfl)) ?_
            refine bcase (b := decide (x231.from_ < x217.from_)) (fun g240 => ?_) (fun g240 => ?_)
            · have h241 := ifT g240 h233
              refine U.x rfl rfl rfl rfl ((L 0 rfl rfl).trans (congrArg Value.bool g240)) (by decide) ?_
              refine U.x rfl rfl rfl rfl ((L 1 rfl rfl).trans (congrArg Value.bool g240)) (by decide) ?_
              refine U.x rfl rfl rfl rfl ((L 2 rfl rfl).trans (congrArg Value.bool g240)) (by decide) ?_
              refine U.x rfl rfl rfl rfl ((L 3 rfl rfl).trans (congrArg Value.bool g240)) (by decide) ?_
              refine U.x rfl rfl rfl rfl ((L 4 rfl rfl).trans (congrArg Value.bool g240)) (by decide) ?_
              refine U.x rfl rfl rfl rfl ((L 5 rfl rfl).trans (congrArg Value.bool g240)) (by decide) ?_
              refine U.x rfl rfl rfl rfl ((L 6 rfl rfl).trans (congrArg Value.bool g240)) (by decide) ?_
              refine U.x rfl rfl rfl rfl ((L 7 rfl rfl).trans (congrArg Value.bool g240)) (by decide) ?_
              refine U.x rfl rfl rfl rfl ((L 8 rfl rfl).trans (congrArg Value.bool g240)) (by decide) ?_
              refine U.x rfl rfl rfl rfl ((L 9 rfl rfl).trans (congrArg Value.bool g240)) (by decide) ?_
              refine U.x rfl rfl rfl rfl ((L 10 rfl rfl).trans (congrArg Value.bool g240)) (by decide) ?_
              refine U.x rfl rfl rfl rfl ((L 11 rfl rfl).trans (congrArg Value.bool g240)) (by decide) ?_
              refine U.x rfl rfl rfl rfl ((L 12 rfl rfl).trans (congrArg Value.bool g240)) (by decide) ?_
              refine U.z rfl rfl rfl rfl (L 0 rfl rfl) ?_
              refine U.z rfl rfl rfl rfl (L 1 rfl rfl) ?_
              refine U.z rfl rfl rfl rfl (L 2 rfl rfl) ?_
              refine U.z rfl rfl rfl rfl (L 3 rfl rfl) ?_
              refine U.z rfl rfl rfl rfl (L 4 rfl rfl) ?_
              refine U.z rfl rfl rfl rfl (L 5 rfl rfl) ?_
              refine U.z rfl rfl rfl rfl (L 6 rfl rfl) ?_
              refine U.z rfl rfl rfl rfl (L 7 rfl rfl) ?_
              refine U.z rfl rfl rfl rfl (L 8 rfl rfl) ?_
              refine U.z rfl rfl rfl rfl (L 9 rfl rfl) ?_
              refine U.z rfl rfl rfl rfl (L 10 rfl rfl) ?_
              refine U.z rfl rfl rfl rfl (L 11 rfl rfl) ?_
              refine U.x rfl rfl rfl rfl ((L 25 rfl rfl).trans (congrArg Value.bool g240)) (by decide) ?_
              refine U.p rfl rfl (.inl rfl) (S.pickT rfl ((L 26 rfl rfl).trans (congrArg Value.bool g240)) K) ?_
              refine U.done (Nat.le_of_ble_eq_true rfl) ?_
              refine sqN ?_
              exact ⟨_, V196, rfl, ⟨true, rfl, (.refl _), ow198, h241⟩, (allCons (L 44 rfl rfl) (allCons (L 45 rfl rfl) (allCons (L 46 rfl rfl) (allCons (L 0 rfl rfl) allNil))))⟩
            · have h242 := ifF g240 h233
              refine U.p rfl rfl (.inr ⟨_, _, _, rfl, rfl, ((L 0 rfl rfl).trans (congrArg Value.bool g240))⟩) (S.move rfl (L 17 rfl rfl)) ?_
              refine U.p rfl rfl (.inr ⟨_, _, _, rfl, rfl, ((L 1 rfl rfl).trans (congrArg Value.bool g240))⟩) (S.move rfl (L 20 rfl rfl)) ?_
              refine U.p rfl rfl (.inr ⟨_, _, _, rfl, rfl, ((L 2 rfl rfl).trans (congrArg Value.bool g240))⟩) (S.sub rfl (L 0 rfl rfl) K) ?_
              obtain ⟨x243, hx244, h245⟩ := bindS h242
              obtain ⟨_, hv246, _⟩ := ow198.osel (k := 0) rfl hv224 hx244
              refine U.p rfl rfl (.inr ⟨_, _, _, rfl, rfl, ((L 3 rfl rfl).trans (congrArg Value.bool g240))⟩) (S.index rfl ((L 2 rfl rfl).trans hv246) (L 0 rfl rfl) Try.underlying39 ti44 (ix_ge hx244) (ix_lt hx244)) ?_
              refine U.p (v := .pointer (some ⟨b220, o221 + Int.toNat (w64 (x192 - 1)) * 3 + 1, none⟩)) rfl rfl (.inr ⟨_, _, _, rfl, rfl, ((L 4 rfl rfl).trans (congrArg Value.bool g240))⟩) (S.fieldAddr rfl (L 0 rfl rfl) Try.underlying44 rfl ti3 rfl rfl) ?_
              obtain ⟨cs247, hv248, hlt249, hr250, hc251⟩ := ow198.osel (k := 0) rfl hv224 hx244
              obtain rfl : cs247 = [.int .i64 x243.reg, .int .i64 x243.from_, .int .i64 x243.to_] := hr250
              refine U.k rfl rfl (.inr ⟨_, _, _, rfl, rfl, ((L 5 rfl rfl).trans (congrArg Value.bool g240))⟩) (S.load rfl (L 0 rfl rfl) Try.underlying3 rfl (hc251 1 _ rfl)) (fun _ => (okH.cons trivial (okH.cons trivial (okH.nil (fun r h => by cases h; exact hlt249))))) ?_
              refine U.p rfl rfl (.inr ⟨_, _, _, rfl, rfl, ((L 6 rfl rfl).trans (congrArg Value.bool g240))⟩) (S.move rfl (L 23 rfl rfl)) ?_
              refine U.p rfl rfl (.inr ⟨_, _, _, rfl, rfl, ((L 7 rfl rfl).trans (congrArg Value.bool g240))⟩) (S.move rfl (L 26 rfl rfl)) ?_
              obtain ⟨x252, hx253, h254⟩ := bindS h245
              obtain ⟨_, hv255, _⟩ := ow198.osel (k := 0) rfl hv224 hx253
              refine U.p rfl rfl (.inr ⟨_, _, _, rfl, rfl, ((L 8 rfl rfl).trans (congrArg Value.bool g240))⟩) (S.index rfl ((L 1 rfl rfl).trans hv255) (L 0 rfl rfl) Try.underlying39 ti44 (ix_ge hx253) (ix_lt hx253)) ?_
              refine U.p (v := .pointer (some ⟨b220, o221 + Int.toNat x192 * 3 + 1, none⟩)) rfl rfl (.inr ⟨_, _, _, rfl, rfl, ((L 9 rfl rfl).trans (congrArg Value.bool g240))⟩) (S.fieldAddr rfl (L 0 rfl rfl) Try.underlying44 rfl ti3 rfl rfl) ?_
              obtain ⟨cs256, hv257, hlt258, hr259, hc260⟩ := ow198.osel (k := 0) rfl hv224 hx253
              obtain rfl : cs256 = [.int .i64 x252.reg, .int .i64 x252.from_, .int .i64 x252.to_] := hr259
              refine U.k rfl rfl (.inr ⟨_, _, _, rfl, rfl, ((L 10 rfl rfl).trans (congrArg Value.bool g240))⟩) (S.load rfl (L 0 rfl rfl) Try.underlying3 rfl (hc260 1 _ rfl)) (fun _ => (okH.cons trivial (okH.cons trivial (okH.cons trivial (okH.nil (fun r h => by cases h; exact hlt258)))))) ?_
              refine U.p rfl rfl (.inr ⟨_, _, _, rfl, rfl, ((L 11 rfl rfl).trans (congrArg Value.bool g240))⟩) (S.eqlI rfl (L 5 rfl rfl) (L 0 rfl rfl)) ?_
              refine U.p rfl rfl (.inr ⟨_, _, _, rfl, rfl, ((L 12 rfl rfl).trans (congrArg Value.bool g240))⟩) (S.move rfl (L 0 rfl rfl)) ?_
              refine bcase (b := decide (x243.from_ = x252.from_)) (fun g261 => ?_) (fun g261 => ?_)
              · have h262 := ifT g261 h254
                refine U.p rfl rfl (.inr ⟨_, _, _, rfl, rfl, ((L 0 rfl rfl).trans (congrArg Value.bool g261))⟩) (S.move rfl (L 30 rfl rfl)) ?_
                refine U.p rfl rfl (.inr ⟨_, _, _, rfl, rfl, ((L 1 rfl rfl).trans (congrArg Value.bool g261))⟩) (S.move rfl (L 33 rfl rfl)) ?_
                refine U.p rfl rfl (.inr ⟨_, _, _, rfl, rfl, ((L 2 rfl rfl).trans (congrArg Value.bool g261))⟩) (S.sub rfl (L 0 rfl rfl) K) ?_
                obtain ⟨x263, hx264, h265⟩ := bindS h262
                obtain ⟨_, hv266, _⟩ := ow198.osel (k := 0) rfl hv224 hx264
                refine U.p rfl rfl (.inr ⟨_, _, _, rfl, rfl, ((L 3 rfl rfl).trans (congrArg Value.bool g261))⟩) (S.index rfl ((L 2 rfl rfl).trans hv266) (L 0 rfl rfl) Try.underlying39 ti44 (ix_ge hx264) (ix_lt hx264)) ?_
                refine U.p (v := .pointer (some ⟨b220, o221 + Int.toNat (w64 (x192 - 1)) * 3, none⟩)) rfl rfl (.inr ⟨_, _, _, rfl, rfl, ((L 4 rfl rfl).trans (congrArg Value.bool g261))⟩) (S.fieldAddr rfl (L 0 rfl rfl) Try.underlying44 rfl ti3 rfl rfl) ?_
                obtain ⟨cs267, hv268, hlt269, hr270, hc271⟩ := ow198.osel (k := 0) rfl hv224 hx264
                obtain rfl : cs267 = [.int .i64 x263.reg, .int .i64 x263.from_, .int .i64 x263.to_] := hr270
                refine U.k rfl rfl (.inr ⟨_, _, _, rfl, rfl, ((L 5 rfl rfl).trans (congrArg Value.bool g261))⟩) (S.load rfl (L 0 rfl rfl) Try.underlying3 rfl (hc271 0 _ rfl)) (fun _ => (okH.cons trivial (okH.cons trivial (okH.cons trivial (okH.cons trivial (okH.nil (fun r h => by cases h; exact hlt269))))))) ?_
                refine U.p rfl rfl (.inr ⟨_, _, _, rfl, rfl, ((L 6 rfl rfl).trans (congrArg Value.bool g261))⟩) (S.move rfl (L 36 rfl rfl)) ?_
                refine U.p rfl rfl (.inr ⟨_, _, _, rfl, rfl, ((L 7 rfl rfl).trans (congrArg Value.bool g261))⟩) (S.move rfl (L 39 rfl rfl)) ?_
                obtain ⟨x272, hx273, h274⟩ := bindS h265
                obtain ⟨_, hv275, _⟩ := ow198.osel (k := 0) rfl hv224 hx273
                refine U.p rfl rfl (.inr ⟨_, _, _, rfl, rfl, ((L 8 rfl rfl).trans (congrArg Value.bool g261))⟩) (S.index rfl ((L 1 rfl rfl).trans hv275) (L 0 rfl rfl) Try.underlying39 ti44 (ix_ge hx273) (ix_lt hx273)) ?_
                refine U.p (v := .pointer (some ⟨b220, o221 + Int.toNat x192 * 3, none⟩)) rfl rfl (.inr ⟨_, _, _, rfl, rfl, ((L 9 rfl rfl).trans (congrArg Value.bool g261))⟩) (S.fieldAddr rfl (L 0 rfl rfl) Try.underlying44 rfl ti3 rfl rfl) ?_
                obtain ⟨cs276, hv277, hlt278, hr279, hc280⟩ := ow198.osel (k := 0) rfl hv224 hx273
                obtain rfl : cs276 = [.int .i64 x272.reg, .int .i64 x272.from_, .int .i64 x272.to_] := hr279
                refine U.k rfl rfl (.inr ⟨_, _, _, rfl, rfl, ((L 10 rfl rfl).trans (congrArg Value.bool g261))⟩) (S.load rfl (L 0 rfl rfl) Try.underlying3 rfl (hc280 0 _ rfl)) (fun _ => (okH.cons trivial (okH.cons trivial (okH.cons trivial (okH.cons trivial (okH.cons trivial (okH.nil (fun r h => by cases h; exact hlt278)))))))) ?_
                refine U.p rfl rfl (.inr ⟨_, _, _, rfl, rfl, ((L 11 rfl rfl).trans (congrArg Value.bool g261))⟩) (S.geq rfl (L 5 rfl rfl) (L 0 rfl rfl)) ?_
                refine U.p rfl rfl (.inr ⟨_, _, _, rfl, rfl, ((L 25 rfl rfl).trans (congrArg Value.bool g240))⟩) (S.pickT rfl ((L 12 rfl rfl).trans (congrArg Value.bool g261)) (L 0 rfl rfl)) ?_
                refine U.p rfl rfl (.inl rfl) (S.pickF rfl ((L 26 rfl rfl).trans (congrArg Value.bool g240)) (L 0 rfl rfl)) ?_
                refine U.done (Nat.le_of_ble_eq_true rfl) ?_
                refine sqN ?_
                exact ⟨_, V196, rfl, ⟨decide (x272.reg ≤ x263.reg), rfl, (.refl _), ow198, h274⟩, (allCons (L 44 rfl rfl) (allCons (L 45 rfl rfl) (allCons (L 46 rfl rfl) (allCons (L 0 rfl rfl) allNil))))⟩
              · have h281 := ifF g261 h254
                refine U.x rfl rfl rfl rfl ((L 0 rfl rfl).trans (congrArg Value.bool g261)) (by decide) ?_
                refine U.x rfl rfl rfl rfl ((L 1 rfl rfl).trans (congrArg Value.bool g261)) (by decide) ?_
                refine U.x rfl rfl rfl rfl ((L 2 rfl rfl).trans (congrArg Value.bool g261)) (by decide) ?_
                refine U.x rfl rfl rfl rfl ((L 3 rfl rfl).trans (congrArg Value.bool g261)) (by decide) ?_
                refine U.x rfl rfl rfl rfl ((L 4 rfl rfl).trans (congrArg Value.bool g261)) (by decide) ?_
                refine U.x rfl rfl rfl rfl ((L 5 rfl rfl).trans (congrArg Value.bool g261)) (by decide) ?_
                refine U.x rfl rfl rfl rfl ((L 6 rfl rfl).trans (congrArg Value.bool g261)) (by decide) ?_
                refine U.x rfl rfl rfl rfl ((L 7 rfl rfl).trans (congrArg Value.bool g261)) (by decide) ?_
                refine U.x rfl rfl rfl rfl ((L 8 rfl rfl).trans (congrArg Value.bool g261)) (by decide) ?_
                refine U.x rfl rfl rfl rfl ((L 9 rfl rfl).trans (congrArg Value.bool g261)) (by decide) ?_
                refine U.x rfl rfl rfl rfl ((L 10 rfl rfl).trans (congrArg Value.bool g261)) (by decide) ?_
                refine U.x rfl rfl rfl rfl ((L 11 rfl rfl).trans (congrArg Value.bool g261)) (by decide) ?_
                refine U.p rfl rfl (.inr ⟨_, _, _, rfl, rfl, ((L 25 rfl rfl).trans (congrArg Value.bool g240))⟩) (S.pickF rfl ((L 12 rfl rfl).trans (congrArg Value.bool g261)) K) ?_
                refine U.p rfl rfl (.inl rfl) (S.pickF rfl ((L 26 rfl rfl).trans (congrArg Value.bool g240)) (L 0 rfl rfl)) ?_
                refine U.done (Nat.le_of_ble_eq_true rfl) ?_
                refine sqN ?_
                exact ⟨_, V196, rfl, ⟨false, rfl, (.refl _), ow198, h281⟩, (allCons (L 44 rfl rfl) (allCons (L 45 rfl rfl) (allCons (L 46 rfl rfl) (allCons (L 0 rfl rfl) allNil))))⟩
        · have h282 := ifF c204 h203
          refine WP.exit ?_
          refine sqE (sqE (blkE (sqN ?_)))
          have h283 := exitS h282 e201
          refine WP.usreg rfl ?_
          refine U.p rfl rfl (.inl rfl) (S.move rfl (L 5 rfl rfl)) ?_
          refine U.p rfl rfl (.inl rfl) (S.move rfl (L 5 rfl rfl)) ?_
          refine U.p rfl rfl (.inl rfl) (ow198.oslen (k := 0) rfl rfl (L 0 rfl rfl) Try.underlying39) ?_
          refine U.p rfl rfl (.inl rfl) (S.eqlI rfl (L 2 rfl rfl) (L 0 rfl rfl)) ?_
          refine U.p rfl rfl (.inl rfl) (S.assign rfl (L 0 rfl rfl)) ?_
          refine U.done (Nat.le_of_ble_eq_true rfl) ?_
          refine WP.ret ?_
          refine fin.slot (.inr rfl) rfl (L 0 rfl rfl) ⟨V196, rfl, (((((le5.trans le13).trans le29).trans le43).trans le55).trans le197), ?_⟩
          have ow284 := ow198.drop 0 rfl
          have e285 := Option.some.inj h283
          subst e285
          exact ⟨rfl, ow284⟩

end Go.Vm.G10s
