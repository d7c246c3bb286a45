/-
  What the functions compute is what the plain ones say, for all inputs at which those answer.
-/
import Derived.Test.YtdgkhadbanbmhaaEWG12b
set_option linter.unusedSimpArgs false
set_option linter.unusedVariables false
namespace Go.Vm.G12
open Go Go.Proofs

set_option maxHeartbeats 4000000 in
theorem wk_law12_FenceMerges (V : Vw) (Rs : List At) (p0 : TModule) (p1 : Tfence_Options) (v1 : Value) (v3 : Value) (f2 : Fz RT_TFunc V v1 p0.funcs) (f4 : Fz (RT.int .i64) V v3 p0.threads) (ow : Ow V (Rs)) (r : Bool) (h : law12_FenceMerges p0 p1 = some r) : ∃ v V', Cl Try.prog 0 5 #[.agg #[v1, v3], .agg #[.bool p1.naive, .bool p1.bare, .bool p1.merged]] V.H v V'.H ∧ V.le V' ∧ (v = .bool r ∧ Ow V' (Rs)) := by
  refine Ct.of (Nat.zero_le _) Try.func5 rfl (Nat.le_of_ble_eq_true rfl) ?_
  unfold law12_FenceMerges at h
  refine WP.usreg rfl ?_
  refine O.box ow rfl rfl (.inl rfl) rfl (L 0 rfl rfl) (by simp [topV]) rfl nd (fun b5 V6 le7 ow8 => ?_)
  refine O.box ow8 rfl rfl (.inl rfl) rfl (L 2 rfl rfl) (by simp [topV]) rfl nd (fun b10 V11 le12 ow13 => ?_)
  refine U.p rfl rfl (.inl rfl) (S.assign rfl K) ?_
  refine U.done (Nat.le_of_ble_eq_true rfl) ?_
  refine WP.seq ?_
  refine WP.usreg rfl ?_
  obtain ⟨x15, hx16, h17⟩ := bindS h
  refine O.call (V := V11) rfl rfl (.inl rfl) rfl en6 aN (wk_law12_alive V11 _ ow13 _ hx16) (fun _ _ _ _ => nd) (fun v18 V19 le20 hp21 => ?_)
  obtain ⟨rfl, ow22⟩ := hp21
  refine U.p rfl rfl (.inl rfl) (S.not rfl (L 0 rfl rfl)) ?_
  refine U.done (Nat.le_of_ble_eq_true rfl) ?_
  refine WP.cond _ (L 0 rfl rfl) rfl (fun c23 => ?_) (fun c23 => ?_)
  · have h24 := ifT c23 h17
    have k25 : x15 = false := by simpa using c23
    refine WP.usreg rfl ?_
    refine U.p rfl rfl (.inl rfl) (S.assign rfl K) ?_
    refine U.done (Nat.le_of_ble_eq_true rfl) ?_
    refine WP.ret ?_
    refine sqR ?_
    refine fin.slot (.inr rfl) rfl (L 0 rfl rfl) ⟨V19, rfl, ((le7.trans le12).trans le20), ?_⟩
    have ow26 := ow22.drop 0 rfl
    have ow27 := ow26.drop 0 rfl
    have e28 := Option.some.inj h24
    subst e28
    exact ⟨rfl, ow27⟩
  · have h29 := ifF c23 h17
    have k30 : x15 = true := by simpa using c23
    refine WP.skip ?_
    refine sqN ?_
    refine WP.seq ?_
    refine WP.usreg rfl ?_
    refine U.k rfl rfl (.inl rfl) (S.loadB rfl (L 4 rfl rfl) Try.underlying25 rfl ti25 (ow22.own (k := 1) rfl).get rfl) nd ?_
    have f31 := f2.up ((le7.trans le12).trans le20)
    have f32 := f4.up ((le7.trans le12).trans le20)
    obtain ⟨x33, hx34, h35⟩ := bindS h29
    refine O.call (V := V19) rfl rfl (.inl rfl) rfl en7 (aC (L 0 rfl rfl) aN) (wk_law12_great V19 _ p0 v1 v3 f31 f32 ow22 _ hx34) (fun _ _ _ _ => nd) (fun v36 V37 le38 hp39 => ?_)
    obtain ⟨rfl, ow40⟩ := hp39
    refine U.done (Nat.le_of_ble_eq_true rfl) ?_
    refine WP.cond _ (L 0 rfl rfl) rfl (fun c41 => ?_) (fun c41 => ?_)
    · have h42 := ifT c41 h35
      refine WP.usreg rfl ?_
      refine U.p rfl rfl (.inl rfl) (S.assign rfl K) ?_
      refine U.done (Nat.le_of_ble_eq_true rfl) ?_
      refine WP.ret ?_
      refine sqR ?_
      refine fin.slot (.inr rfl) rfl (L 0 rfl rfl) ⟨V37, rfl, (((le7.trans le12).trans le20).trans le38), ?_⟩
      have ow43 := ow40.drop 0 rfl
      have ow44 := ow43.drop 0 rfl
      have e45 := Option.some.inj h42
      subst e45
      exact ⟨rfl, ow44⟩
    · have h46 := ifF c41 h35
      refine WP.skip ?_
      refine sqN ?_
      refine WP.usreg rfl ?_
      refine U.p (v := .pointer (some ⟨b10, 2, none⟩)) rfl rfl (.inl rfl) (S.fieldAddr rfl (L 5 rfl rfl) Try.underlying27 rfl ti4 rfl rfl) ?_
      refine O.store (k := 0) (cs := [.bool false]) (c' := [.bool p1.naive, .bool p1.bare, .bool false]) ow40 rfl rfl rfl (.inl rfl) rfl (L 0 rfl rfl) K ti4 (by simp [topV]) rfl rfl (Nat.le_of_ble_eq_true rfl) rfl rfl nd (fun V47 le48 ow49 => ?_)
      refine U.done (Nat.le_of_ble_eq_true rfl) ?_
      refine WP.usreg rfl ?_
      refine U.k rfl rfl (.inl rfl) (S.loadB rfl (L 7 rfl rfl) Try.underlying25 rfl ti25 (ow49.own (k := 1) rfl).get rfl) nd ?_
      refine U.k rfl rfl (.inl rfl) (S.loadB rfl (L 7 rfl rfl) Try.underlying27 rfl ti27 (ow49.own (k := 0) rfl).get rfl) nd ?_
      have f50 := f31.up (le38.trans le48)
      have f51 := f32.up (le38.trans le48)
      obtain ⟨x52, hx53, h54⟩ := bindS h46
      refine O.call (V := V47) rfl rfl (.inl rfl) rfl en8 (aC (L 1 rfl rfl) (aC (L 0 rfl rfl) aN)) (wk_fence_Module V47 _ p0 (⟨p1.naive, p1.bare, false⟩ : Tfence_Options) v1 v3 f50 f51 ow49 _ hx53) (fun _ _ _ _ => nd) (fun v55 V56 le57 hp58 => ?_)
      obtain ⟨v60, v62, rfl, f61, f63, ow59⟩ := hp58
      refine O.alloc ow59 rfl rfl (.inl rfl) rfl ti25 rfl rfl nd (fun b64 V65 le66 ow67 => ?_)
      refine O.store (k := 0) (cs := [v60, v62]) (c' := [v60, v62]) ow67 rfl rfl rfl (.inl rfl) rfl (L 0 rfl rfl) (L 1 rfl rfl) ti25 (by simp [topV]) rfl rfl (Nat.le_of_ble_eq_true rfl) (by have q0 := f61.one; have q1 := f63.one; simp only [List.all_cons, List.all_nil, q0, q1]; rfl) rfl nd (fun V69 le70 ow71 => ?_)
      refine U.done (Nat.le_of_ble_eq_true rfl) ?_
      refine WP.usreg rfl ?_
      refine U.p (v := .pointer (some ⟨b10, 2, none⟩)) rfl rfl (.inl rfl) (S.fieldAddr rfl (L 10 rfl rfl) Try.underlying27 rfl ti4 rfl rfl) ?_
      refine O.store (k := 1) (cs := [.bool true]) (c' := [.bool p1.naive, .bool p1.bare, .bool true]) ow71 rfl rfl rfl (.inl rfl) rfl (L 0 rfl rfl) K ti4 (by simp [topV]) rfl rfl (Nat.le_of_ble_eq_true rfl) rfl rfl nd (fun V72 le73 ow74 => ?_)
      refine U.done (Nat.le_of_ble_eq_true rfl) ?_
      refine WP.usreg rfl ?_
      refine U.k rfl rfl (.inl rfl) (S.loadB rfl (L 12 rfl rfl) Try.underlying25 rfl ti25 (ow74.own (k := 2) rfl).get rfl) nd ?_
      refine U.k rfl rfl (.inl rfl) (S.loadB rfl (L 12 rfl rfl) Try.underlying27 rfl ti27 (ow74.own (k := 1) rfl).get rfl) nd ?_
      have f75 := f50.up (((le57.trans le66).trans le70).trans le73)
      have f76 := f51.up (((le57.trans le66).trans le70).trans le73)
      obtain ⟨x77, hx78, h79⟩ := bindS h54
      refine O.call (V := V72) rfl rfl (.inl rfl) rfl en8 (aC (L 1 rfl rfl) (aC (L 0 rfl rfl) aN)) (wk_fence_Module V72 _ p0 (⟨p1.naive, p1.bare, true⟩ : Tfence_Options) v1 v3 f75 f76 ow74 _ hx78) (fun _ _ _ _ => nd) (fun v80 V81 le82 hp83 => ?_)
      obtain ⟨v85, v87, rfl, f86, f88, ow84⟩ := hp83
      refine O.alloc ow84 rfl rfl (.inl rfl) rfl ti25 rfl rfl nd (fun b89 V90 le91 ow92 => ?_)
      refine O.store (k := 0) (cs := [v85, v87]) (c' := [v85, v87]) ow92 rfl rfl rfl (.inl rfl) rfl (L 0 rfl rfl) (L 1 rfl rfl) ti25 (by simp [topV]) rfl rfl (Nat.le_of_ble_eq_true rfl) (by have q0 := f86.one; have q1 := f88.one; simp only [List.all_cons, List.all_nil, q0, q1]; rfl) rfl nd (fun V94 le95 ow96 => ?_)
      refine U.done (Nat.le_of_ble_eq_true rfl) ?_
      refine WP.seq ?_
      refine WP.seqI (fun l V' => ∃ (x97 : Bool), l = [(6, .pointer (some ⟨b89, 0, none⟩)), (41, .bool x97)] ∧ V94.le V' ∧ Ow V' (.pt b89 (.cells 2 [v85, v87]) :: Rs) ∧ law12_FenceMerges_k1 x77 x97 = some r) ?_ ?_
      · rintro _ V98 ⟨x97, rfl, le99, ow100, h101⟩
        unfold law12_FenceMerges_k1 at h101
        refine WP.cond _ (L 1 rfl rfl) rfl (fun c102 => ?_) (fun c102 => ?_)
        · have h103 := ifT c102 h101
          refine WP.usreg rfl ?_
          refine U.p rfl rfl (.inl rfl) (S.assign rfl K) ?_
          refine U.done (Nat.le_of_ble_eq_true rfl) ?_
          refine WP.ret ?_
          refine sqR ?_
          refine fin.slot (.inr rfl) rfl (L 0 rfl rfl) ⟨V98, rfl, ((((((((((((le7.trans le12).trans le20).trans le38).trans le48).trans le57).trans le66).trans le70).trans le73).trans le82).trans le91).trans le95).trans le99), ?_⟩
          have ow104 := ow100.drop 0 rfl
          have e105 := Option.some.inj h103
          subst e105
          exact ⟨rfl, ow104⟩
        · have h106 := ifF c102 h101
          refine WP.skip ?_
          refine sqN ?_
          refine WP.seq ?_
          refine WP.usreg rfl ?_
          refine U.p (v := .pointer (some ⟨b89, 0, none⟩)) rfl rfl (.inl rfl) (S.fieldAddr rfl (L 0 rfl rfl) Try.underlying25 rfl ti22 rfl rfl) ?_
          refine U.k rfl rfl (.inl rfl) (S.load rfl (L 0 rfl rfl) Try.underlying22 rfl ((ow100.own (k := 0) rfl).cell rfl)) nd ?_
          refine U.p rfl rfl (.inl rfl) (f86.1.len rfl (L 0 rfl rfl) Try.underlying22) ?_
          refine U.p rfl rfl (.inl rfl) (S.move rfl K) ?_
          refine U.done (Nat.le_of_ble_eq_true rfl) ?_
          refine WP.blk ?_
          have ow108 := ow100.drop 0 rfl
          unfold law12_FenceMerges_l1 at h106
          obtain ⟨n110, hn109⟩ := loopO_some.1 h106
          refine WP.loopI2 (fun n l V' => ∃ (x107 : Int), l = [(43, v85), (44, .int .i64 (x77.funcs.length : Int)), (45, .int .i64 x107)] ∧ V98.le V' ∧ Ow V' (Rs) ∧ itO (fun s => law12_FenceMerges_l1b x77 s) n x107 = some r) n110 _ ⟨0, rfl, .refl _, ow108, hn109⟩ (allCons (L 2 rfl rfl) (allCons (L 1 rfl rfl) (allCons (L 0 rfl rfl) allNil))) ?_
          rintro _ _ V111 ⟨x107, rfl, le112, ow113, h117⟩
          obtain ⟨m114, q115, rfl, h118, e116⟩ := itS h117
          replace h118 : law12_FenceMerges_l1b x77 x107 = some q115 := h118
          unfold law12_FenceMerges_l1b at h118
          refine WP.usreg rfl ?_
          refine U.p rfl rfl (.inl rfl) (S.lss rfl (L 2 rfl rfl) (L 1 rfl rfl)) ?_
          refine U.done (Nat.le_of_ble_eq_true rfl) ?_
          refine WP.seq ?_
          refine WP.cond _ (L 0 rfl rfl) rfl (fun c119 => ?_) (fun c119 => ?_)
          · have h120 := ifT c119 h118
            refine WP.skip ?_
            refine sqN ?_
            refine WP.seq ?_
            refine WP.blk ?_
            refine WP.usreg rfl ?_
            obtain ⟨x121, hx122, h123⟩ := bindS h120
            obtain ⟨b124, o125, c126, cs127, hv128, hf129, hr130, hc131⟩ := f86.at hx122
            obtain ⟨v132, rfl, f133⟩ := hr130
            refine U.p rfl rfl (.inl rfl) (S.index rfl ((L 1 rfl rfl).trans hv128) (L 3 rfl rfl) Try.underlying22 ti33 (ix_ge hx122) (ix_lt hx122)) ?_
            refine U.k rfl rfl (.inl rfl) (S.loadN (cs := [.string x121.name, .int .i64 x121.params, .int .i64 x121.regs, v132]) rfl (L 0 rfl rfl) Try.underlying33 rfl ti33 rfl (fun j v hj => (((le91.trans le95).trans le99).trans le112).cell hf129 (hc131 j v hj))) nd ?_
            refine O.alloc ow113 rfl rfl (.inl rfl) rfl ti33 rfl rfl nd (fun b134 V135 le136 ow137 => ?_)
            refine O.store (k := 0) (cs := [.string x121.name, .int .i64 x121.params, .int .i64 x121.regs, v132]) (c' := [.string x121.name, .int .i64 x121.params, .int .i64 x121.regs, v132]) ow137 rfl rfl rfl (.inl rfl) rfl (L 0 rfl rfl) (L 1 rfl rfl) ti33 (by simp [topV]) rfl rfl (Nat.le_of_ble_eq_true rfl) (by have q0 := f133.one; simp only [List.all_cons, List.all_nil, q0]; rfl) rfl nd (fun V139 le140 ow141 => ?_)
            refine U.done (Nat.le_of_ble_eq_true rfl) ?_
            refine WP.usreg rfl ?_
            refine U.p rfl rfl (.inl rfl) (S.assign rfl K) ?_
            refine U.done (Nat.le_of_ble_eq_true rfl) ?_
            refine WP.blk ?_
            unfold law12_FenceMerges_l2 at h123
            obtain ⟨n144, hn143⟩ := loopO_some.1 h123
            refine WP.loopI2 (fun n l V' => ∃ (x142 : Int), l = [(8, .pointer (some ⟨b134, 0, none⟩)), (9, .int .i64 x142), (43, v85), (44, .int .i64 (x77.funcs.length : Int)), (45, .int .i64 x107)] ∧ V139.le V' ∧ Ow V' (.pt b134 (.cells 4 [.string x121.name, .int .i64 x121.params, .int .i64 x121.regs, v132]) :: Rs) ∧ itO (fun s => law12_FenceMerges_l2b x107 x121 s) n x142 = some q115) n144 _ ⟨1, rfl, .refl _, ow141, hn143⟩ (allCons (L 1 rfl rfl) (allCons (L 0 rfl rfl) (allCons (L 5 rfl rfl) (allCons (L 6 rfl rfl) (allCons (L 7 rfl rfl) allNil))))) ?_
            rintro _ _ V145 ⟨x142, rfl, le146, ow147, h151⟩
            obtain ⟨m148, q149, rfl, h152, e150⟩ := itS h151
            replace h152 : law12_FenceMerges_l2b x107 x121 x142 = some q149 := h152
            unfold law12_FenceMerges_l2b at h152
            refine WP.seq ?_
            refine WP.usreg rfl ?_
            refine U.p rfl rfl (.inl rfl) (S.move rfl (L 1 rfl rfl)) ?_
            refine U.p (v := .pointer (some ⟨b134, 3, none⟩)) rfl rfl (.inl rfl) (S.fieldAddr rfl (L 1 rfl rfl) Try.underlying33 rfl ti31 rfl rfl) ?_
            refine U.k rfl rfl (.inl rfl) (S.load rfl (L 0 rfl rfl) Try.underlying31 rfl ((ow147.own (k := 0) rfl).cell rfl)) nd ?_
            refine U.p rfl rfl (.inl rfl) (f133.1.len rfl (L 0 rfl rfl) Try.underlying31) ?_
            refine U.p rfl rfl (.inl rfl) (S.lss rfl (L 3 rfl rfl) (L 0 rfl rfl)) ?_
            refine U.done (Nat.le_of_ble_eq_true rfl) ?_
            refine WP.cond _ (L 0 rfl rfl) rfl (fun c153 => ?_) (fun c153 => ?_)
            · have h154 := ifT c153 h152
              refine WP.skip ?_
              refine sqN ?_
              refine WP.seq ?_
              refine WP.blk ?_
              refine WP.usdreg rfl rfl rfl ?_
              refine U.p (v := .pointer (some ⟨b134, 3, none⟩)) rfl rfl (.inl rfl) (S.fieldAddr rfl (L 5 rfl rfl) Try.underlying33 rfl ti31 rfl rfl) ?_
              refine U.k rfl rfl (.inl rfl) (S.load rfl (L 0 rfl rfl) Try.underlying31 rfl ((ow147.own (k := 0) rfl).cell rfl)) (fun _ => (okH.nil (fun r h => by cases h; exact (ow147.own (k := 0) rfl).lt))) ?_
              refine U.p rfl rfl (.inl rfl) (S.move rfl (L 8 rfl rfl)) ?_
              refine U.p rfl rfl (.inl rfl) (S.sub rfl (L 0 rfl rfl) K) ?_
              obtain ⟨x155, hx156, h157⟩ := bindS h154
              obtain ⟨b158, o159, c160, cs161, hv162, hf163, hr164, hc165⟩ := f133.at hx156
              obtain ⟨v166, rfl, f167⟩ := hr164
              refine U.p rfl rfl (.inl rfl) (S.index rfl ((L 2 rfl rfl).trans hv162) (L 0 rfl rfl) Try.underlying31 ti42 (ix_ge hx156) (ix_lt hx156)) ?_
              refine U.k rfl rfl (.inl rfl) (S.loadN (cs := [.int .i64 x155.op, .int .i64 x155.d, .int .i64 x155.a, .int .i64 x155.b, .int .i64 x155.imm, v166, .int .i64 x155.what, .bool x155.volatile, .bool x155.final]) rfl (L 0 rfl rfl) Try.underlying42 rfl ti42 rfl (fun j v hj => ((((((le91.trans le95).trans le99).trans le112).trans le136).trans le140).trans le146).cell hf163 (hc165 j v hj))) (fun _ => (okH.cons trivial (okH.nil (fun r h => by cases h; exact (V145.wf _ (((((((le91.trans le95).trans le99).trans le112).trans le136).trans le140).trans le146).sub _ hf163)))))) ?_
              refine U.p (v := .pointer (some ⟨b134, 3, none⟩)) rfl rfl (.inl rfl) (S.fieldAddr rfl (L 11 rfl rfl) Try.underlying33 rfl ti31 rfl rfl) ?_
              refine U.k rfl rfl (.inl rfl) (S.load rfl (L 0 rfl rfl) Try.underlying31 rfl ((ow147.own (k := 0) rfl).cell rfl)) (fun _ => (okH.cons trivial (okH.cons trivial (okH.nil (fun r h => by cases h; exact (ow147.own (k := 0) rfl).lt))))) ?_
              refine U.p rfl rfl (.inl rfl) (S.move rfl (L 14 rfl rfl)) ?_
              obtain ⟨x168, hx169, h170⟩ := bindS h157
              obtain ⟨b171, o172, c173, cs174, hv175, hf176, hr177, hc178⟩ := f133.at hx169
              obtain ⟨v179, rfl, f180⟩ := hr177
              refine U.p rfl rfl (.inl rfl) (S.index rfl ((L 1 rfl rfl).trans hv175) (L 0 rfl rfl) Try.underlying31 ti42 (ix_ge hx169) (ix_lt hx169)) ?_
              refine U.k rfl rfl (.inl rfl) (S.loadN (cs := [.int .i64 x168.op, .int .i64 x168.d, .int .i64 x168.a, .int .i64 x168.b, .int .i64 x168.imm, v179, .int .i64 x168.what, .bool x168.volatile, .bool x168.final]) rfl (L 0 rfl rfl) Try.underlying42 rfl ti42 rfl (fun j v hj => ((((((le91.trans le95).trans le99).trans le112).trans le136).trans le140).trans le146).cell hf176 (hc178 j v hj))) (fun _ => (okH.cons trivial (okH.cons trivial (okH.cons trivial (okH.nil (fun r h => by cases h; exact (V145.wf _ (((((((le91.trans le95).trans le99).trans le112).trans le136).trans le140).trans le146).sub _ hf176)))))))) ?_
              refine O.alloc ow147 rfl rfl (.inl rfl) rfl ti42 rfl rfl (fun _ => (okH.cons trivial (okH.cons trivial (okH.cons trivial (okH.cons trivial (okH.nil (fun r h => nomatch h))))))) (fun b181 V182 le183 ow184 => ?_)
              refine O.alloc ow184 rfl rfl (.inl rfl) rfl ti42 rfl rfl (fun _ => (okH.cons trivial (okH.cons trivial (okH.cons trivial (okH.cons trivial (okH.cons trivial (okH.nil (fun r h => nomatch h)))))))) (fun b186 V187 le188 ow189 => ?_)
              refine O.store (k := 1) (cs := [.int .i64 x155.op, .int .i64 x155.d, .int .i64 x155.a, .int .i64 x155.b, .int .i64 x155.imm, v166, .int .i64 x155.what, .bool x155.volatile, .bool x155.final]) (c' := [.int .i64 x155.op, .int .i64 x155.d, .int .i64 x155.a, .int .i64 x155.b, .int .i64 x155.imm, v166, .int .i64 x155.what, .bool x155.volatile, .bool x155.final]) ow189 rfl rfl rfl (.inl rfl) rfl (L 1 rfl rfl) (L 7 rfl rfl) ti42 (by simp [topV]) rfl rfl (Nat.le_of_ble_eq_true rfl) (by have q0 := f167.one; simp only [List.all_cons, List.all_nil, q0]; rfl) rfl (fun _ => (okH.cons (Or.inl rfl) (okH.cons (Or.inl rfl) (okH.cons (Or.inr (upd_same (fun e => (ow189.own (k := 1) rfl).nf (e ▸ (((((((((le91.trans le95).trans le99).trans le112).trans le136).trans le140).trans le146).trans le183).trans le188).sub _ hf176))))) (okH.cons (Or.inr (upd_same (ow189.nept (j := 2) (k := 1) rfl rfl (by decide)))) (okH.cons (Or.inl rfl) (okH.cons (Or.inl rfl) (okH.nil (fun r h => nomatch h))))))))) (fun V191 le192 ow193 => ?_)
              refine O.store (k := 0) (cs := [.int .i64 x168.op, .int .i64 x168.d, .int .i64 x168.a, .int .i64 x168.b, .int .i64 x168.imm, v179, .int .i64 x168.what, .bool x168.volatile, .bool x168.final]) (c' := [.int .i64 x168.op, .int .i64 x168.d, .int .i64 x168.a, .int .i64 x168.b, .int .i64 x168.imm, v179, .int .i64 x168.what, .bool x168.volatile, .bool x168.final]) ow193 rfl rfl rfl (.inl rfl) rfl (L 0 rfl rfl) (L 2 rfl rfl) ti42 (by simp [topV]) rfl rfl (Nat.le_of_ble_eq_true rfl) (by have q0 := f180.one; simp only [List.all_cons, List.all_nil, q0]; rfl) rfl (fun _ => (okH.cons rfl (okH.cons (Or.inl rfl) (okH.cons (Or.inl rfl) (okH.cons (Or.inl rfl) (okH.cons (Or.inl rfl) (okH.cons (Or.inl rfl) (okH.cons (Or.inl rfl) (okH.nil (fun r h => nomatch h)))))))))) (fun V194 le195 ow196 => ?_)
              refine U.done (Nat.le_of_ble_eq_true rfl) ?_
              refine WP.usreg rfl ?_
              refine U.p (v := .pointer (some ⟨b181, 0, none⟩)) rfl rfl (.inl rfl) (S.fieldAddr rfl (L 1 rfl rfl) Try.underlying42 rfl ti3 rfl rfl) ?_
              refine U.k rfl rfl (.inl rfl) (S.load rfl (L 0 rfl rfl) Try.underlying3 rfl ((ow196.own (k := 1) rfl).cell rfl)) nd ?_
              refine U.p rfl rfl (.inl rfl) (S.eqlI rfl (L 0 rfl rfl) K) ?_
              refine U.p rfl rfl (.inl rfl) (S.move rfl (L 0 rfl rfl)) ?_
              refine U.joinX 8 (fun e H => ∃ (u197 u198 u199 : Value), H = V194.H ∧ e = [(74, .bool ((decide (x155.op = 21)) && (decide (x168.op = 21)))), (73, u197), (72, u198), (71, u199)]) ?_ ?_
              · rintro _ _ ⟨u197, u198, u199, rfl, rfl⟩
                refine U.p rfl rfl (.inl rfl) (S.move rfl (L 0 rfl rfl)) ?_
                refine U.joinX 18 (fun e H => ∃ (u203 u204 u205 u206 u207 u208 u209 u210 : Value), H = V194.H ∧ e = [(84, .bool (((decide (x155.op = 21)) && (decide (x168.op = 21))) && ((decide (x155.imm = 1)) || (decide (x155.imm = 2))))), (83, u203), (82, u204), (81, u205), (80, u206), (79, u207), (78, u208), (77, u209), (76, u210)]) ?_ ?_
                · rintro _ _ ⟨u203, u204, u205, u206, u207, u208, u209, u210, rfl, rfl⟩
                  refine U.p rfl rfl (.inl rfl) (S.move rfl (L 0 rfl rfl)) ?_
                  refine U.joinX 28 (fun e H => ∃ (u214 u215 u216 u217 u218 u219 u220 u221 : Value), H = V194.H ∧ e = [(94, .bool ((((decide (x155.op = 21)) && (decide (x168.op = 21))) && ((decide (x155.imm = 1)) || (decide (x155.imm = 2)))) && ((decide (x168.imm = 1)) || (decide (x168.imm = 2))))), (93, u214), (92, u215), (91, u216), (90, u217), (89, u218), (88, u219), (87, u220), (86, u221)]) ?_ ?_
                  · rintro _ _ ⟨u214, u215, u216, u217, u218, u219, u220, u221, rfl, rfl⟩
                    refine U.done (Nat.le_of_ble_eq_true rfl) ?_
                    refine WP.cond _ (L 0 rfl rfl) rfl (fun c225 => ?_) (fun c225 => ?_)
                    · have h226 := ifT c225 h170
                      refine WP.usreg rfl ?_
                      refine U.p rfl rfl (.inl rfl) (S.assign rfl K) ?_
                      refine U.done (Nat.le_of_ble_eq_true rfl) ?_
                      refine WP.ret ?_
                      refine blkR (sqR (sqR (blkR (blkR (sqR (sqR (blkR (sqR ?_))))))))
                      have h227 := exitS h226 e150
                      have h228 := exitS h227 e116
                      refine fin.slot (.inr rfl) rfl (L 0 rfl rfl) ⟨V194, rfl, ((((((((((((((((((((le7.trans le12).trans le20).trans le38).trans le48).trans le57).trans le66).trans le70).trans le73).trans le82).trans le91).trans le95).trans le99).trans le112).trans le136).trans le140).trans le146).trans le183).trans le188).trans le192).trans le195), ?_⟩
                      have ow229 := ow196.drop 0 rfl
                      have ow230 := ow229.drop 0 rfl
                      have ow231 := ow230.drop 0 rfl
                      have e232 := Option.some.inj h228
                      subst e232
                      exact ⟨rfl, ow231⟩
                    · have h233 := ifF c225 h170
                      refine WP.skip ?_
                      refine blkN (sqN ?_)
                      refine WP.ureg rfl ?_
                      refine U.p rfl rfl (.inl rfl) (S.move rfl (L 47 rfl rfl)) ?_
                      refine U.p rfl rfl (.inl rfl) (S.add rfl (L 0 rfl rfl) K) ?_
                      refine U.p rfl rfl (.inl rfl) (S.assign rfl (L 0 rfl rfl)) ?_
                      refine U.done (Nat.le_of_ble_eq_true rfl) ?_
                      refine sqN ?_
                      have ow234 := ow196.drop 0 rfl
                      have ow235 := ow234.drop 0 rfl
                      exact ⟨_, V194, rfl, ⟨m148, Nat.lt_succ_self _, w64 (x142 + 1), rfl, ((((le146.trans le183).trans le188).trans le192).trans le195), ow235, backS h233 e150⟩, (allCons (L 49 rfl rfl) (allCons (L 0 rfl rfl) (allCons (L 51 rfl rfl) (allCons (L 52 rfl rfl) (allCons (L 53 rfl rfl) allNil)))))⟩
                  · intro kk
                    refine bcase (b := ((decide (x155.op = 21)) && (decide (x168.op = 21))) && ((decide (x155.imm = 1)) || (decide (x155.imm = 2)))) (fun g236 => ?_) (fun g236 => ?_)
                    · skip
                      refine U.p (v := .pointer (some ⟨b186, 4, none⟩)) rfl rfl (.inr ⟨_, _, _, rfl, rfl, ((L 0 rfl rfl).trans (congrArg Value.bool g236))⟩) (S.fieldAddr rfl (L 19 rfl rfl) Try.underlying42 rfl ti3 rfl rfl) ?_
                      refine U.k rfl rfl (.inr ⟨_, _, _, rfl, rfl, ((L 1 rfl rfl).trans (congrArg Value.bool g236))⟩) (S.load rfl (L 0 rfl rfl) Try.underlying3 rfl ((ow196.own (k := 0) rfl).cell rfl)) nd ?_
                      refine U.p rfl rfl (.inr ⟨_, _, _, rfl, rfl, ((L 2 rfl rfl).trans (congrArg Value.bool g236))⟩) (S.eqlI rfl (L 0 rfl rfl) K) ?_
                      refine U.p rfl rfl (.inr ⟨_, _, _, rfl, rfl, ((L 3 rfl rfl).trans (congrArg Value.bool g236))⟩) (S.move rfl (L 0 rfl rfl)) ?_
                      refine U.joinX 27 (fun e H => ∃ (u237 u238 u239 : Value), H = V194.H ∧ e = [(93, .bool ((decide (x168.imm = 1)) || (decide (x168.imm = 2)))), (92, u237), (91, u238), (90, u239)]) ?_ ?_
                      · rintro _ _ ⟨u237, u238, u239, rfl, rfl⟩
                        refine U.p rfl rfl (.inl rfl) (S.pickT rfl ((L 8 rfl rfl).trans (congrArg Value.bool g236)) (L 0 rfl rfl)) ?_
                        exact kk [(94, .bool ((decide (x168.imm = 1)) || (decide (x168.imm = 2)))), (93, .bool ((decide (x168.imm = 1)) || (decide (x168.imm = 2)))), (92, u237), (91, u238), (90, u239), (89, .bool (decide (x168.imm = 1))), (88, .bool (decide (x168.imm = 1))), (87, .int .i64 x168.imm), (86, .pointer (some ⟨b186, 4, none⟩))] _ ⟨.bool ((decide (x168.imm = 1)) || (decide (x168.imm = 2))), u237, u238, u239, .bool (decide (x168.imm = 1)), .bool (decide (x168.imm = 1)), .int .i64 x168.imm, .pointer (some ⟨b186, 4, none⟩), rfl, (by rw [g236, Bool.true_and])⟩
                      · intro kk
                        refine bcase (b := decide (x168.imm = 1)) (fun g243 => ?_) (fun g243 => ?_)
                        · skip
                          refine U.x rfl rfl rfl rfl ((L 0 rfl rfl).trans (congrArg Value.bool g243)) (by decide) ?_
                          refine U.x rfl rfl rfl rfl ((L 1 rfl rfl).trans (congrArg Value.bool g243)) (by decide) ?_
                          refine U.x rfl rfl rfl rfl ((L 2 rfl rfl).trans (congrArg Value.bool g243)) (by decide) ?_
                          refine U.p rfl rfl (.inr ⟨_, _, _, rfl, rfl, ((L 7 rfl rfl).trans (congrArg Value.bool g236))⟩) (S.pickT rfl ((L 3 rfl rfl).trans (congrArg Value.bool g243)) K) ?_
                          exact kk [(93, .bool true), (92, .tuple #[]), (91, .tuple #[]), (90, .tuple #[])] _ ⟨.tuple #[], .tuple #[], .tuple #[], rfl, (by rw [g243, Bool.true_or])⟩
                        · skip
                          refine U.p (v := .pointer (some ⟨b186, 4, none⟩)) rfl rfl (.inr ⟨_, _, _, rfl, rfl, ((L 0 rfl rfl).trans (congrArg Value.bool g243))⟩) (S.fieldAddr rfl (L 23 rfl rfl) Try.underlying42 rfl ti3 rfl rfl) ?_
                          refine U.k rfl rfl (.inr ⟨_, _, _, rfl, rfl, ((L 1 rfl rfl).trans (congrArg Value.bool g243))⟩) (S.load rfl (L 0 rfl rfl) Try.underlying3 rfl ((ow196.own (k := 0) rfl).cell rfl)) nd ?_
                          refine U.p rfl rfl (.inr ⟨_, _, _, rfl, rfl, ((L 2 rfl rfl).trans (congrArg Value.bool g243))⟩) (S.eqlI rfl (L 0 rfl rfl) K) ?_
                          refine U.p rfl rfl (.inr ⟨_, _, _, rfl, rfl, ((L 7 rfl rfl).trans (congrArg Value.bool g236))⟩) (S.pickF rfl ((L 3 rfl rfl).trans (congrArg Value.bool g243)) (L 0 rfl rfl)) ?_
                          exact kk [(93, .bool (decide (x168.imm = 2))), (92, .bool (decide (x168.imm = 2))), (91, .int .i64 x168.imm), (90, .pointer (some ⟨b186, 4, none⟩))] _ ⟨.bool (decide (x168.imm = 2)), .int .i64 x168.imm, .pointer (some ⟨b186, 4, none⟩), rfl, (by rw [g243, Bool.false_or])⟩
                    · skip
                      refine U.x rfl rfl rfl rfl ((L 0 rfl rfl).trans (congrArg Value.bool g236)) (by decide) ?_
                      refine U.x rfl rfl rfl rfl ((L 1 rfl rfl).trans (congrArg Value.bool g236)) (by decide) ?_
                      refine U.x rfl rfl rfl rfl ((L 2 rfl rfl).trans (congrArg Value.bool g236)) (by decide) ?_
                      refine U.x rfl rfl rfl rfl ((L 3 rfl rfl).trans (congrArg Value.bool g236)) (by decide) ?_
                      refine U.z rfl rfl rfl rfl (L 0 rfl rfl) ?_
                      refine U.z rfl rfl rfl rfl (L 1 rfl rfl) ?_
                      refine U.z rfl rfl rfl rfl (L 2 rfl rfl) ?_
                      refine U.x rfl rfl rfl rfl ((L 7 rfl rfl).trans (congrArg Value.bool g236)) (by decide) ?_
                      refine U.p rfl rfl (.inl rfl) (S.pickF rfl ((L 8 rfl rfl).trans (congrArg Value.bool g236)) K) ?_
                      exact kk [(94, .bool false), (93, .tuple #[]), (92, .tuple #[]), (91, .tuple #[]), (90, .tuple #[]), (89, .tuple #[]), (88, .tuple #[]), (87, .tuple #[]), (86, .tuple #[])] _ ⟨.tuple #[], .tuple #[], .tuple #[], .tuple #[], .tuple #[], .tuple #[], .tuple #[], .tuple #[], rfl, (by rw [g236, Bool.false_and])⟩
                · intro kk
                  refine bcase (b := (decide (x155.op = 21)) && (decide (x168.op = 21))) (fun g244 => ?_) (fun g244 => ?_)
                  · skip
                    refine U.p (v := .pointer (some ⟨b181, 4, none⟩)) rfl rfl (.inr ⟨_, _, _, rfl, rfl, ((L 0 rfl rfl).trans (congrArg Value.bool g244))⟩) (S.fieldAddr rfl (L 10 rfl rfl) Try.underlying42 rfl ti3 rfl rfl) ?_
                    refine U.k rfl rfl (.inr ⟨_, _, _, rfl, rfl, ((L 1 rfl rfl).trans (congrArg Value.bool g244))⟩) (S.load rfl (L 0 rfl rfl) Try.underlying3 rfl ((ow196.own (k := 1) rfl).cell rfl)) nd ?_
                    refine U.p rfl rfl (.inr ⟨_, _, _, rfl, rfl, ((L 2 rfl rfl).trans (congrArg Value.bool g244))⟩) (S.eqlI rfl (L 0 rfl rfl) K) ?_
                    refine U.p rfl rfl (.inr ⟨_, _, _, rfl, rfl, ((L 3 rfl rfl).trans (congrArg Value.bool g244))⟩) (S.move rfl (L 0 rfl rfl)) ?_
                    refine U.joinX 17 (fun e H => ∃ (u245 u246 u247 : Value), H = V194.H ∧ e = [(83, .bool ((decide (x155.imm = 1)) || (decide (x155.imm = 2)))), (82, u245), (81, u246), (80, u247)]) ?_ ?_
                    · rintro _ _ ⟨u245, u246, u247, rfl, rfl⟩
                      refine U.p rfl rfl (.inl rfl) (S.pickT rfl ((L 8 rfl rfl).trans (congrArg Value.bool g244)) (L 0 rfl rfl)) ?_
                      exact kk [(84, .bool ((decide (x155.imm = 1)) || (decide (x155.imm = 2)))), (83, .bool ((decide (x155.imm = 1)) || (decide (x155.imm = 2)))), (82, u245), (81, u246), (80, u247), (79, .bool (decide (x155.imm = 1))), (78, .bool (decide (x155.imm = 1))), (77, .int .i64 x155.imm), (76, .pointer (some ⟨b181, 4, none⟩))] _ ⟨.bool ((decide (x155.imm = 1)) || (decide (x155.imm = 2))), u245, u246, u247, .bool (decide (x155.imm = 1)), .bool (decide (x155.imm = 1)), .int .i64 x155.imm, .pointer (some ⟨b181, 4, none⟩), rfl, (by rw [g244, Bool.true_and])⟩
                    · intro kk
                      refine bcase (b := decide (x155.imm = 1)) (fun g251 => ?_) (fun g251 => ?_)
                      · skip
                        refine U.x rfl rfl rfl rfl ((L 0 rfl rfl).trans (congrArg Value.bool g251)) (by decide) ?_
                        refine U.x rfl rfl rfl rfl ((L 1 rfl rfl).trans (congrArg Value.bool g251)) (by decide) ?_
                        refine U.x rfl rfl rfl rfl ((L 2 rfl rfl).trans (congrArg Value.bool g251)) (by decide) ?_
                        refine U.p rfl rfl (.inr ⟨_, _, _, rfl, rfl, ((L 7 rfl rfl).trans (congrArg Value.bool g244))⟩) (S.pickT rfl ((L 3 rfl rfl).trans (congrArg Value.bool g251)) K) ?_
                        exact kk [(83, .bool true), (82, .tuple #[]), (81, .tuple #[]), (80, .tuple #[])] _ ⟨.tuple #[], .tuple #[], .tuple #[], rfl, (by rw [g251, Bool.true_or])⟩
                      · skip
                        refine U.p (v := .pointer (some ⟨b181, 4, none⟩)) rfl rfl (.inr ⟨_, _, _, rfl, rfl, ((L 0 rfl rfl).trans (congrArg Value.bool g251))⟩) (S.fieldAddr rfl (L 14 rfl rfl) Try.underlying42 rfl ti3 rfl rfl) ?_
                        refine U.k rfl rfl (.inr ⟨_, _, _, rfl, rfl, ((L 1 rfl rfl).trans (congrArg Value.bool g251))⟩) (S.load rfl (L 0 rfl rfl) Try.underlying3 rfl ((ow196.own (k := 1) rfl).cell rfl)) nd ?_
                        refine U.p rfl rfl (.inr ⟨_, _, _, rfl, rfl, ((L 2 rfl rfl).trans (congrArg Value.bool g251))⟩) (S.eqlI rfl (L 0 rfl rfl) K) ?_
                        refine U.p rfl rfl (.inr ⟨_, _, _, rfl, rfl, ((L 7 rfl rfl).trans (congrArg Value.bool g244))⟩) (S.pickF rfl ((L 3 rfl rfl).trans (congrArg Value.bool g251)) (L 0 rfl rfl)) ?_
                        exact kk [(83, .bool (decide (x155.imm = 2))), (82, .bool (decide (x155.imm = 2))), (81, .int .i64 x155.imm), (80, .pointer (some ⟨b181, 4, none⟩))] _ ⟨.bool (decide (x155.imm = 2)), .int .i64 x155.imm, .pointer (some ⟨b181, 4, none⟩), rfl, (by rw [g251, Bool.false_or])⟩
                  · skip
                    refine U.x rfl rfl rfl rfl ((L 0 rfl rfl).trans (congrArg Value.bool g244)) (by decide) ?_
                    refine U.x rfl rfl rfl rfl ((L 1 rfl rfl).trans (congrArg Value.bool g244)) (by decide) ?_
                    refine U.x rfl rfl rfl rfl ((L 2 rfl rfl).trans (congrArg Value.bool g244)) (by decide) ?_
                    refine U.x rfl rfl rfl rfl ((L 3 rfl rfl).trans (congrArg Value.bool g244)) (by decide) ?_
                    refine U.z rfl rfl rfl rfl (L 0 rfl rfl) ?_
                    refine U.z rfl rfl rfl rfl (L 1 rfl rfl) ?_
                    refine U.z rfl rfl rfl rfl (L 2 rfl rfl) ?_
                    refine U.x rfl rfl rfl rfl ((L 7 rfl rfl).trans (congrArg Value.bool g244)) (by decide) ?_
                    refine U.p rfl rfl (.inl rfl) (S.pickF rfl ((L 8 rfl rfl).trans (congrArg Value.bool g244)) K) ?_
                    exact kk [(84, .bool false), (83, .tuple #[]), (82, .tuple #[]), (81, .tuple #[]), (80, .tuple #[]), (79, .tuple #[]), (78, .tuple #[]), (77, .tuple #[]), (76, .tuple #[])] _ ⟨.tuple #[], .tuple #[], .tuple #[], .tuple #[], .tuple #[], .tuple #[], .tuple #[], .tuple #[], rfl, (by rw [g244, Bool.false_and])⟩
              · intro kk
                refine bcase (b := decide (x155.op = 21)) (fun g252 => ?_) (fun g252 => ?_)
                · skip
                  refine U.p (v := .pointer (some ⟨b186, 0, none⟩)) rfl rfl (.inr ⟨_, _, _, rfl, rfl, ((L 0 rfl rfl).trans (congrArg Value.bool g252))⟩) (S.fieldAddr rfl (L 4 rfl rfl) Try.underlying42 rfl ti3 rfl rfl) ?_
                  refine U.k rfl rfl (.inr ⟨_, _, _, rfl, rfl, ((L 1 rfl rfl).trans (congrArg Value.bool g252))⟩) (S.load rfl (L 0 rfl rfl) Try.underlying3 rfl ((ow196.own (k := 0) rfl).cell rfl)) nd ?_
                  refine U.p rfl rfl (.inr ⟨_, _, _, rfl, rfl, ((L 2 rfl rfl).trans (congrArg Value.bool g252))⟩) (S.eqlI rfl (L 0 rfl rfl) K) ?_
                  refine U.p rfl rfl (.inl rfl) (S.pickT rfl ((L 3 rfl rfl).trans (congrArg Value.bool g252)) (L 0 rfl rfl)) ?_
                  exact kk [(74, .bool (decide (x168.op = 21))), (73, .bool (decide (x168.op = 21))), (72, .int .i64 x168.op), (71, .pointer (some ⟨b186, 0, none⟩))] _ ⟨.bool (decide (x168.op = 21)), .int .i64 x168.op, .pointer (some ⟨b186, 0, none⟩), rfl, (by rw [g252, Bool.true_and])⟩
                · skip
                  refine U.x rfl rfl rfl rfl ((L 0 rfl rfl).trans (congrArg Value.bool g252)) (by decide) ?_
                  refine U.x rfl rfl rfl rfl ((L 1 rfl rfl).trans (congrArg Value.bool g252)) (by decide) ?_
                  refine U.x rfl rfl rfl rfl ((L 2 rfl rfl).trans (congrArg Value.bool g252)) (by decide) ?_
                  refine U.p rfl rfl (.inl rfl) (S.pickF rfl ((L 3 rfl rfl).trans (congrArg Value.bool g252)) K) ?_
                  exact kk [(74, .bool false), (73, .tuple #[]), (72, .tuple #[]), (71, .tuple #[])] _ ⟨.tuple #[], .tuple #[], .tuple #[], rfl, (by rw [g252, Bool.false_and])⟩
            · have h253 := ifF c153 h152
              refine WP.exit ?_
              refine sqE (sqE (blkE (blkN (sqN ?_))))
              have h254 := exitS h253 e150
              refine WP.ureg rfl ?_
              refine U.p rfl rfl (.inl rfl) (S.add rfl (L 9 rfl rfl) K) ?_
              refine U.p rfl rfl (.inl rfl) (S.move rfl (L 0 rfl rfl)) ?_
              refine U.done (Nat.le_of_ble_eq_true rfl) ?_
              refine sqN ?_
              have ow255 := ow147.drop 0 rfl
              exact ⟨_, V145, rfl, ⟨m114, Nat.lt_succ_self _, w64 (x107 + 1), rfl, (((le112.trans le136).trans le140).trans le146), ow255, backS h254 e116⟩, (allCons (L 9 rfl rfl) (allCons (L 10 rfl rfl) (allCons (L 0 rfl rfl) allNil)))⟩
          · have h256 := ifF c119 h118
            refine WP.exit ?_
            refine sqE (sqE (blkE (sqN ?_)))
            have h257 := exitS h256 e116
            refine WP.usreg rfl ?_
            refine U.p rfl rfl (.inl rfl) (S.assign rfl K) ?_
            refine U.done (Nat.le_of_ble_eq_true rfl) ?_
            refine WP.ret ?_
            refine fin.slot (.inr rfl) rfl (L 0 rfl rfl) ⟨V111, rfl, (((((((((((((le7.trans le12).trans le20).trans le38).trans le48).trans le57).trans le66).trans le70).trans le73).trans le82).trans le91).trans le95).trans le99).trans le112), ?_⟩
            have e258 := Option.some.inj h257
            subst e258
            exact ⟨rfl, ow113⟩
      · skip
        refine WP.udreg rfl rfl rfl ?_
        refine U.k rfl rfl (.inl rfl) (S.loadB rfl (L 0 rfl rfl) Try.underlying25 rfl ti25 (ow96.own (k := 0) rfl).get rfl) (fun _ => (okH.nil (fun r h => by cases h; exact (ow96.own (k := 0) rfl).lt))) ?_
        have f259 := f86.up (le91.trans le95)
        have f260 := f88.up (le91.trans le95)
        obtain ⟨x261, hx262, h263⟩ := bindS h79
        refine O.call (V := V94) rfl rfl (.inl rfl) rfl en14 (aC (L 0 rfl rfl) (aC K aN)) (wk_fence_Count V94 _ x77 1 v85 v87 f259 f260 ow96 _ hx262) (fun v264 V265 le266 hp267 => by obtain ⟨rfl, ow268⟩ := hp267; exact (fun _ => (okH.cons (Or.inl rfl) (okH.nil (fun r h => nomatch h))))) (fun v264 V265 le266 hp267 => ?_)
        obtain ⟨rfl, ow268⟩ := hp267
        refine U.k rfl rfl (.inl rfl) (S.loadB rfl (L 2 rfl rfl) Try.underlying25 rfl ti25 (ow268.own (k := 0) rfl).get rfl) (fun _ => (okH.cons (Or.inr ((ow268.own (k := 0) rfl).get.trans (ow96.own (k := 0) rfl).get.symm)) (okH.cons trivial (okH.nil (fun r h => by cases h; exact (ow268.own (k := 0) rfl).lt))))) ?_
        have f269 := f259.up le266
        have f270 := f260.up le266
        obtain ⟨x271, hx272, h273⟩ := bindS h263
        refine O.call (V := V265) rfl rfl (.inl rfl) rfl en14 (aC (L 0 rfl rfl) (aC K aN)) (wk_fence_Count V265 _ x77 2 v85 v87 f269 f270 ow268 _ hx272) (fun v274 V275 le276 hp277 => by obtain ⟨rfl, ow278⟩ := hp277; exact (fun _ => (okH.cons (Or.inl rfl) (okH.cons rfl (okH.cons (Or.inl rfl) (okH.nil (fun r h => nomatch h))))))) (fun v274 V275 le276 hp277 => ?_)
        obtain ⟨rfl, ow278⟩ := hp277
        refine U.p rfl rfl (.inl rfl) (S.add rfl (L 2 rfl rfl) (L 0 rfl rfl)) ?_
        refine U.k rfl rfl (.inl rfl) (S.loadB rfl (L 10 rfl rfl) Try.underlying25 rfl ti25 (ow278.own (k := 1) rfl).get rfl) (fun _ => (okH.cons (Or.inr ((ow278.own (k := 1) rfl).get.trans (ow268.own (k := 1) rfl).get.symm)) (okH.cons trivial (okH.cons (Or.inr ((ow268.own (k := 1) rfl).get.trans (ow96.own (k := 1) rfl).get.symm)) (okH.cons trivial (okH.nil (fun r h => by cases h; exact (ow278.own (k := 1) rfl).lt))))))) ?_
        have f279 := f61.up (((((((le66.trans le70).trans le73).trans le82).trans le91).trans le95).trans le266).trans le276)
        have f280 := f63.up (((((((le66.trans le70).trans le73).trans le82).trans le91).trans le95).trans le266).trans le276)
        obtain ⟨x281, hx282, h283⟩ := bindS h273
        refine O.call (V := V275) rfl rfl (.inl rfl) rfl en14 (aC (L 0 rfl rfl) (aC K aN)) (wk_fence_Count V275 _ x52 1 v60 v62 f279 f280 ow278 _ hx282) (fun v284 V285 le286 hp287 => by obtain ⟨rfl, ow288⟩ := hp287; exact (fun _ => (okH.cons (Or.inl rfl) (okH.cons rfl (okH.cons (Or.inl rfl) (okH.cons rfl (okH.cons (Or.inl rfl) (okH.nil (fun r h => nomatch h))))))))) (fun v284 V285 le286 hp287 => ?_)
        obtain ⟨rfl, ow288⟩ := hp287
        refine U.k rfl rfl (.inl rfl) (S.loadB rfl (L 12 rfl rfl) Try.underlying25 rfl ti25 (ow288.own (k := 1) rfl).get rfl) (fun _ => (okH.cons (Or.inr ((ow288.own (k := 1) rfl).get.trans (ow278.own (k := 1) rfl).get.symm)) (okH.cons trivial (okH.cons (Or.inr ((ow278.own (k := 1) rfl).get.trans (ow268.own (k := 1) rfl).get.symm)) (okH.cons trivial (okH.cons (Or.inr ((ow268.own (k := 1) rfl).get.trans (ow96.own (k := 1) rfl).get.symm)) (okH.cons trivial (okH.nil (fun r h => by cases h; exact (ow288.own (k := 1) rfl).lt))))))))) ?_
        have f289 := f279.up le286
        have f290 := f280.up le286
        obtain ⟨x291, hx292, h293⟩ := bindS h283
        refine O.call (V := V285) rfl rfl (.inl rfl) rfl en14 (aC (L 0 rfl rfl) (aC K aN)) (wk_fence_Count V285 _ x52 2 v60 v62 f289 f290 ow288 _ hx292) (fun v294 V295 le296 hp297 => by obtain ⟨rfl, ow298⟩ := hp297; exact (fun _ => (okH.cons (Or.inl rfl) (okH.cons rfl (okH.cons (Or.inl rfl) (okH.cons rfl (okH.cons (Or.inl rfl) (okH.cons rfl (okH.cons (Or.inl rfl) (okH.nil (fun r h => nomatch h))))))))))) (fun v294 V295 le296 hp297 => ?_)
        obtain ⟨rfl, ow298⟩ := hp297
        refine U.p rfl rfl (.inl rfl) (S.add rfl (L 2 rfl rfl) (L 0 rfl rfl)) ?_
        refine U.p rfl rfl (.inl rfl) (S.gtr rfl (L 5 rfl rfl) (L 0 rfl rfl)) ?_
        refine U.p rfl rfl (.inl rfl) (S.move rfl (L 0 rfl rfl)) ?_
        refine bcase (b := decide ((w64 (x281 + x291)) < (w64 (x261 + x271)))) (fun g299 => ?_) (fun g299 => ?_)
        · have h300 := ifT g299 h293
          refine U.x rfl rfl rfl rfl ((L 0 rfl rfl).trans (congrArg Value.bool g299)) (by decide) ?_
          refine U.x rfl rfl rfl rfl ((L 1 rfl rfl).trans (congrArg Value.bool g299)) (by decide) ?_
          refine U.x rfl rfl rfl rfl ((L 2 rfl rfl).trans (congrArg Value.bool g299)) (by decide) ?_
          refine U.x rfl rfl rfl rfl ((L 3 rfl rfl).trans (congrArg Value.bool g299)) (by decide) ?_
          refine U.x rfl rfl rfl rfl ((L 4 rfl rfl).trans (congrArg Value.bool g299)) (by decide) ?_
          refine U.p rfl rfl (.inl rfl) (S.pickT rfl ((L 5 rfl rfl).trans (congrArg Value.bool g299)) K) ?_
          refine U.done (Nat.le_of_ble_eq_true rfl) ?_
          refine sqN ?_
          have ow301 := ow298.drop 1 rfl
          have ow302 := ow301.drop 1 rfl
          have ow303 := ow302.drop 1 rfl
          exact ⟨_, V295, rfl, ⟨true, rfl, (((le266.trans le276).trans le286).trans le296), ow303, h300⟩, (allCons (L 18 rfl rfl) (allCons (L 0 rfl rfl) allNil))⟩
        · have h304 := ifF g299 h293
          refine U.k rfl rfl (.inr ⟨_, _, _, rfl, rfl, ((L 0 rfl rfl).trans (congrArg Value.bool g299))⟩) (S.loadB rfl (L 17 rfl rfl) Try.underlying25 rfl ti25 (ow298.own (k := 1) rfl).get rfl) (fun _ => (okH.cons (Or.inl rfl) (okH.cons trivial (okH.cons (Or.inl rfl) (okH.cons trivial (okH.cons (Or.inl rfl) (okH.cons trivial (okH.cons (Or.inl rfl) (okH.cons trivial (okH.nil (fun r h => by cases h; exact (ow298.own (k := 1) rfl).lt))))))))))) ?_
          have f305 := f289.up le296
          have f306 := f290.up le296
          obtain ⟨x307, hx308, h309⟩ := bindS h304
          refine O.call (V := V295) rfl rfl (.inr ⟨_, _, _, rfl, rfl, ((L 1 rfl rfl).trans (congrArg Value.bool g299))⟩) rfl en14 (aC (L 0 rfl rfl) (aC K aN)) (wk_fence_Count V295 _ x52 3 v60 v62 f305 f306 ow298 _ hx308) (fun v310 V311 le312 hp313 => by obtain ⟨rfl, ow314⟩ := hp313; exact (fun _ => (okH.cons (Or.inl rfl) (okH.cons rfl (okH.cons (Or.inl rfl) (okH.cons rfl (okH.cons (Or.inl rfl) (okH.cons rfl (okH.cons (Or.inl rfl) (okH.cons rfl (okH.cons (Or.inl rfl) (okH.nil (fun r h => nomatch h))))))))))))) (fun v310 V311 le312 hp313 => ?_)
          obtain ⟨rfl, ow314⟩ := hp313
          refine U.k rfl rfl (.inr ⟨_, _, _, rfl, rfl, ((L 2 rfl rfl).trans (congrArg Value.bool g299))⟩) (S.loadB rfl (L 14 rfl rfl) Try.underlying25 rfl ti25 (ow314.own (k := 0) rfl).get rfl) (fun _ => (okH.cons (Or.inr ((ow314.own (k := 0) rfl).get.trans (ow298.own (k := 0) rfl).get.symm)) (okH.cons trivial (okH.cons (Or.inl rfl) (okH.cons trivial (okH.cons (Or.inl rfl) (okH.cons trivial (okH.cons (Or.inl rfl) (okH.cons trivial (okH.cons (Or.inl rfl) (okH.cons trivial (okH.nil (fun r h => by cases h; exact (ow314.own (k := 0) rfl).lt))))))))))))) ?_
          have f315 := f269.up (((le276.trans le286).trans le296).trans le312)
          have f316 := f270.up (((le276.trans le286).trans le296).trans le312)
          obtain ⟨x317, hx318, h319⟩ := bindS h309
          refine O.call (V := V311) rfl rfl (.inr ⟨_, _, _, rfl, rfl, ((L 3 rfl rfl).trans (congrArg Value.bool g299))⟩) rfl en14 (aC (L 0 rfl rfl) (aC K aN)) (wk_fence_Count V311 _ x77 3 v85 v87 f315 f316 ow314 _ hx318) (fun v320 V321 le322 hp323 => by obtain ⟨rfl, ow324⟩ := hp323; exact (fun _ => (okH.cons (Or.inl rfl) (okH.cons rfl (okH.cons (Or.inl rfl) (okH.cons rfl (okH.cons (Or.inl rfl) (okH.cons rfl (okH.cons (Or.inl rfl) (okH.cons rfl (okH.cons (Or.inl rfl) (okH.cons rfl (okH.cons (Or.inl rfl) (okH.nil (fun r h => nomatch h))))))))))))))) (fun v320 V321 le322 hp323 => ?_)
          obtain ⟨rfl, ow324⟩ := hp323
          refine U.p rfl rfl (.inr ⟨_, _, _, rfl, rfl, ((L 4 rfl rfl).trans (congrArg Value.bool g299))⟩) (S.neqI rfl (L 2 rfl rfl) (L 0 rfl rfl)) ?_
          refine U.p rfl rfl (.inl rfl) (S.pickF rfl ((L 5 rfl rfl).trans (congrArg Value.bool g299)) (L 0 rfl rfl)) ?_
          refine U.done (Nat.le_of_ble_eq_true rfl) ?_
          refine sqN ?_
          have ow325 := ow324.drop 1 rfl
          have ow326 := ow325.drop 1 rfl
          have ow327 := ow326.drop 1 rfl
          exact ⟨_, V321, rfl, ⟨decide (x307 ≠ x317), rfl, (((((le266.trans le276).trans le286).trans le296).trans le312).trans le322), ow327, h319⟩, (allCons (L 18 rfl rfl) (allCons (L 0 rfl rfl) allNil))⟩

end Go.Vm.G12
