/-
  What the functions compute is what the plain ones say, for all inputs at which those answer.
-/
import Derived.Test.YthbllmihobbcgaaEWG16
set_option linter.unusedSimpArgs false
set_option linter.unusedVariables false
namespace Go.Vm.G16
open Go Go.Proofs

set_option maxHeartbeats 4000000 in
set_option maxRecDepth 10000 in
theorem wk_law16_StorageBars (V : Vw) (Rs : List At) (p0 : Int) (p1 : List Tlaw16_Call) (v1 : Value) (f2 : Fz RT_Tlaw16_Call V v1 p1) (ow : Ow V (Rs)) (r : Bool) (h : law16_StorageBars p0 p1 = some r) : ∃ v V', Cl Try.prog 0 4 #[.int .i64 p0, v1] V.H v V'.H ∧ V.le V' ∧ (v = .bool r ∧ Ow V' (Rs)) := by
  refine Ct.of (Nat.zero_le _) Try.func4 rfl (Nat.le_of_ble_eq_true rfl) ?_
  unfold law16_StorageBars at h
  refine WP.usreg rfl ?_
  refine U.p rfl rfl (.inl rfl) (S.assign rfl K) ?_
  refine U.done (Nat.le_of_ble_eq_true rfl) ?_
  refine WP.seq ?_
  refine WP.usreg rfl ?_
  obtain ⟨x3, hx4, h5⟩ := bindS h
  refine O.call (V := V) rfl rfl (.inl rfl) rfl en9 aN (wk_law16_alive V _ ow _ hx4) (fun _ _ _ _ => nd) (fun v6 V7 le8 hp9 => ?_)
  obtain ⟨rfl, ow10⟩ := hp9
  refine U.p rfl rfl (.inl rfl) (S.not rfl (L 0 rfl rfl)) ?_
  refine U.done (Nat.le_of_ble_eq_true rfl) ?_
  refine WP.cond _ (L 0 rfl rfl) rfl (fun c11 => ?_) (fun c11 => ?_)
  · have h12 := ifT c11 h5
    have k13 : x3 = false := by simpa using c11
    refine WP.usreg rfl ?_
    refine U.p rfl rfl (.inl rfl) (S.assign rfl K) ?_
    refine U.done (Nat.le_of_ble_eq_true rfl) ?_
    refine WP.ret ?_
    refine sqR ?_
    refine fin.slot (.inr rfl) rfl (L 0 rfl rfl) ⟨V7, rfl, le8, ?_⟩
    have e14 := Option.some.inj h12
    subst e14
    exact ⟨rfl, ow10⟩
  · have h15 := ifF c11 h5
    have k16 : x3 = true := by simpa using c11
    refine WP.skip ?_
    refine sqN ?_
    refine WP.seq ?_
    refine WP.usreg rfl ?_
    refine U.p rfl rfl (.inl rfl) (S.move rfl (L 4 rfl rfl)) ?_
    refine U.p rfl rfl (.inl rfl) (f2.1.len rfl (L 0 rfl rfl) Try.underlying22) ?_
    refine U.p rfl rfl (.inl rfl) (S.gtr rfl (L 0 rfl rfl) K) ?_
    refine U.done (Nat.le_of_ble_eq_true rfl) ?_
    refine WP.cond _ (L 0 rfl rfl) rfl (fun c17 => ?_) (fun c17 => ?_)
    · have h18 := ifT c17 h15
      refine WP.usreg rfl ?_
      refine U.p rfl rfl (.inl rfl) (S.assign rfl K) ?_
      refine U.done (Nat.le_of_ble_eq_true rfl) ?_
      refine WP.ret ?_
      refine sqR ?_
      refine fin.slot (.inr rfl) rfl (L 0 rfl rfl) ⟨V7, rfl, le8, ?_⟩
      have e19 := Option.some.inj h18
      subst e19
      exact ⟨rfl, ow10⟩
    · have h20 := ifF c17 h15
      refine WP.skip ?_
      refine sqN ?_
      refine WP.usreg rfl ?_
      refine U.p rfl rfl (.inl rfl) (S.move rfl (L 6 rfl rfl)) ?_
      obtain ⟨x21, hx22, h23⟩ := bindS h20
      refine O.call (V := V7) rfl rfl (.inl rfl) rfl en14 (aC (L 0 rfl rfl) aN) (wk_ref16_New V7 _ p0 ow10 _ hx22) (fun _ _ _ _ => nd) (fun v24 V25 le26 hp27 => ?_)
      obtain ⟨b29, z30, v32, v34, hs35, rfl, ow28⟩ := hp27
      refine U.p rfl rfl (.inl rfl) (S.assign rfl (L 0 rfl rfl)) ?_
      refine U.done (Nat.le_of_ble_eq_true rfl) ?_
      refine WP.usreg rfl ?_
      refine U.p rfl rfl (.inl rfl) (S.move rfl (L 9 rfl rfl)) ?_
      obtain ⟨x37, hx38, h39⟩ := bindS h23
      refine O.call (V := V25) rfl rfl (.inl rfl) rfl en10 (aC (L 0 rfl rfl) aN) (wk_storage_New V25 _ p0 ow28 _ hx38) (fun _ _ _ _ => nd) (fun v40 V41 le42 hp43 => ?_)
      obtain ⟨b45, z46, v48, v50, hs51, v53, hs54, v56, hs57, v59, rfl, ow44⟩ := hp43
      refine U.p rfl rfl (.inl rfl) (S.assign rfl (L 0 rfl rfl)) ?_
      refine U.done (Nat.le_of_ble_eq_true rfl) ?_
      refine WP.seq ?_
      refine WP.usreg rfl ?_
      refine U.p rfl rfl (.inl rfl) (S.move rfl (L 13 rfl rfl)) ?_
      refine U.p rfl rfl (.inl rfl) (f2.1.len rfl (L 0 rfl rfl) Try.underlying22) ?_
      refine U.p rfl rfl (.inl rfl) (S.move rfl K) ?_
      refine U.done (Nat.le_of_ble_eq_true rfl) ?_
      refine WP.blk ?_
      have ow88 := ow44.pick 5 rfl
      have ow89 := ow88.pick 5 rfl
      have ow90 := ow89.pick 5 rfl
      have ow91 := ow90.pick 5 rfl
      have ow92 := ow91.pick 5 rfl
      have ow93 := ow92.pick 5 rfl
      have ow94 := ow93.pick 8 rfl
      have ow95 := ow94.pick 8 rfl
      have ow96 := ow95.pick 8 rfl
      unfold law16_StorageBars_l1 at h39
      obtain ⟨n98, hn97⟩ := loopO_some.1 h39
      refine WP.loopI2 (fun n l V' => ∃ (x61 : Int) (v63 : Value) (xs64 : List Tref16_Event) (v66 : Value) (hs67 : List Value) (xs68 : List (List Int)) (v70 : Value) (xs71 : List Tref16_Event) (v73 : Value) (hs74 : List Value) (xs75 : List (List Int)) (v77 : Value) (hs78 : List Value) (xs79 : List (List (Int × Bool))) (v81 : Value) (hs82 : List Value) (xs83 : List (List (Int × Int))) (v85 : Value) (xs86 : List (Int × Int)) (x87 : Int), l = [(5, .pointer (some ⟨b29, 0, none⟩)), (6, .pointer (some ⟨b45, 0, none⟩)), (27, v1), (28, .int .i64 (p1.length : Int)), (29, .int .i64 x87)] ∧ V41.le V' ∧ Ow V' (.pt b29 (.cells z30 [.int .i64 x61, v63, v66]) :: .os RT_Tref16_Event v63 xs64 :: .oss (RO.os (RT.int .i64)) v66 hs67 xs68 :: .pt b45 (.cells z46 [v70, v73, v77, v81, v85]) :: .os RT_Tref16_Event v70 xs71 :: .oss (RO.os (RT.int .i64)) v73 hs74 xs75 :: .oss (RO.om RT.bool false) v77 hs78 xs79 :: .oss (RO.om (RT.int .i64) false) v81 hs82 xs83 :: .om (RT.int .i64) false v85 xs86 :: Rs) ∧ itO (fun s => law16_StorageBars_l1b p1 s.1 s.2.1 s.2.2.1 s.2.2.2.1 s.2.2.2.2.1 s.2.2.2.2.2.1 s.2.2.2.2.2.2.1 s.2.2.2.2.2.2.2.1 s.2.2.2.2.2.2.2.2) n (x61, xs64, xs68, xs71, xs75, xs79, xs83, xs86, x87) = some r) n98 _ ⟨x21.n, v32, x21.e, v34, hs35, x21.come, v48, x37.events, v50, hs51, x37.seen, v53, hs54, x37.has, v56, hs57, x37.now, v59, x37.last, 0, rfl, .refl _, ow96, hn97⟩ (allCons (L 6 rfl rfl) (allCons (L 3 rfl rfl) (allCons (L 2 rfl rfl) (allCons (L 1 rfl rfl) (allCons (L 0 rfl rfl) allNil))))) ?_
      rintro _ _ V99 ⟨x61, v63, xs64, v66, hs67, xs68, v70, xs71, v73, hs74, xs75, v77, hs78, xs79, v81, hs82, xs83, v85, xs86, x87, rfl, le100, ow101, h105⟩
      obtain ⟨m102, q103, rfl, h106, e104⟩ := itS h105
      replace h106 : law16_StorageBars_l1b p1 x61 xs64 xs68 xs71 xs75 xs79 xs83 xs86 x87 = some q103 := h106
      unfold law16_StorageBars_l1b at h106
      refine WP.usreg rfl ?_
      refine U.p rfl rfl (.inl rfl) (S.lss rfl (L 4 rfl rfl) (L 3 rfl rfl)) ?_
      refine U.done (Nat.le_of_ble_eq_true rfl) ?_
      refine WP.seq ?_
      refine WP.cond _ (L 0 rfl rfl) rfl (fun c107 => ?_) (fun c107 => ?_)
      · have h108 := ifT c107 h106
        refine WP.skip ?_
        refine sqN ?_
        refine WP.seqI (fun l V' => ∃ (x109 : Int) (v111 : Value) (xs112 : List Tref16_Event) (v114 : Value) (hs115 : List Value) (xs116 : List (List Int)) (v118 : Value) (xs119 : List Tref16_Event) (v121 : Value) (hs122 : List Value) (xs123 : List (List Int)) (v125 : Value) (hs126 : List Value) (xs127 : List (List (Int × Bool))) (v129 : Value) (hs130 : List Value) (xs131 : List (List (Int × Int))) (v133 : Value) (xs134 : List (Int × Int)), l = [(5, .pointer (some ⟨b29, 0, none⟩)), (6, .pointer (some ⟨b45, 0, none⟩)), (27, v1), (28, .int .i64 (p1.length : Int)), (29, .int .i64 x87)] ∧ V99.le V' ∧ Ow V' (.pt b29 (.cells z30 [.int .i64 x109, v111, v114]) :: .os RT_Tref16_Event v111 xs112 :: .oss (RO.os (RT.int .i64)) v114 hs115 xs116 :: .pt b45 (.cells z46 [v118, v121, v125, v129, v133]) :: .os RT_Tref16_Event v118 xs119 :: .oss (RO.os (RT.int .i64)) v121 hs122 xs123 :: .oss (RO.om RT.bool false) v125 hs126 xs127 :: .oss (RO.om (RT.int .i64) false) v129 hs130 xs131 :: .om (RT.int .i64) false v133 xs134 :: Rs) ∧ law16_StorageBars_k1 x87 x109 xs112 xs116 xs119 xs123 xs127 xs131 xs134 = some q103) ?_ ?_
        · rintro _ V135 ⟨x109, v111, xs112, v114, hs115, xs116, v118, xs119, v121, hs122, xs123, v125, hs126, xs127, v129, hs130, xs131, v133, xs134, rfl, le136, ow137, h138⟩
          unfold law16_StorageBars_k1 at h138
          refine WP.ureg rfl ?_
          refine U.p rfl rfl (.inl rfl) (S.add rfl (L 4 rfl rfl) K) ?_
          refine U.p rfl rfl (.inl rfl) (S.move rfl (L 0 rfl rfl)) ?_
          refine U.done (Nat.le_of_ble_eq_true rfl) ?_
          refine sqN ?_
          exact ⟨_, V135, rfl, ⟨m102, Nat.lt_succ_self _, x109, v111, xs112, v114, hs115, xs116, v118, xs119, v121, hs122, xs123, v125, hs126, xs127, v129, hs130, xs131, v133, xs134, w64 (x87 + 1), rfl, (le100.trans le136), ow137, backS h138 e104⟩, (allCons (L 2 rfl rfl) (allCons (L 3 rfl rfl) (allCons (L 4 rfl rfl) (allCons (L 5 rfl rfl) (allCons (L 0 rfl rfl) allNil)))))⟩
        · skip
          refine WP.blk ?_
          refine WP.usreg rfl ?_
          obtain ⟨x139, hx140, h141⟩ := bindS h108
          obtain ⟨b142, o143, c144, cs145, hv146, hf147, hr148, hc149⟩ := f2.at hx140
          obtain rfl : cs145 = [.int .i64 x139.kind, .int .i64 x139.t, .int .i64 x139.n, .int .i64 x139.at_, .int .i64 x139.val] := hr148
          refine U.p rfl rfl (.inl rfl) (S.index rfl ((L 3 rfl rfl).trans hv146) (L 5 rfl rfl) Try.underlying22 ti35 (ix_ge hx140) (ix_lt hx140)) ?_
          refine U.k rfl rfl (.inl rfl) (S.loadN (cs := [.int .i64 x139.kind, .int .i64 x139.t, .int .i64 x139.n, .int .i64 x139.at_, .int .i64 x139.val]) rfl (L 0 rfl rfl) Try.underlying35 rfl ti35 rfl (fun j v hj => (((le8.trans le26).trans le42).trans le100).cell hf147 (hc149 j v hj))) nd ?_
          refine O.alloc ow101 rfl rfl (.inl rfl) rfl ti35 rfl rfl nd (fun b150 V151 le152 ow153 => ?_)
          refine O.store (k := 0) (cs := [.int .i64 x139.kind, .int .i64 x139.t, .int .i64 x139.n, .int .i64 x139.at_, .int .i64 x139.val]) (c' := [.int .i64 x139.kind, .int .i64 x139.t, .int .i64 x139.n, .int .i64 x139.at_, .int .i64 x139.val]) ow153 rfl rfl rfl (.inl rfl) rfl (L 0 rfl rfl) (L 1 rfl rfl) ti35 (by simp [topV]) rfl rfl (Nat.le_of_ble_eq_true rfl) rfl rfl nd (fun V155 le156 ow157 => ?_)
          refine U.done (Nat.le_of_ble_eq_true rfl) ?_
          refine WP.usreg rfl ?_
          refine U.p (v := .pointer (some ⟨b150, 0, none⟩)) rfl rfl (.inl rfl) (S.fieldAddr rfl (L 0 rfl rfl) Try.underlying35 rfl ti3 rfl rfl) ?_
          refine U.k rfl rfl (.inl rfl) (S.load rfl (L 0 rfl rfl) Try.underlying3 rfl ((ow157.own (k := 0) rfl).cell rfl)) nd ?_
          refine U.done (Nat.le_of_ble_eq_true rfl) ?_
          refine WP.blk ?_
          refine WP.usreg rfl ?_
          refine U.p rfl rfl (.inl rfl) (S.eqlI rfl (L 0 rfl rfl) K) ?_
          refine U.p rfl rfl (.inl rfl) (S.assign rfl (L 0 rfl rfl)) ?_
          refine U.done (Nat.le_of_ble_eq_true rfl) ?_
          refine WP.cond _ (L 0 rfl rfl) rfl (fun c158 => ?_) (fun c158 => ?_)
          · have h159 := ifT c158 h141
            refine WP.usreg rfl ?_
            refine U.p rfl rfl (.inl rfl) (S.move rfl (L 9 rfl rfl)) ?_
            refine U.p (v := .pointer (some ⟨b150, 1, none⟩)) rfl rfl (.inl rfl) (S.fieldAddr rfl (L 5 rfl rfl) Try.underlying35 rfl ti3 rfl rfl) ?_
            refine U.k rfl rfl (.inl rfl) (S.load rfl (L 0 rfl rfl) Try.underlying3 rfl ((ow157.own (k := 0) rfl).cell rfl)) nd ?_
            refine U.p (v := .pointer (some ⟨b150, 3, none⟩)) rfl rfl (.inl rfl) (S.fieldAddr rfl (L 7 rfl rfl) Try.underlying35 rfl ti3 rfl rfl) ?_
            refine U.k rfl rfl (.inl rfl) (S.load rfl (L 0 rfl rfl) Try.underlying3 rfl ((ow157.own (k := 0) rfl).cell rfl)) nd ?_
            refine U.p (v := .pointer (some ⟨b150, 4, none⟩)) rfl rfl (.inl rfl) (S.fieldAddr rfl (L 9 rfl rfl) Try.underlying35 rfl ti3 rfl rfl) ?_
            refine U.k rfl rfl (.inl rfl) (S.load rfl (L 0 rfl rfl) Try.underlying3 rfl ((ow157.own (k := 0) rfl).cell rfl)) nd ?_
            have ow160 := ow157.pick 9 rfl
            have ow161 := ow160.pick 9 rfl
            have ow162 := ow161.pick 9 rfl
            have ow163 := ow162.pick 9 rfl
            have ow164 := ow163.pick 9 rfl
            have ow165 := ow164.pick 9 rfl
            obtain ⟨x166, hx167, h168⟩ := bindS h159
            refine O.call (V := V155) rfl rfl (.inl rfl) rfl en15 (aC (L 6 rfl rfl) (aC (L 4 rfl rfl) (aC (L 2 rfl rfl) (aC (L 0 rfl rfl) aN)))) (wk_storage_Storage_Write V155 _ (⟨xs71, xs75, xs79, xs83, xs86⟩ : Tstorage_Storage) x139.t x139.at_ x139.val b45 z46 v70 v73 hs74 v77 hs78 v81 hs82 v85 ow165 _ hx167) (fun _ _ _ _ => nd) (fun v169 V170 le171 hp172 => ?_)
            obtain ⟨v174, v176, hs177, v179, hs180, v182, hs183, v185, rfl, ow173⟩ := hp172
            refine U.done (Nat.le_of_ble_eq_true rfl) ?_
            refine WP.ureg rfl ?_
            refine U.p rfl rfl (.inl rfl) (S.move rfl (L 16 rfl rfl)) ?_
            refine U.p (v := .pointer (some ⟨b150, 1, none⟩)) rfl rfl (.inl rfl) (S.fieldAddr rfl (L 13 rfl rfl) Try.underlying35 rfl ti3 rfl rfl) ?_
            refine U.k rfl rfl (.inl rfl) (S.load rfl (L 0 rfl rfl) Try.underlying3 rfl ((ow173.own (k := 6) rfl).cell rfl)) nd ?_
            refine U.p (v := .pointer (some ⟨b150, 3, none⟩)) rfl rfl (.inl rfl) (S.fieldAddr rfl (L 15 rfl rfl) Try.underlying35 rfl ti3 rfl rfl) ?_
            refine U.k rfl rfl (.inl rfl) (S.load rfl (L 0 rfl rfl) Try.underlying3 rfl ((ow173.own (k := 6) rfl).cell rfl)) nd ?_
            refine U.p (v := .pointer (some ⟨b150, 4, none⟩)) rfl rfl (.inl rfl) (S.fieldAddr rfl (L 17 rfl rfl) Try.underlying35 rfl ti3 rfl rfl) ?_
            refine U.k rfl rfl (.inl rfl) (S.load rfl (L 0 rfl rfl) Try.underlying3 rfl ((ow173.own (k := 6) rfl).cell rfl)) nd ?_
            refine U.p (v := .agg #[.int .i64 x139.t, .bool false, .int .i64 x139.at_, .int .i64 x139.val]) rfl rfl (.inl rfl) (S.build (vs := [.int .i64 x139.t, .int .i64 x139.at_, .int .i64 x139.val]) rfl ti39 rfl pl39 (aC (L 4 rfl rfl) (aC (L 2 rfl rfl) (aC (L 0 rfl rfl) aN))) (allC (by simp [topV]) (allC (by simp [topV]) (allC (by simp [topV]) allN))) rfl) ?_
            have ow187 := ow173.pick 9 rfl
            have ow188 := ow187.pick 9 rfl
            have ow189 := ow188.pick 9 rfl
            obtain ⟨x190, hx191, h192⟩ := bindS h168
            refine O.call (V := V170) rfl rfl (.inl rfl) rfl en16 (aC (L 7 rfl rfl) (aC (L 0 rfl rfl) aN)) (wk_ref16_Storage_Accept V170 _ (⟨x61, xs64, xs68⟩ : Tref16_Storage) (⟨x139.t, false, x139.at_, x139.val⟩ : Tref16_Event) b29 z30 v63 v66 hs67 ow189 _ hx191) (fun _ _ _ _ => nd) (fun v193 V194 le195 hp196 => ?_)
            obtain ⟨v198, v200, hs201, rfl, ow197⟩ := hp196
            refine U.done (Nat.le_of_ble_eq_true rfl) ?_
            refine blkN (blkN (sqN ?_))
            have ow203 := ow197.drop 9 rfl
            exact ⟨_, V194, rfl, ⟨x190.2.n, v198, x190.2.e, v200, hs201, x190.2.come, v174, x166.2.events, v176, hs177, x166.2.seen, v179, hs180, x166.2.has, v182, hs183, x166.2.now, v185, x166.2.last, rfl, (((le152.trans le156).trans le171).trans le195), ow203, h192⟩, (allCons (L 25 rfl rfl) (allCons (L 26 rfl rfl) (allCons (L 27 rfl rfl) (allCons (L 28 rfl rfl) (allCons (L 29 rfl rfl) allNil)))))⟩
          · have h204 := ifF c158 h141
            refine WP.usreg rfl ?_
            refine U.p rfl rfl (.inl rfl) (S.eqlI rfl (L 2 rfl rfl) K) ?_
            refine U.p rfl rfl (.inl rfl) (S.assign rfl (L 0 rfl rfl)) ?_
            refine U.done (Nat.le_of_ble_eq_true rfl) ?_
            refine WP.cond _ (L 0 rfl rfl) rfl (fun c205 => ?_) (fun c205 => ?_)
            · have h206 := ifT c205 h204
              refine WP.usreg rfl ?_
              refine U.p rfl rfl (.inl rfl) (S.move rfl (L 11 rfl rfl)) ?_
              refine U.p (v := .pointer (some ⟨b150, 1, none⟩)) rfl rfl (.inl rfl) (S.fieldAddr rfl (L 7 rfl rfl) Try.underlying35 rfl ti3 rfl rfl) ?_
              refine U.k rfl rfl (.inl rfl) (S.load rfl (L 0 rfl rfl) Try.underlying3 rfl ((ow157.own (k := 0) rfl).cell rfl)) nd ?_
              have ow207 := ow157.pick 9 rfl
              have ow208 := ow207.pick 9 rfl
              have ow209 := ow208.pick 9 rfl
              have ow210 := ow209.pick 9 rfl
              have ow211 := ow210.pick 9 rfl
              have ow212 := ow211.pick 9 rfl
              obtain ⟨x213, hx214, h215⟩ := bindS h206
              refine O.call (V := V155) rfl rfl (.inl rfl) rfl en17 (aC (L 2 rfl rfl) (aC (L 0 rfl rfl) aN)) (wk_storage_Storage_Barrier V155 _ (⟨xs71, xs75, xs79, xs83, xs86⟩ : Tstorage_Storage) x139.t b45 z46 v70 v73 hs74 v77 hs78 v81 hs82 v85 ow212 _ hx214) (fun _ _ _ _ => nd) (fun v216 V217 le218 hp219 => ?_)
              obtain ⟨v221, v223, hs224, v226, hs227, v229, hs230, v232, rfl, ow220⟩ := hp219
              refine U.done (Nat.le_of_ble_eq_true rfl) ?_
              refine WP.ureg rfl ?_
              refine U.p rfl rfl (.inl rfl) (S.move rfl (L 14 rfl rfl)) ?_
              refine U.p (v := .pointer (some ⟨b150, 1, none⟩)) rfl rfl (.inl rfl) (S.fieldAddr rfl (L 11 rfl rfl) Try.underlying35 rfl ti3 rfl rfl) ?_
              refine U.k rfl rfl (.inl rfl) (S.load rfl (L 0 rfl rfl) Try.underlying3 rfl ((ow220.own (k := 6) rfl).cell rfl)) nd ?_
              refine U.p (v := .agg #[.int .i64 x139.t, .bool true, .int .i64 0, .int .i64 0]) rfl rfl (.inl rfl) (S.build (vs := [.int .i64 x139.t, .bool true]) rfl ti39 rfl pl39 (aC (L 0 rfl rfl) (aC K aN)) (allC (by simp [topV]) (allC (by simp [topV]) allN)) rfl) ?_
              have ow234 := ow220.pick 9 rfl
              have ow235 := ow234.pick 9 rfl
              have ow236 := ow235.pick 9 rfl
              obtain ⟨x237, hx238, h239⟩ := bindS h215
              refine O.call (V := V217) rfl rfl (.inl rfl) rfl en16 (aC (L 3 rfl rfl) (aC (L 0 rfl rfl) aN)) (wk_ref16_Storage_Accept V217 _ (⟨x61, xs64, xs68⟩ : Tref16_Storage) (⟨x139.t, true, 0, 0⟩ : Tref16_Event) b29 z30 v63 v66 hs67 ow236 _ hx238) (fun _ _ _ _ => nd) (fun v240 V241 le242 hp243 => ?_)
              obtain ⟨v245, v247, hs248, rfl, ow244⟩ := hp243
              refine U.done (Nat.le_of_ble_eq_true rfl) ?_
              refine blkN (blkN (sqN ?_))
              have ow250 := ow244.drop 9 rfl
              exact ⟨_, V241, rfl, ⟨x237.2.n, v245, x237.2.e, v247, hs248, x237.2.come, v221, x213.2.events, v223, hs224, x213.2.seen, v226, hs227, x213.2.has, v229, hs230, x213.2.now, v232, x213.2.last, rfl, (((le152.trans le156).trans le218).trans le242), ow250, h239⟩, (allCons (L 19 rfl rfl) (allCons (L 20 rfl rfl) (allCons (L 21 rfl rfl) (allCons (L 22 rfl rfl) (allCons (L 23 rfl rfl) allNil)))))⟩
            · have h251 := ifF c205 h204
              refine WP.usreg rfl ?_
              refine U.p rfl rfl (.inl rfl) (S.eqlI rfl (L 4 rfl rfl) K) ?_
              refine U.p rfl rfl (.inl rfl) (S.assign rfl (L 0 rfl rfl)) ?_
              refine U.done (Nat.le_of_ble_eq_true rfl) ?_
              refine WP.cond _ (L 0 rfl rfl) rfl (fun c252 => ?_) (fun c252 => ?_)
              · have h253 := ifT c252 h251
                refine WP.usreg rfl ?_
                refine U.p rfl rfl (.inl rfl) (S.move rfl (L 13 rfl rfl)) ?_
                refine U.p (v := .pointer (some ⟨b150, 1, none⟩)) rfl rfl (.inl rfl) (S.fieldAddr rfl (L 9 rfl rfl) Try.underlying35 rfl ti3 rfl rfl) ?_
                refine U.k rfl rfl (.inl rfl) (S.load rfl (L 0 rfl rfl) Try.underlying3 rfl ((ow157.own (k := 0) rfl).cell rfl)) nd ?_
                refine U.p (v := .pointer (some ⟨b150, 2, none⟩)) rfl rfl (.inl rfl) (S.fieldAddr rfl (L 11 rfl rfl) Try.underlying35 rfl ti3 rfl rfl) ?_
                refine U.k rfl rfl (.inl rfl) (S.load rfl (L 0 rfl rfl) Try.underlying3 rfl ((ow157.own (k := 0) rfl).cell rfl)) nd ?_
                have ow254 := ow157.pick 9 rfl
                have ow255 := ow254.pick 9 rfl
                have ow256 := ow255.pick 9 rfl
                have ow257 := ow256.pick 9 rfl
                have ow258 := ow257.pick 9 rfl
                have ow259 := ow258.pick 9 rfl
                obtain ⟨x260, hx261, h262⟩ := bindS h253
                refine O.call (V := V155) rfl rfl (.inl rfl) rfl en18 (aC (L 4 rfl rfl) (aC (L 2 rfl rfl) (aC (L 0 rfl rfl) aN))) (wk_storage_Storage_Go V155 _ (⟨xs71, xs75, xs79, xs83, xs86⟩ : Tstorage_Storage) x139.t x139.n b45 z46 v70 v73 hs74 v77 hs78 v81 hs82 v85 ow259 _ hx261) (fun _ _ _ _ => nd) (fun v263 V264 le265 hp266 => ?_)
                obtain ⟨v268, v270, hs271, v273, hs274, v276, hs277, v279, rfl, ow267⟩ := hp266
                refine U.p rfl rfl (.inl rfl) (S.eqlI rfl (L 0 rfl rfl) K) ?_
                refine U.done (Nat.le_of_ble_eq_true rfl) ?_
                refine WP.cond _ (L 0 rfl rfl) rfl (fun c281 => ?_) (fun c281 => ?_)
                · have h282 := ifT c281 h262
                  refine WP.udreg rfl rfl rfl ?_
                  refine U.p rfl rfl (.inl rfl) (S.move rfl (L 19 rfl rfl)) ?_
                  refine U.p rfl rfl (.inl rfl) (S.nilCheck rfl (L 0 rfl rfl)) ?_
                  refine U.p (v := .pointer (some ⟨b29, 2, none⟩)) rfl rfl (.inl rfl) (S.fieldAddr rfl (L 0 rfl rfl) Try.underlying46 rfl ti44 rfl rfl) ?_
                  refine U.k rfl rfl (.inl rfl) (S.load rfl (L 0 rfl rfl) Try.underlying44 rfl ((ow267.own (k := 7) rfl).cell rfl)) (fun _ => (okH.nil (fun r h => by cases h; exact (ow267.own (k := 7) rfl).lt))) ?_
                  refine U.p (v := .pointer (some ⟨b150, 1, none⟩)) rfl rfl (.inl rfl) (S.fieldAddr rfl (L 19 rfl rfl) Try.underlying35 rfl ti3 rfl rfl) ?_
                  refine U.k rfl rfl (.inl rfl) (S.load rfl (L 0 rfl rfl) Try.underlying3 rfl ((ow267.own (k := 6) rfl).cell rfl)) (fun _ => (okH.cons trivial (okH.nil (fun r h => by cases h; exact (ow267.own (k := 6) rfl).lt)))) ?_
                  refine U.p rfl rfl (.inl rfl) (S.move rfl (L 25 rfl rfl)) ?_
                  refine U.p rfl rfl (.inl rfl) (S.nilCheck rfl (L 0 rfl rfl)) ?_
                  refine U.p (v := .pointer (some ⟨b29, 2, none⟩)) rfl rfl (.inl rfl) (S.fieldAddr rfl (L 0 rfl rfl) Try.underlying46 rfl ti44 rfl rfl) ?_
                  refine U.k rfl rfl (.inl rfl) (S.load rfl (L 0 rfl rfl) Try.underlying44 rfl ((ow267.own (k := 7) rfl).cell rfl)) (fun _ => (okH.cons trivial (okH.cons trivial (okH.nil (fun r h => by cases h; exact (ow267.own (k := 7) rfl).lt))))) ?_
                  refine U.p (v := .pointer (some ⟨b150, 1, none⟩)) rfl rfl (.inl rfl) (S.fieldAddr rfl (L 25 rfl rfl) Try.underlying35 rfl ti3 rfl rfl) ?_
                  refine U.k rfl rfl (.inl rfl) (S.load rfl (L 0 rfl rfl) Try.underlying3 rfl ((ow267.own (k := 6) rfl).cell rfl)) (fun _ => (okH.cons trivial (okH.cons trivial (okH.cons trivial (okH.nil (fun r h => by cases h; exact (ow267.own (k := 6) rfl).lt)))))) ?_
                  obtain ⟨x283, hx284, h285⟩ := bindS h282
                  obtain ⟨b286, o287, n288, c289, hv290⟩ := ow267.sspt (k := 9) rfl hx284
                  refine U.p rfl rfl (.inl rfl) (S.index rfl ((L 2 rfl rfl).trans (ow267.sslen' (k := 9) rfl hv290)) (L 0 rfl rfl) Try.underlying44 ti26 (ix_ge hx284) (ix_lt hx284)) ?_
                  obtain ⟨h291, hh292, ow293⟩ := ow267.ssopen (k := 9) rfl hx284
                  have hcl295 := ow293.shcell (k := 10) rfl hv290 hh292
                  refine U.k rfl rfl (.inl rfl) (S.load rfl (L 0 rfl rfl) Try.underlying26 rfl hcl295.2) (fun _ => (okH.cons trivial (okH.cons trivial (okH.cons trivial (okH.cons trivial (okH.nil (fun r h => by cases h; exact hcl295.1))))))) ?_
                  refine U.p (v := .pointer (some ⟨b150, 2, none⟩)) rfl rfl (.inl rfl) (S.fieldAddr rfl (L 29 rfl rfl) Try.underlying35 rfl ti3 rfl rfl) ?_
                  refine U.k rfl rfl (.inl rfl) (S.load rfl (L 0 rfl rfl) Try.underlying3 rfl ((ow293.own (k := 7) rfl).cell rfl)) (fun _ => (okH.cons trivial (okH.cons trivial (okH.cons trivial (okH.cons trivial (okH.cons trivial (okH.nil (fun r h => by cases h; exact (ow293.own (k := 7) rfl).lt)))))))) ?_
                  refine O.lit (R := (RT.int .i64)) ow293 rfl rfl (.inl rfl) rfl Try.underlying26 ti3 rfl rfl rfl (Nat.le_of_ble_eq_true rfl) rfl (aC (L 0 rfl rfl) aN) (.cons _ _ x139.n _ (by simp [topV]) rfl .nil) (fun _ => (fun _ => (okH.cons trivial (okH.cons trivial (okH.cons trivial (okH.cons trivial (okH.cons trivial (okH.cons trivial (okH.nil (fun r h => nomatch h)))))))))) (fun v296 V297 le298 ow299 => ?_)
                  obtain ⟨xs301, hx302, h303⟩ := bindS h285
                  refine O.append (k := 1) ow299 rfl rfl rfl (.inl rfl) rfl (L 3 rfl rfl) (L 0 rfl rfl) Try.underlying26 ti3 rfl rfl (Nat.le_of_ble_eq_true rfl) (ow299.src (k := 0) rfl Try.underlying26) hx302 (fun V1 hs => (fun _ => (okH.cons (Or.inl rfl) (okH.cons (Or.inl rfl) (okH.cons (Or.inl rfl) (okH.cons (Or.inl rfl) (okH.cons (Or.inl rfl) (okH.cons (Or.inr (hs _ (ow299.own (k := 8) rfl).lt (ow299.noos (j := 8) (k := 1) rfl rfl (by decide)))) (okH.cons (Or.inr (hs _ (ow299.own (k := 9) rfl).lt (ow299.noos (j := 9) (k := 1) rfl rfl (by decide)))) (okH.nil (fun r h => nomatch h))))))))))) (fun v304 V305 le306 ow307 => ?_)
                  obtain ⟨x309, hx310, h311⟩ := bindS h303
                  refine U.p rfl rfl (.inl rfl) (S.index rfl ((L 14 rfl rfl).trans (ow307.shlen' (k := 11) rfl hv290)) (L 12 rfl rfl) Try.underlying44 ti26 (ix_ge hx310) (ix_lt hx310)) ?_
                  refine O.storeH (k := 11) ow307 rfl hv290 rfl rfl (.inl rfl) rfl (L 0 rfl rfl) (L 1 rfl rfl) ti26 (ow307.osne (k := 1) rfl) (by rw [ow307.oscells (k := 1) rfl]) (ow307.osone (k := 1) rfl) (fun H1 hs => (fun _ => (okH.cons rfl (okH.cons (Or.inl rfl) (okH.cons (Or.inl rfl) (okH.cons (Or.inl rfl) (okH.cons (Or.inl rfl) (okH.cons (Or.inl rfl) (okH.cons (Or.inl rfl) (okH.cons (Or.inl rfl) (okH.nil (fun r h => nomatch h)))))))))))) (fun V312 le313 ow314 => ?_)
                  have hh315 := ow314.shset (k := 11) rfl
                  refine U.done (Nat.le_of_ble_eq_true rfl) ?_
                  refine blkN (blkN (sqN ?_))
                  have ow316 := ow314.ssclose (k := 11) (j := 1) rfl rfl (by decide) hh315
                  have ow317 := ow316.drop 0 rfl
                  have ow318 := ow317.drop 6 rfl
                  have ow319 := ow318.pick 5 rfl
                  have ow320 := ow319.pick 5 rfl
                  have ow321 := ow320.pick 5 rfl
                  have ow322 := ow321.pick 5 rfl
                  have ow323 := ow322.pick 5 rfl
                  have ow324 := ow323.pick 5 rfl
                  have ow325 := ow324.pick 8 rfl
                  have ow326 := ow325.pick 8 rfl
                  have ow327 := ow326.pick 8 rfl
                  exact ⟨_, V312, rfl, ⟨x61, v63, xs64, v66, hs67.set (Int.toNat x139.t) v304, xs68.set (Int.toNat x139.t) xs301, v268, x260.2.events, v270, hs271, x260.2.seen, v273, hs274, x260.2.has, v276, hs277, x260.2.now, v279, x260.2.last, rfl, (((((le152.trans le156).trans le265).trans le298).trans le306).trans le313), ow327, h311⟩, (allCons (L 38 rfl rfl) (allCons (L 39 rfl rfl) (allCons (L 40 rfl rfl) (allCons (L 41 rfl rfl) (allCons (L 42 rfl rfl) allNil)))))⟩
                · have h328 := ifF c281 h262
                  refine WP.skip ?_
                  refine blkN (blkN (sqN ?_))
                  have ow329 := ow267.drop 6 rfl
                  have ow330 := ow329.pick 5 rfl
                  have ow331 := ow330.pick 5 rfl
                  have ow332 := ow331.pick 5 rfl
                  have ow333 := ow332.pick 5 rfl
                  have ow334 := ow333.pick 5 rfl
                  have ow335 := ow334.pick 5 rfl
                  have ow336 := ow335.pick 8 rfl
                  have ow337 := ow336.pick 8 rfl
                  have ow338 := ow337.pick 8 rfl
                  exact ⟨_, V264, rfl, ⟨x61, v63, xs64, v66, hs67, xs68, v268, x260.2.events, v270, hs271, x260.2.seen, v273, hs274, x260.2.has, v276, hs277, x260.2.now, v279, x260.2.last, rfl, ((le152.trans le156).trans le265), ow338, h328⟩, (allCons (L 19 rfl rfl) (allCons (L 20 rfl rfl) (allCons (L 21 rfl rfl) (allCons (L 22 rfl rfl) (allCons (L 23 rfl rfl) allNil)))))⟩
              · have h339 := ifF c252 h251
                refine WP.skip ?_
                refine blkN (blkN (sqN ?_))
                have ow340 := ow157.drop 0 rfl
                exact ⟨_, V155, rfl, ⟨x61, v63, xs64, v66, hs67, xs68, v70, xs71, v73, hs74, xs75, v77, hs78, xs79, v81, hs82, xs83, v85, xs86, rfl, (le152.trans le156), ow340, h339⟩, (allCons (L 12 rfl rfl) (allCons (L 13 rfl rfl) (allCons (L 14 rfl rfl) (allCons (L 15 rfl rfl) (allCons (L 16 rfl rfl) allNil)))))⟩
      · have h341 := ifF c107 h106
        refine WP.exit ?_
        refine sqE (sqE (blkE (sqN ?_)))
        have h342 := exitS h341 e104
        refine WP.seq ?_
        refine WP.usreg rfl ?_
        refine U.p rfl rfl (.inl rfl) (S.move rfl (L 1 rfl rfl)) ?_
        refine U.p rfl rfl (.inl rfl) (S.nilCheck rfl (L 0 rfl rfl)) ?_
        refine U.p (v := .pointer (some ⟨b29, 1, none⟩)) rfl rfl (.inl rfl) (S.fieldAddr rfl (L 0 rfl rfl) Try.underlying46 rfl ti43 rfl rfl) ?_
        refine U.k rfl rfl (.inl rfl) (S.load rfl (L 0 rfl rfl) Try.underlying43 rfl ((ow101.own (k := 0) rfl).cell rfl)) nd ?_
        refine U.p rfl rfl (.inl rfl) (ow101.oslen (k := 1) rfl rfl (L 0 rfl rfl) Try.underlying43) ?_
        refine U.p rfl rfl (.inl rfl) (S.move rfl K) ?_
        refine U.done (Nat.le_of_ble_eq_true rfl) ?_
        refine WP.blk ?_
        unfold law16_StorageBars_l2 at h342
        obtain ⟨n345, hn344⟩ := loopO_some.1 h342
        refine WP.loopI2 (fun n l V' => ∃ (x343 : Int), l = [(5, .pointer (some ⟨b29, 0, none⟩)), (6, .pointer (some ⟨b45, 0, none⟩)), (97, v63), (98, .int .i64 (xs64.length : Int)), (99, .int .i64 x343)] ∧ V99.le V' ∧ Ow V' (.pt b29 (.cells z30 [.int .i64 x61, v63, v66]) :: .os RT_Tref16_Event v63 xs64 :: .oss (RO.os (RT.int .i64)) v66 hs67 xs68 :: .pt b45 (.cells z46 [v70, v73, v77, v81, v85]) :: .os RT_Tref16_Event v70 xs71 :: .oss (RO.os (RT.int .i64)) v73 hs74 xs75 :: .oss (RO.om RT.bool false) v77 hs78 xs79 :: .oss (RO.om (RT.int .i64) false) v81 hs82 xs83 :: .om (RT.int .i64) false v85 xs86 :: Rs) ∧ itO (fun s => law16_StorageBars_l2b x61 xs64 xs68 xs71 xs75 xs79 xs83 xs86 s) n x343 = some r) n345 _ ⟨0, rfl, .refl _, ow101, hn344⟩ (allCons (L 7 rfl rfl) (allCons (L 8 rfl rfl) (allCons (L 2 rfl rfl) (allCons (L 1 rfl rfl) (allCons (L 0 rfl rfl) allNil))))) ?_
        rintro _ _ V346 ⟨x343, rfl, le347, ow348, h352⟩
        obtain ⟨m349, q350, rfl, h353, e351⟩ := itS h352
        replace h353 : law16_StorageBars_l2b x61 xs64 xs68 xs71 xs75 xs79 xs83 xs86 x343 = some q350 := h353
        unfold law16_StorageBars_l2b at h353
        refine WP.usreg rfl ?_
        refine U.p rfl rfl (.inl rfl) (S.lss rfl (L 4 rfl rfl) (L 3 rfl rfl)) ?_
        refine U.done (Nat.le_of_ble_eq_true rfl) ?_
        refine WP.seq ?_
        refine WP.cond _ (L 0 rfl rfl) rfl (fun c354 => ?_) (fun c354 => ?_)
        · have h355 := ifT c354 h353
          refine WP.skip ?_
          refine sqN ?_
          refine WP.seqI (fun l V' => l = [(5, .pointer (some ⟨b29, 0, none⟩)), (6, .pointer (some ⟨b45, 0, none⟩)), (97, v63), (98, .int .i64 (xs64.length : Int)), (99, .int .i64 x343)] ∧ V346.le V' ∧ Ow V' (.pt b29 (.cells z30 [.int .i64 x61, v63, v66]) :: .os RT_Tref16_Event v63 xs64 :: .oss (RO.os (RT.int .i64)) v66 hs67 xs68 :: .pt b45 (.cells z46 [v70, v73, v77, v81, v85]) :: .os RT_Tref16_Event v70 xs71 :: .oss (RO.os (RT.int .i64)) v73 hs74 xs75 :: .oss (RO.om RT.bool false) v77 hs78 xs79 :: .oss (RO.om (RT.int .i64) false) v81 hs82 xs83 :: .om (RT.int .i64) false v85 xs86 :: Rs) ∧ law16_StorageBars_k2 x343  = some q350) ?_ ?_
          · rintro _ V356 ⟨rfl, le357, ow358, h359⟩
            unfold law16_StorageBars_k2 at h359
            refine WP.ureg rfl ?_
            refine U.p rfl rfl (.inl rfl) (S.add rfl (L 4 rfl rfl) K) ?_
            refine U.p rfl rfl (.inl rfl) (S.move rfl (L 0 rfl rfl)) ?_
            refine U.done (Nat.le_of_ble_eq_true rfl) ?_
            refine sqN ?_
            exact ⟨_, V356, rfl, ⟨m349, Nat.lt_succ_self _, w64 (x343 + 1), rfl, (le347.trans le357), ow358, backS h359 e351⟩, (allCons (L 2 rfl rfl) (allCons (L 3 rfl rfl) (allCons (L 4 rfl rfl) (allCons (L 5 rfl rfl) (allCons (L 0 rfl rfl) allNil)))))⟩
          · skip
            refine WP.blk ?_
            refine WP.usreg rfl ?_
            refine U.p rfl rfl (.inl rfl) (S.move rfl (L 5 rfl rfl)) ?_
            obtain ⟨x360, hx361, h362⟩ := bindS h355
            obtain ⟨b363, o364, n365, c366, hv367⟩ := ow348.ospt (k := 1) rfl hx361
            obtain ⟨_, hv368, _⟩ := ow348.osel (k := 1) rfl hv367 hx361
            refine U.p rfl rfl (.inl rfl) (S.index rfl ((L 4 rfl rfl).trans hv368) (L 6 rfl rfl) Try.underlying43 ti39 (ix_ge hx361) (ix_lt hx361)) ?_
            obtain ⟨cs369, hv370, hlt371, hr372, hc373⟩ := ow348.osel (k := 1) rfl hv367 hx361
            obtain rfl : cs369 = [.int .i64 x360.thread, .bool x360.bar, .int .i64 x360.at_, .int .i64 x360.val] := hr372
            refine U.k rfl rfl (.inl rfl) (S.loadN (cs := [.int .i64 x360.thread, .bool x360.bar, .int .i64 x360.at_, .int .i64 x360.val]) rfl (L 0 rfl rfl) Try.underlying39 rfl ti39 rfl hc373) nd ?_
            refine O.alloc ow348 rfl rfl (.inl rfl) rfl ti39 rfl rfl nd (fun b374 V375 le376 ow377 => ?_)
            refine U.p rfl rfl (.inl rfl) (S.assign rfl (L 3 rfl rfl)) ?_
            refine O.store (k := 0) (cs := [.int .i64 x360.thread, .bool x360.bar, .int .i64 x360.at_, .int .i64 x360.val]) (c' := [.int .i64 x360.thread, .bool x360.bar, .int .i64 x360.at_, .int .i64 x360.val]) ow377 rfl rfl rfl (.inl rfl) rfl (L 1 rfl rfl) (L 2 rfl rfl) ti39 (by simp [topV]) rfl rfl (Nat.le_of_ble_eq_true rfl) rfl rfl nd (fun V379 le380 ow381 => ?_)
            refine U.done (Nat.le_of_ble_eq_true rfl) ?_
            refine WP.seq ?_
            refine WP.usreg rfl ?_
            refine U.p (v := .pointer (some ⟨b374, 1, none⟩)) rfl rfl (.inl rfl) (S.fieldAddr rfl (L 1 rfl rfl) Try.underlying39 rfl ti4 rfl rfl) ?_
            refine U.k rfl rfl (.inl rfl) (S.load rfl (L 0 rfl rfl) Try.underlying4 rfl ((ow381.own (k := 0) rfl).cell rfl)) nd ?_
            refine U.done (Nat.le_of_ble_eq_true rfl) ?_
            refine WP.cond _ (L 0 rfl rfl) rfl (fun c382 => ?_) (fun c382 => ?_)
            · have h383 := ifT c382 h362
              refine WP.exit ?_
              refine sqE (blkE (sqN ?_))
              have ow384 := ow381.drop 0 rfl
              exact ⟨_, V379, rfl, ⟨rfl, (le376.trans le380), ow384, h383⟩, (allCons (L 8 rfl rfl) (allCons (L 9 rfl rfl) (allCons (L 10 rfl rfl) (allCons (L 11 rfl rfl) (allCons (L 12 rfl rfl) allNil)))))⟩
            · have h385 := ifF c382 h362
              refine WP.skip ?_
              refine sqN ?_
              refine WP.usreg rfl ?_
              refine U.p rfl rfl (.inl rfl) (S.move rfl (L 8 rfl rfl)) ?_
              refine U.p (v := .pointer (some ⟨b374, 0, none⟩)) rfl rfl (.inl rfl) (S.fieldAddr rfl (L 4 rfl rfl) Try.underlying39 rfl ti3 rfl rfl) ?_
              refine U.k rfl rfl (.inl rfl) (S.load rfl (L 0 rfl rfl) Try.underlying3 rfl ((ow381.own (k := 0) rfl).cell rfl)) nd ?_
              refine U.p rfl rfl (.inl rfl) (S.move rfl (L 5 rfl rfl)) ?_
              refine U.p rfl rfl (.inl rfl) (S.add rfl (L 0 rfl rfl) K) ?_
              have ow386 := ow381.pick 3 rfl
              have ow387 := ow386.pick 3 rfl
              have ow388 := ow387.pick 3 rfl
              obtain ⟨x389, hx390, h391⟩ := bindS h385
              refine O.call (V := V379) rfl rfl (.inl rfl) rfl en19 (aC (L 4 rfl rfl) (aC (L 2 rfl rfl) (aC (L 0 rfl rfl) aN))) (wk_law16_ahead V379 _ (⟨x61, xs64, xs68⟩ : Tref16_Storage) x360.thread (w64 (x343 + 1)) b29 z30 v63 v66 hs67 ow388 _ hx390) (fun _ _ _ _ => nd) (fun v392 V393 le394 hp395 => ?_)
              obtain ⟨_, rfl, f398, ow396⟩ := hp395
              refine U.p rfl rfl (.inl rfl) (f398.len rfl (L 0 rfl rfl) Try.underlying26) ?_
              refine U.p rfl rfl (.inl rfl) (S.move rfl K) ?_
              refine U.done (Nat.le_of_ble_eq_true rfl) ?_
              refine WP.blk ?_
              have ow400 := ow396.drop 3 rfl
              unfold law16_StorageBars_l3 at h391
              obtain ⟨n402, hn401⟩ := loopO_some.1 h391
              refine WP.loopI2 (fun n l V' => ∃ (x399 : Int), l = [(5, .pointer (some ⟨b29, 0, none⟩)), (6, .pointer (some ⟨b45, 0, none⟩)), (9, .int .i64 x343), (97, v63), (98, .int .i64 (xs64.length : Int)), (99, .int .i64 x343), (111, v392), (112, .int .i64 (x389.length : Int)), (113, .int .i64 x399)] ∧ V393.le V' ∧ Ow V' (.pt b29 (.cells z30 [.int .i64 x61, v63, v66]) :: .os RT_Tref16_Event v63 xs64 :: .oss (RO.os (RT.int .i64)) v66 hs67 xs68 :: .pt b45 (.cells z46 [v70, v73, v77, v81, v85]) :: .os RT_Tref16_Event v70 xs71 :: .oss (RO.os (RT.int .i64)) v73 hs74 xs75 :: .oss (RO.om RT.bool false) v77 hs78 xs79 :: .oss (RO.om (RT.int .i64) false) v81 hs82 xs83 :: .om (RT.int .i64) false v85 xs86 :: Rs) ∧ itO (fun s => law16_StorageBars_l3b x61 xs64 xs68 xs71 xs75 xs79 xs83 xs86 x343 x389 s) n x399 = some q350) n402 _ ⟨0, rfl, .refl _, ow400, hn401⟩ (allCons (L 16 rfl rfl) (allCons (L 17 rfl rfl) (allCons (L 10 rfl rfl) (allCons (L 18 rfl rfl) (allCons (L 19 rfl rfl) (allCons (L 20 rfl rfl) (allCons (L 2 rfl rfl) (allCons (L 1 rfl rfl) (allCons (L 0 rfl rfl) allNil))))))))) ?_
              rintro _ _ V403 ⟨x399, rfl, le404, ow405, h409⟩
              obtain ⟨m406, q407, rfl, h410, e408⟩ := itS h409
              replace h410 : law16_StorageBars_l3b x61 xs64 xs68 xs71 xs75 xs79 xs83 xs86 x343 x389 x399 = some q407 := h410
              unfold law16_StorageBars_l3b at h410
              refine WP.usreg rfl ?_
              refine U.p rfl rfl (.inl rfl) (S.lss rfl (L 8 rfl rfl) (L 7 rfl rfl)) ?_
              refine U.done (Nat.le_of_ble_eq_true rfl) ?_
              refine WP.seq ?_
              refine WP.cond _ (L 0 rfl rfl) rfl (fun c411 => ?_) (fun c411 => ?_)
              · have h412 := ifT c411 h410
                refine WP.skip ?_
                refine sqN ?_
                refine WP.seqI (fun l V' => l = [(5, .pointer (some ⟨b29, 0, none⟩)), (6, .pointer (some ⟨b45, 0, none⟩)), (9, .int .i64 x343), (97, v63), (98, .int .i64 (xs64.length : Int)), (99, .int .i64 x343), (111, v392), (112, .int .i64 (x389.length : Int)), (113, .int .i64 x399)] ∧ V403.le V' ∧ Ow V' (.pt b29 (.cells z30 [.int .i64 x61, v63, v66]) :: .os RT_Tref16_Event v63 xs64 :: .oss (RO.os (RT.int .i64)) v66 hs67 xs68 :: .pt b45 (.cells z46 [v70, v73, v77, v81, v85]) :: .os RT_Tref16_Event v70 xs71 :: .oss (RO.os (RT.int .i64)) v73 hs74 xs75 :: .oss (RO.om RT.bool false) v77 hs78 xs79 :: .oss (RO.om (RT.int .i64) false) v81 hs82 xs83 :: .om (RT.int .i64) false v85 xs86 :: Rs) ∧ law16_StorageBars_k3 x399  = some q407) ?_ ?_
                · rintro _ V413 ⟨rfl, le414, ow415, h416⟩
                  unfold law16_StorageBars_k3 at h416
                  refine WP.ureg rfl ?_
                  refine U.p rfl rfl (.inl rfl) (S.add rfl (L 8 rfl rfl) K) ?_
                  refine U.p rfl rfl (.inl rfl) (S.move rfl (L 0 rfl rfl)) ?_
                  refine U.done (Nat.le_of_ble_eq_true rfl) ?_
                  refine sqN ?_
                  exact ⟨_, V413, rfl, ⟨m406, Nat.lt_succ_self _, w64 (x399 + 1), rfl, (le404.trans le414), ow415, backS h416 e408⟩, (allCons (L 2 rfl rfl) (allCons (L 3 rfl rfl) (allCons (L 4 rfl rfl) (allCons (L 5 rfl rfl) (allCons (L 6 rfl rfl) (allCons (L 7 rfl rfl) (allCons (L 8 rfl rfl) (allCons (L 9 rfl rfl) (allCons (L 0 rfl rfl) allNil)))))))))⟩
                · skip
                  refine WP.blk ?_
                  refine WP.usreg rfl ?_
                  obtain ⟨x417, hx418, h419⟩ := bindS h412
                  obtain ⟨i420, h421, xs422, b423, o424, n425, hh426, hx427, hv428, hv429, hx430⟩ := f398.at hx418
                  refine U.p rfl rfl (.inl rfl) (S.index rfl ((L 7 rfl rfl).trans hv429) (L 9 rfl rfl) Try.underlying26 ti3 (ix_ge hx418) (ix_lt hx418)) ?_
                  obtain ⟨h431, hh432, ow433⟩ := ow405.ssopen (k := 2) rfl hx427
                  obtain rfl : h431 = h421 := Option.some.inj (hh432.symm.trans hh426)
                  obtain ⟨cs435, hv436, hlt437, hr438, hc439⟩ := ow433.osel (k := 0) rfl hv428 hx430
                  obtain rfl : cs435 = [.int .i64 x417] := hr438
                  refine U.k rfl rfl (.inl rfl) (S.load rfl (L 0 rfl rfl) Try.underlying3 rfl (hc439 0 _ rfl)) nd ?_
                  refine U.p rfl rfl (.inl rfl) (S.assign rfl (L 0 rfl rfl)) ?_
                  refine U.done (Nat.le_of_ble_eq_true rfl) ?_
                  refine WP.seq ?_
                  refine WP.usreg rfl ?_
                  refine U.p rfl rfl (.inl rfl) (S.move rfl (L 4 rfl rfl)) ?_
                  refine U.p rfl rfl (.inl rfl) (S.nilCheck rfl (L 0 rfl rfl)) ?_
                  refine U.p (v := .pointer (some ⟨b29, 1, none⟩)) rfl rfl (.inl rfl) (S.fieldAddr rfl (L 0 rfl rfl) Try.underlying46 rfl ti43 rfl rfl) ?_
                  refine U.k rfl rfl (.inl rfl) (S.load rfl (L 0 rfl rfl) Try.underlying43 rfl ((ow433.own (k := 1) rfl).cell rfl)) nd ?_
                  refine U.p rfl rfl (.inl rfl) (S.move rfl (L 4 rfl rfl)) ?_
                  refine U.p rfl rfl (.inl rfl) (S.sub rfl (L 0 rfl rfl) K) ?_
                  obtain ⟨x440, hx441, h442⟩ := bindS h419
                  obtain ⟨_, hv443, _⟩ := ow433.osel (k := 2) rfl hv367 hx441
                  refine U.p rfl rfl (.inl rfl) (S.index rfl ((L 2 rfl rfl).trans hv443) (L 0 rfl rfl) Try.underlying43 ti39 (ix_ge hx441) (ix_lt hx441)) ?_
                  refine U.p (v := .pointer (some ⟨b363, o364 + Int.toNat (w64 (x417 - 1)) * 4 + 1, none⟩)) rfl rfl (.inl rfl) (S.fieldAddr rfl (L 0 rfl rfl) Try.underlying39 rfl ti4 rfl rfl) ?_
                  obtain ⟨cs444, hv445, hlt446, hr447, hc448⟩ := ow433.osel (k := 2) rfl hv367 hx441
                  obtain rfl : cs444 = [.int .i64 x440.thread, .bool x440.bar, .int .i64 x440.at_, .int .i64 x440.val] := hr447
                  refine U.k rfl rfl (.inl rfl) (S.load rfl (L 0 rfl rfl) Try.underlying4 rfl (hc448 1 _ rfl)) nd ?_
                  refine U.p rfl rfl (.inl rfl) (S.not rfl (L 0 rfl rfl)) ?_
                  refine U.done (Nat.le_of_ble_eq_true rfl) ?_
                  refine WP.cond _ (L 0 rfl rfl) rfl (fun c449 => ?_) (fun c449 => ?_)
                  · have h450 := ifT c449 h442
                    have k451 : x440.bar = false := by simpa using c449
                    refine WP.exit ?_
                    refine sqE (blkE (sqN ?_))
                    have ow452 := ow433.ssclose' (k := 3) (j := 0) rfl rfl (by decide) hh426 hx427
                    exact ⟨_, V403, rfl, ⟨rfl, (.refl _), ow452, h450⟩, (allCons (L 14 rfl rfl) (allCons (L 15 rfl rfl) (allCons (L 16 rfl rfl) (allCons (L 17 rfl rfl) (allCons (L 18 rfl rfl) (allCons (L 19 rfl rfl) (allCons (L 20 rfl rfl) (allCons (L 21 rfl rfl) (allCons (L 22 rfl rfl) allNil)))))))))⟩
                  · have h453 := ifF c449 h442
                    have k454 : x440.bar = true := by simpa using c449
                    refine WP.skip ?_
                    refine sqN ?_
                    refine WP.usreg rfl ?_
                    refine U.p rfl rfl (.inl rfl) (S.move rfl (L 14 rfl rfl)) ?_
                    refine U.p rfl rfl (.inl rfl) (S.move rfl (L 15 rfl rfl)) ?_
                    refine U.p rfl rfl (.inl rfl) (S.nilCheck rfl (L 0 rfl rfl)) ?_
                    refine U.p (v := .pointer (some ⟨b29, 1, none⟩)) rfl rfl (.inl rfl) (S.fieldAddr rfl (L 0 rfl rfl) Try.underlying46 rfl ti43 rfl rfl) ?_
                    refine U.k rfl rfl (.inl rfl) (S.load rfl (L 0 rfl rfl) Try.underlying43 rfl ((ow433.own (k := 1) rfl).cell rfl)) nd ?_
                    refine U.p rfl rfl (.inl rfl) (S.move rfl (L 15 rfl rfl)) ?_
                    refine U.p rfl rfl (.inl rfl) (S.sub rfl (L 0 rfl rfl) K) ?_
                    obtain ⟨x455, hx456, h457⟩ := bindS h453
                    obtain ⟨_, hv458, _⟩ := ow433.osel (k := 2) rfl hv367 hx456
                    refine U.p rfl rfl (.inl rfl) (S.index rfl ((L 2 rfl rfl).trans hv458) (L 0 rfl rfl) Try.underlying43 ti39 (ix_ge hx456) (ix_lt hx456)) ?_
                    refine U.p (v := .pointer (some ⟨b363, o364 + Int.toNat (w64 (x417 - 1)) * 4, none⟩)) rfl rfl (.inl rfl) (S.fieldAddr rfl (L 0 rfl rfl) Try.underlying39 rfl ti3 rfl rfl) ?_
                    obtain ⟨cs459, hv460, hlt461, hr462, hc463⟩ := ow433.osel (k := 2) rfl hv367 hx456
                    obtain rfl : cs459 = [.int .i64 x455.thread, .bool x455.bar, .int .i64 x455.at_, .int .i64 x455.val] := hr462
                    refine U.k rfl rfl (.inl rfl) (S.load rfl (L 0 rfl rfl) Try.underlying3 rfl (hc463 0 _ rfl)) nd ?_
                    refine U.p rfl rfl (.inl rfl) (S.move rfl (L 20 rfl rfl)) ?_
                    have ow464 := ow433.ssclose' (k := 3) (j := 0) rfl rfl (by decide) hh426 hx427
                    have ow465 := ow464.pick 2 rfl
                    have ow466 := ow465.pick 2 rfl
                    have ow467 := ow466.pick 2 rfl
                    obtain ⟨x468, hx469, h470⟩ := bindS h457
                    refine O.call (V := V403) rfl rfl (.inl rfl) rfl en19 (aC (L 10 rfl rfl) (aC (L 1 rfl rfl) (aC (L 0 rfl rfl) aN))) (wk_law16_ahead V403 _ (⟨x61, xs64, xs68⟩ : Tref16_Storage) x455.thread x417 b29 z30 v63 v66 hs67 ow467 _ hx469) (fun _ _ _ _ => nd) (fun v471 V472 le473 hp474 => ?_)
                    obtain ⟨_, rfl, f477, ow475⟩ := hp474
                    refine U.p rfl rfl (.inl rfl) (f477.len rfl (L 0 rfl rfl) Try.underlying26) ?_
                    refine U.p rfl rfl (.inl rfl) (S.move rfl K) ?_
                    refine U.done (Nat.le_of_ble_eq_true rfl) ?_
                    refine WP.blk ?_
                    unfold law16_StorageBars_l4 at h470
                    obtain ⟨n480, hn479⟩ := loopO_some.1 h470
                    refine WP.loopI2 (fun n l V' => ∃ (x478 : Int), l = [(5, .pointer (some ⟨b29, 0, none⟩)), (6, .pointer (some ⟨b45, 0, none⟩)), (9, .int .i64 x343), (97, v63), (98, .int .i64 (xs64.length : Int)), (99, .int .i64 x343), (111, v392), (112, .int .i64 (x389.length : Int)), (113, .int .i64 x399), (138, v471), (139, .int .i64 (x468.length : Int)), (140, .int .i64 x478)] ∧ V472.le V' ∧ Ow V' (.pt b29 (.cells z30 [.int .i64 x61, v63, v66]) :: .os RT_Tref16_Event v63 xs64 :: .oss (RO.os (RT.int .i64)) v66 hs67 xs68 :: .pt b45 (.cells z46 [v70, v73, v77, v81, v85]) :: .os RT_Tref16_Event v70 xs71 :: .oss (RO.os (RT.int .i64)) v73 hs74 xs75 :: .oss (RO.om RT.bool false) v77 hs78 xs79 :: .oss (RO.om (RT.int .i64) false) v81 hs82 xs83 :: .om (RT.int .i64) false v85 xs86 :: Rs) ∧ itO (fun s => law16_StorageBars_l4b xs64 xs71 xs75 xs79 xs83 xs86 x343 x399 x468 s) n x478 = some q407) n480 _ ⟨0, rfl, .refl _, ow475, hn479⟩ (allCons (L 28 rfl rfl) (allCons (L 29 rfl rfl) (allCons (L 30 rfl rfl) (allCons (L 31 rfl rfl) (allCons (L 32 rfl rfl) (allCons (L 33 rfl rfl) (allCons (L 34 rfl rfl) (allCons (L 35 rfl rfl) (allCons (L 36 rfl rfl) (allCons (L 2 rfl rfl) (allCons (L 1 rfl rfl) (allCons (L 0 rfl rfl) allNil)))))))))))) ?_
                    rintro _ _ V481 ⟨x478, rfl, le482, ow483, h487⟩
                    obtain ⟨m484, q485, rfl, h488, e486⟩ := itS h487
                    replace h488 : law16_StorageBars_l4b xs64 xs71 xs75 xs79 xs83 xs86 x343 x399 x468 x478 = some q485 := h488
                    unfold law16_StorageBars_l4b at h488
                    refine WP.usreg rfl ?_
                    refine U.p rfl rfl (.inl rfl) (S.lss rfl (L 11 rfl rfl) (L 10 rfl rfl)) ?_
                    refine U.done (Nat.le_of_ble_eq_true rfl) ?_
                    refine WP.seq ?_
                    refine WP.cond _ (L 0 rfl rfl) rfl (fun c489 => ?_) (fun c489 => ?_)
                    · have h490 := ifT c489 h488
                      refine WP.skip ?_
                      refine sqN ?_
                      refine WP.seq ?_
                      refine WP.blk ?_
                      refine WP.usreg rfl ?_
                      obtain ⟨x491, hx492, h493⟩ := bindS h490
                      obtain ⟨i494, h495, xs496, b497, o498, n499, hh500, hx501, hv502, hv503, hx504⟩ := f477.at hx492
                      refine U.p rfl rfl (.inl rfl) (S.index rfl ((L 10 rfl rfl).trans hv503) (L 12 rfl rfl) Try.underlying26 ti3 (ix_ge hx492) (ix_lt hx492)) ?_
                      obtain ⟨h505, hh506, ow507⟩ := ow483.ssopen (k := 2) rfl hx501
                      obtain rfl : h505 = h495 := Option.some.inj (hh506.symm.trans hh500)
                      obtain ⟨cs509, hv510, hlt511, hr512, hc513⟩ := ow507.osel (k := 0) rfl hv502 hx504
                      obtain rfl : cs509 = [.int .i64 x491] := hr512
                      refine U.k rfl rfl (.inl rfl) (S.load rfl (L 0 rfl rfl) Try.underlying3 rfl (hc513 0 _ rfl)) nd ?_
                      refine U.p rfl rfl (.inl rfl) (S.assign rfl (L 0 rfl rfl)) ?_
                      refine U.done (Nat.le_of_ble_eq_true rfl) ?_
                      refine WP.usreg rfl ?_
                      refine U.p rfl rfl (.inl rfl) (S.assign rfl K) ?_
                      refine U.done (Nat.le_of_ble_eq_true rfl) ?_
                      refine WP.blk ?_
                      have ow514 := ow507.ssclose' (k := 3) (j := 0) rfl rfl (by decide) hh500 hx501
                      unfold law16_StorageBars_l5 at h493
                      obtain ⟨n517, hn516⟩ := loopO_some.1 h493
                      refine WP.loopI2 (fun n l V' => ∃ (x515 : Int), l = [(5, .pointer (some ⟨b29, 0, none⟩)), (6, .pointer (some ⟨b45, 0, none⟩)), (9, .int .i64 x343), (14, .int .i64 x491), (15, .int .i64 x515), (97, v63), (98, .int .i64 (xs64.length : Int)), (99, .int .i64 x343), (111, v392), (112, .int .i64 (x389.length : Int)), (113, .int .i64 x399), (138, v471), (139, .int .i64 (x468.length : Int)), (140, .int .i64 x478)] ∧ V481.le V' ∧ Ow V' (.pt b29 (.cells z30 [.int .i64 x61, v63, v66]) :: .os RT_Tref16_Event v63 xs64 :: .oss (RO.os (RT.int .i64)) v66 hs67 xs68 :: .pt b45 (.cells z46 [v70, v73, v77, v81, v85]) :: .os RT_Tref16_Event v70 xs71 :: .oss (RO.os (RT.int .i64)) v73 hs74 xs75 :: .oss (RO.om RT.bool false) v77 hs78 xs79 :: .oss (RO.om (RT.int .i64) false) v81 hs82 xs83 :: .om (RT.int .i64) false v85 xs86 :: Rs) ∧ itO (fun s => law16_StorageBars_l5b xs64 xs71 xs75 xs79 xs83 xs86 x343 x478 x491 s) n x515 = some q485) n517 _ ⟨0, rfl, .refl _, ow514, hn516⟩ (allCons (L 5 rfl rfl) (allCons (L 6 rfl rfl) (allCons (L 7 rfl rfl) (allCons (L 1 rfl rfl) (allCons (L 0 rfl rfl) (allCons (L 8 rfl rfl) (allCons (L 9 rfl rfl) (allCons (L 10 rfl rfl) (allCons (L 11 rfl rfl) (allCons (L 12 rfl rfl) (allCons (L 13 rfl rfl) (allCons (L 14 rfl rfl) (allCons (L 15 rfl rfl) (allCons (L 16 rfl rfl) allNil)))))))))))))) ?_
                      rintro _ _ V518 ⟨x515, rfl, le519, ow520, h524⟩
                      obtain ⟨m521, q522, rfl, h525, e523⟩ := itS h524
                      replace h525 : law16_StorageBars_l5b xs64 xs71 xs75 xs79 xs83 xs86 x343 x478 x491 x515 = some q522 := h525
                      unfold law16_StorageBars_l5b at h525
                      refine WP.seq ?_
                      refine WP.usreg rfl ?_
                      refine U.p rfl rfl (.inl rfl) (S.move rfl (L 4 rfl rfl)) ?_
                      refine U.p rfl rfl (.inl rfl) (S.move rfl (L 2 rfl rfl)) ?_
                      have ow526 := ow520.pick 8 rfl
                      have ow527 := ow526.pick 8 rfl
                      have ow528 := ow527.pick 8 rfl
                      have ow529 := ow528.pick 8 rfl
                      have ow530 := ow529.pick 8 rfl
                      have ow531 := ow530.pick 8 rfl
                      obtain ⟨x532, hx533, h534⟩ := bindS h525
                      refine O.call (V := V518) rfl rfl (.inl rfl) rfl en11 (aC (L 0 rfl rfl) aN) (wk_storage_Storage_Threads V518 _ (⟨xs71, xs75, xs79, xs83, xs86⟩ : Tstorage_Storage) b45 z46 v70 v73 hs74 v77 hs78 v81 hs82 v85 ow531 _ hx533) (fun _ _ _ _ => nd) (fun v535 V536 le537 hp538 => ?_)
                      obtain ⟨rfl, ow539⟩ := hp538
                      refine U.p rfl rfl (.inl rfl) (S.lss rfl (L 2 rfl rfl) (L 0 rfl rfl)) ?_
                      refine U.done (Nat.le_of_ble_eq_true rfl) ?_
                      refine WP.cond _ (L 0 rfl rfl) rfl (fun c540 => ?_) (fun c540 => ?_)
                      · have h541 := ifT c540 h534
                        refine WP.skip ?_
                        refine sqN ?_
                        refine WP.seq ?_
                        refine WP.blk ?_
                        refine WP.usreg rfl ?_
                        refine U.p rfl rfl (.inl rfl) (S.move rfl (L 5 rfl rfl)) ?_
                        refine U.p rfl rfl (.inl rfl) (S.move rfl (L 9 rfl rfl)) ?_
                        refine U.p rfl rfl (.inl rfl) (S.move rfl (L 6 rfl rfl)) ?_
                        refine U.p rfl rfl (.inl rfl) (S.nilCheck rfl (L 0 rfl rfl)) ?_
                        refine U.p (v := .pointer (some ⟨b29, 1, none⟩)) rfl rfl (.inl rfl) (S.fieldAddr rfl (L 0 rfl rfl) Try.underlying46 rfl ti43 rfl rfl) ?_
                        refine U.k rfl rfl (.inl rfl) (S.load rfl (L 0 rfl rfl) Try.underlying43 rfl ((ow539.own (k := 6) rfl).cell rfl)) nd ?_
                        refine U.p rfl rfl (.inl rfl) (S.move rfl (L 13 rfl rfl)) ?_
                        refine U.p rfl rfl (.inl rfl) (S.sub rfl (L 0 rfl rfl) K) ?_
                        obtain ⟨x542, hx543, h544⟩ := bindS h541
                        obtain ⟨_, hv545, _⟩ := ow539.osel (k := 7) rfl hv367 hx543
                        refine U.p rfl rfl (.inl rfl) (S.index rfl ((L 2 rfl rfl).trans hv545) (L 0 rfl rfl) Try.underlying43 ti39 (ix_ge hx543) (ix_lt hx543)) ?_
                        refine U.p (v := .pointer (some ⟨b363, o364 + Int.toNat (w64 (x491 - 1)) * 4 + 2, none⟩)) rfl rfl (.inl rfl) (S.fieldAddr rfl (L 0 rfl rfl) Try.underlying39 rfl ti3 rfl rfl) ?_
                        obtain ⟨cs546, hv547, hlt548, hr549, hc550⟩ := ow539.osel (k := 7) rfl hv367 hx543
                        obtain rfl : cs546 = [.int .i64 x542.thread, .bool x542.bar, .int .i64 x542.at_, .int .i64 x542.val] := hr549
                        refine U.k rfl rfl (.inl rfl) (S.load rfl (L 0 rfl rfl) Try.underlying3 rfl (hc550 2 _ rfl)) nd ?_
                        have ow551 := ow539.pick 5 rfl
                        have ow552 := ow551.pick 5 rfl
                        have ow553 := ow552.pick 5 rfl
                        have ow554 := ow553.pick 5 rfl
                        have ow555 := ow554.pick 5 rfl
                        have ow556 := ow555.pick 5 rfl
                        obtain ⟨x557, hx558, h559⟩ := bindS h544
                        refine O.call (V := V536) rfl rfl (.inl rfl) rfl en13 (aC (L 10 rfl rfl) (aC (L 9 rfl rfl) (aC (L 0 rfl rfl) aN))) (wk_storage_Storage_Read V536 _ (⟨xs71, xs75, xs79, xs83, xs86⟩ : Tstorage_Storage) x515 x542.at_ b45 z46 v70 v73 hs74 v77 hs78 v81 hs82 v85 ow556 _ hx558) (fun _ _ _ _ => nd) (fun v560 V561 le562 hp563 => ?_)
                        obtain ⟨rfl, ow564⟩ := hp563
                        refine U.p rfl rfl (.inl rfl) (S.move rfl (L 0 rfl rfl)) ?_
                        refine U.p rfl rfl (.inl rfl) (S.extract rfl (L 0 rfl rfl) rfl (Nat.le_of_ble_eq_true rfl)) ?_
                        refine U.p rfl rfl (.inl rfl) (S.extract rfl (L 1 rfl rfl) rfl (Nat.le_of_ble_eq_true rfl)) ?_
                        refine U.p rfl rfl (.inl rfl) (S.assign rfl (L 1 rfl rfl)) ?_
                        refine U.p rfl rfl (.inl rfl) (S.assign rfl (L 1 rfl rfl)) ?_
                        refine U.done (Nat.le_of_ble_eq_true rfl) ?_
                        refine WP.usreg rfl ?_
                        refine U.p rfl rfl (.inl rfl) (S.move rfl (L 21 rfl rfl)) ?_
                        refine U.p rfl rfl (.inl rfl) (S.nilCheck rfl (L 0 rfl rfl)) ?_
                        refine U.p (v := .pointer (some ⟨b29, 1, none⟩)) rfl rfl (.inl rfl) (S.fieldAddr rfl (L 0 rfl rfl) Try.underlying46 rfl ti43 rfl rfl) ?_
                        refine U.k rfl rfl (.inl rfl) (S.load rfl (L 0 rfl rfl) Try.underlying43 rfl ((ow564.own (k := 6) rfl).cell rfl)) nd ?_
                        refine U.p rfl rfl (.inl rfl) (S.move rfl (L 28 rfl rfl)) ?_
                        refine U.p rfl rfl (.inl rfl) (S.sub rfl (L 0 rfl rfl) K) ?_
                        obtain ⟨x565, hx566, h567⟩ := bindS h559
                        obtain ⟨_, hv568, _⟩ := ow564.osel (k := 7) rfl hv367 hx566
                        refine U.p rfl rfl (.inl rfl) (S.index rfl ((L 2 rfl rfl).trans hv568) (L 0 rfl rfl) Try.underlying43 ti39 (ix_ge hx566) (ix_lt hx566)) ?_
                        refine U.p (v := .pointer (some ⟨b363, o364 + Int.toNat (w64 (x491 - 1)) * 4 + 1, none⟩)) rfl rfl (.inl rfl) (S.fieldAddr rfl (L 0 rfl rfl) Try.underlying39 rfl ti4 rfl rfl) ?_
                        obtain ⟨cs569, hv570, hlt571, hr572, hc573⟩ := ow564.osel (k := 7) rfl hv367 hx566
                        obtain rfl : cs569 = [.int .i64 x565.thread, .bool x565.bar, .int .i64 x565.at_, .int .i64 x565.val] := hr572
                        refine U.k rfl rfl (.inl rfl) (S.load rfl (L 0 rfl rfl) Try.underlying4 rfl (hc573 1 _ rfl)) nd ?_
                        refine U.p rfl rfl (.inl rfl) (S.not rfl (L 0 rfl rfl)) ?_
                        refine U.p rfl rfl (.inl rfl) (S.move rfl (L 0 rfl rfl)) ?_
                        obtain ⟨y574, hy575, h576⟩ := bindS h567
                        refine U.joinX 17 (fun e H => ∃ (u577 u578 u579 u580 u581 : Value), ∃ V' : Vw, H = V'.H ∧ V561.le V' ∧ e = [(181, .bool y574), (180, u577), (179, u578), (178, u579), (177, u580), (176, u581)] ∧ Ow V' (.pt b45 (.cells z46 [v70, v73, v77, v81, v85]) :: .os RT_Tref16_Event v70 xs71 :: .oss (RO.os (RT.int .i64)) v73 hs74 xs75 :: .oss (RO.om RT.bool false) v77 hs78 xs79 :: .oss (RO.om (RT.int .i64) false) v81 hs82 xs83 :: .om (RT.int .i64) false v85 xs86 :: .pt b29 (.cells z30 [.int .i64 x61, v63, v66]) :: .os RT_Tref16_Event v63 xs64 :: .oss (RO.os (RT.int .i64)) v66 hs67 xs68 :: Rs)) ?_ ?_
                        · rintro _ _ ⟨u577, u578, u579, u580, u581, V582, rfl, le583, rfl, ow584⟩
                          refine U.p rfl rfl (.inl rfl) (S.move rfl (L 0 rfl rfl)) ?_
                          refine U.joinX 22 (fun e H => ∃ (u585 u586 u587 : Value), H = V582.H ∧ e = [(186, .bool (y574 && (decide (x557.2 < x491)))), (185, u585), (184, u586), (183, u587)]) ?_ ?_
                          · rintro _ _ ⟨u585, u586, u587, rfl, rfl⟩
                            refine U.done (Nat.le_of_ble_eq_true rfl) ?_
                            refine WP.cond _ (L 0 rfl rfl) rfl (fun c591 => ?_) (fun c591 => ?_)
                            · have h592 := ifT c591 h576
                              refine WP.usreg rfl ?_
                              refine U.p rfl rfl (.inl rfl) (S.assign rfl K) ?_
                              refine U.done (Nat.le_of_ble_eq_true rfl) ?_
                              refine WP.ret ?_
                              refine blkR (sqR (sqR (blkR (blkR (sqR (sqR (blkR (blkR (sqR (sqR (blkR (blkR (sqR (sqR (blkR (sqR ?_))))))))))))))))
                              have h593 := exitS h592 e523
                              have h594 := exitS h593 e486
                              have h595 := exitS h594 e408
                              have h596 := exitS h595 e351
                              refine fin.slot (.inr rfl) rfl (L 0 rfl rfl) ⟨V582, rfl, ((((((((((((((le8.trans le26).trans le42).trans le100).trans le347).trans le376).trans le380).trans le394).trans le404).trans le473).trans le482).trans le519).trans le537).trans le562).trans le583), ?_⟩
                              have ow597 := ow584.drop 0 rfl
                              have ow598 := ow597.drop 0 rfl
                              have ow599 := ow598.drop 0 rfl
                              have ow600 := ow599.drop 0 rfl
                              have ow601 := ow600.drop 0 rfl
                              have ow602 := ow601.drop 0 rfl
                              have ow603 := ow602.drop 0 rfl
                              have ow604 := ow603.drop 0 rfl
                              have ow605 := ow604.drop 0 rfl
                              have e606 := Option.some.inj h596
                              subst e606
                              exact ⟨rfl, ow605⟩
                            · have h607 := ifF c591 h576
                              refine WP.skip ?_
                              refine blkN (sqN ?_)
                              refine WP.ureg rfl ?_
                              refine U.p rfl rfl (.inl rfl) (S.move rfl (L 47 rfl rfl)) ?_
                              refine U.p rfl rfl (.inl rfl) (S.add rfl (L 0 rfl rfl) K) ?_
                              refine U.p rfl rfl (.inl rfl) (S.assign rfl (L 0 rfl rfl)) ?_
                              refine U.done (Nat.le_of_ble_eq_true rfl) ?_
                              refine sqN ?_
                              have ow608 := ow584.pick 5 rfl
                              have ow609 := ow608.pick 5 rfl
                              have ow610 := ow609.pick 5 rfl
                              have ow611 := ow610.pick 5 rfl
                              have ow612 := ow611.pick 5 rfl
                              have ow613 := ow612.pick 5 rfl
                              have ow614 := ow613.pick 8 rfl
                              have ow615 := ow614.pick 8 rfl
                              have ow616 := ow615.pick 8 rfl
                              exact ⟨_, V582, rfl, ⟨m521, Nat.lt_succ_self _, w64 (x515 + 1), rfl, (((le519.trans le537).trans le562).trans le583), ow616, backS h607 e523⟩, (allCons (L 46 rfl rfl) (allCons (L 47 rfl rfl) (allCons (L 48 rfl rfl) (allCons (L 49 rfl rfl) (allCons (L 0 rfl rfl) (allCons (L 51 rfl rfl) (allCons (L 52 rfl rfl) (allCons (L 53 rfl rfl) (allCons (L 54 rfl rfl) (allCons (L 55 rfl rfl) (allCons (L 56 rfl rfl) (allCons (L 57 rfl rfl) (allCons (L 58 rfl rfl) (allCons (L 59 rfl rfl) allNil))))))))))))))⟩
                          · intro kk
                            refine bcase (b := y574) (fun g617 => ?_) (fun g617 => ?_)
                            · skip
                              refine U.p rfl rfl (.inr ⟨_, _, _, rfl, rfl, ((L 0 rfl rfl).trans (congrArg Value.bool g617))⟩) (S.move rfl (L 18 rfl rfl)) ?_
                              refine U.p rfl rfl (.inr ⟨_, _, _, rfl, rfl, ((L 1 rfl rfl).trans (congrArg Value.bool g617))⟩) (S.move rfl (L 43 rfl rfl)) ?_
                              refine U.p rfl rfl (.inr ⟨_, _, _, rfl, rfl, ((L 2 rfl rfl).trans (congrArg Value.bool g617))⟩) (S.lss rfl (L 1 rfl rfl) (L 0 rfl rfl)) ?_
                              refine U.p rfl rfl (.inl rfl) (S.pickT rfl ((L 3 rfl rfl).trans (congrArg Value.bool g617)) (L 0 rfl rfl)) ?_
                              exact kk [(186, .bool (decide (x557.2 < x491))), (185, .bool (decide (x557.2 < x491))), (184, .int .i64 x491), (183, .int .i64 x557.2)] _ ⟨.bool (decide (x557.2 < x491)), .int .i64 x491, .int .i64 x557.2, rfl, (by rw [g617, Bool.true_and])⟩
                            · skip
                              refine U.x rfl rfl rfl rfl ((L 0 rfl rfl).trans (congrArg Value.bool g617)) (by decide) ?_
                              refine U.x rfl rfl rfl rfl ((L 1 rfl rfl).trans (congrArg Value.bool g617)) (by decide) ?_
                              refine U.x rfl rfl rfl rfl ((L 2 rfl rfl).trans (congrArg Value.bool g617)) (by decide) ?_
                              refine U.p rfl rfl (.inl rfl) (S.pickF rfl ((L 3 rfl rfl).trans (congrArg Value.bool g617)) K) ?_
                              exact kk [(186, .bool false), (185, .tuple #[]), (184, .tuple #[]), (183, .tuple #[])] _ ⟨.tuple #[], .tuple #[], .tuple #[], rfl, (by rw [g617, Bool.false_and])⟩
                        · intro kk
                          refine bcase (b := !x565.bar) (fun g618 => ?_) (fun g618 => ?_)
                          · have h619 := ifT g618 hy575
                            have k620 : x565.bar = false := by simpa using g618
                            refine U.p rfl rfl (.inr ⟨_, _, _, rfl, rfl, ((L 0 rfl rfl).trans (congrArg Value.bool g618))⟩) (S.move rfl (L 33 rfl rfl)) ?_
                            refine U.p rfl rfl (.inr ⟨_, _, _, rfl, rfl, ((L 1 rfl rfl).trans (congrArg Value.bool g618))⟩) (S.move rfl (L 37 rfl rfl)) ?_
                            refine U.p rfl rfl (.inr ⟨_, _, _, rfl, rfl, ((L 2 rfl rfl).trans (congrArg Value.bool g618))⟩) (S.move rfl (L 36 rfl rfl)) ?_
                            refine U.p rfl rfl (.inr ⟨_, _, _, rfl, rfl, ((L 3 rfl rfl).trans (congrArg Value.bool g618))⟩) (S.add rfl (L 0 rfl rfl) K) ?_
                            have ow621 := ow564.pick 5 rfl
                            have ow622 := ow621.pick 5 rfl
                            have ow623 := ow622.pick 5 rfl
                            have ow624 := ow623.pick 5 rfl
                            have ow625 := ow624.pick 5 rfl
                            have ow626 := ow625.pick 5 rfl
                            obtain ⟨x627, hx628, h629⟩ := bindS h619
                            refine O.call (V := V561) rfl rfl (.inr ⟨_, _, _, rfl, rfl, ((L 4 rfl rfl).trans (congrArg Value.bool g618))⟩) rfl en20 (aC (L 3 rfl rfl) (aC (L 2 rfl rfl) (aC (L 0 rfl rfl) aN))) (wk_storage_Storage_Seen V561 _ (⟨xs71, xs75, xs79, xs83, xs86⟩ : Tstorage_Storage) x515 (w64 (x343 + 1)) b45 z46 v70 v73 hs74 v77 hs78 v81 hs82 v85 ow626 _ hx628) (fun _ _ _ _ => nd) (fun v630 V631 le632 hp633 => ?_)
                            obtain ⟨rfl, ow634⟩ := hp633
                            refine U.p rfl rfl (.inl rfl) (S.pickT rfl ((L 5 rfl rfl).trans (congrArg Value.bool g618)) (L 0 rfl rfl)) ?_
                            have e635 := Option.some.inj h629
                            subst e635
                            exact kk [(181, .bool x627), (180, .bool x627), (179, .int .i64 (w64 (x343 + 1))), (178, .int .i64 x343), (177, .int .i64 x515), (176, .pointer (some ⟨b45, 0, none⟩))] _ ⟨.bool x627, .int .i64 (w64 (x343 + 1)), .int .i64 x343, .int .i64 x515, .pointer (some ⟨b45, 0, none⟩), V631, rfl, le632, rfl, ow634⟩
                          · have h636 := ifF g618 hy575
                            have k637 : x565.bar = true := by simpa using g618
                            refine U.x rfl rfl rfl rfl ((L 0 rfl rfl).trans (congrArg Value.bool g618)) (by decide) ?_
                            refine U.x rfl rfl rfl rfl ((L 1 rfl rfl).trans (congrArg Value.bool g618)) (by decide) ?_
                            refine U.x rfl rfl rfl rfl ((L 2 rfl rfl).trans (congrArg Value.bool g618)) (by decide) ?_
                            refine U.x rfl rfl rfl rfl ((L 3 rfl rfl).trans (congrArg Value.bool g618)) (by decide) ?_
                            refine U.x rfl rfl rfl rfl ((L 4 rfl rfl).trans (congrArg Value.bool g618)) (by decide) ?_
                            refine U.p rfl rfl (.inl rfl) (S.pickF rfl ((L 5 rfl rfl).trans (congrArg Value.bool g618)) K) ?_
                            have e638 := Option.some.inj h636
                            subst e638
                            exact kk [(181, .bool false), (180, .tuple #[]), (179, .tuple #[]), (178, .tuple #[]), (177, .tuple #[]), (176, .tuple #[])] _ ⟨.tuple #[], .tuple #[], .tuple #[], .tuple #[], .tuple #[], V561, rfl, (.refl _), rfl, ow564⟩
                      · have h639 := ifF c540 h534
                        refine WP.exit ?_
                        refine sqE (sqE (blkE (blkN (sqN ?_))))
                        have h640 := exitS h639 e523
                        refine WP.ureg rfl ?_
                        refine U.p rfl rfl (.inl rfl) (S.add rfl (L 17 rfl rfl) K) ?_
                        refine U.p rfl rfl (.inl rfl) (S.move rfl (L 0 rfl rfl)) ?_
                        refine U.done (Nat.le_of_ble_eq_true rfl) ?_
                        refine sqN ?_
                        have ow641 := ow539.pick 5 rfl
                        have ow642 := ow641.pick 5 rfl
                        have ow643 := ow642.pick 5 rfl
                        have ow644 := ow643.pick 5 rfl
                        have ow645 := ow644.pick 5 rfl
                        have ow646 := ow645.pick 5 rfl
                        have ow647 := ow646.pick 8 rfl
                        have ow648 := ow647.pick 8 rfl
                        have ow649 := ow648.pick 8 rfl
                        exact ⟨_, V536, rfl, ⟨m484, Nat.lt_succ_self _, w64 (x478 + 1), rfl, ((le482.trans le519).trans le537), ow649, backS h640 e486⟩, (allCons (L 6 rfl rfl) (allCons (L 7 rfl rfl) (allCons (L 8 rfl rfl) (allCons (L 11 rfl rfl) (allCons (L 12 rfl rfl) (allCons (L 13 rfl rfl) (allCons (L 14 rfl rfl) (allCons (L 15 rfl rfl) (allCons (L 16 rfl rfl) (allCons (L 17 rfl rfl) (allCons (L 18 rfl rfl) (allCons (L 0 rfl rfl) allNil))))))))))))⟩
                    · have h650 := ifF c489 h488
                      refine WP.exit ?_
                      refine sqE (sqE (blkE (blkN (sqN ?_))))
                      have h651 := exitS h650 e486
                      exact ⟨_, V481, rfl, ⟨rfl, (le473.trans le482), ow483, h651⟩, (allCons (L 1 rfl rfl) (allCons (L 2 rfl rfl) (allCons (L 3 rfl rfl) (allCons (L 4 rfl rfl) (allCons (L 5 rfl rfl) (allCons (L 6 rfl rfl) (allCons (L 7 rfl rfl) (allCons (L 8 rfl rfl) (allCons (L 9 rfl rfl) allNil)))))))))⟩
              · have h652 := ifF c411 h410
                refine WP.exit ?_
                refine sqE (sqE (blkE (blkN (sqN ?_))))
                have h653 := exitS h652 e408
                exact ⟨_, V403, rfl, ⟨rfl, (((le376.trans le380).trans le394).trans le404), ow405, h653⟩, (allCons (L 1 rfl rfl) (allCons (L 2 rfl rfl) (allCons (L 4 rfl rfl) (allCons (L 5 rfl rfl) (allCons (L 6 rfl rfl) allNil)))))⟩
        · have h654 := ifF c354 h353
          refine WP.exit ?_
          refine sqE (sqE (blkE (sqN ?_)))
          have h655 := exitS h654 e351
          refine WP.usreg rfl ?_
          refine U.p rfl rfl (.inl rfl) (S.assign rfl K) ?_
          refine U.done (Nat.le_of_ble_eq_true rfl) ?_
          refine WP.ret ?_
          refine fin.slot (.inr rfl) rfl (L 0 rfl rfl) ⟨V346, rfl, ((((le8.trans le26).trans le42).trans le100).trans le347), ?_⟩
          have ow656 := ow348.drop 0 rfl
          have ow657 := ow656.drop 0 rfl
          have ow658 := ow657.drop 0 rfl
          have ow659 := ow658.drop 0 rfl
          have ow660 := ow659.drop 0 rfl
          have ow661 := ow660.drop 0 rfl
          have ow662 := ow661.drop 0 rfl
          have ow663 := ow662.drop 0 rfl
          have ow664 := ow663.drop 0 rfl
          have e665 := Option.some.inj h655
          subst e665
          exact ⟨rfl, ow664⟩

set_option maxHeartbeats 4000000 in
set_option maxRecDepth 10000 in
theorem wk_storage_Storage_Last (V : Vw) (Rs : List At) (p0 : Tstorage_Storage) (p1 : Int) (b1 : Nat) (z2 : Nat) (v4 : Value) (v6 : Value) (hs7 : List Value) (v9 : Value) (hs10 : List Value) (v12 : Value) (hs13 : List Value) (v15 : Value) (ow : Ow V (.pt b1 (.cells z2 [v4, v6, v9, v12, v15]) :: .os RT_Tref16_Event v4 p0.events :: .oss (RO.os (RT.int .i64)) v6 hs7 p0.seen :: .oss (RO.om RT.bool false) v9 hs10 p0.has :: .oss (RO.om (RT.int .i64) false) v12 hs13 p0.now :: .om (RT.int .i64) false v15 p0.last :: Rs)) (r : Int) (h : storage_Storage_Last p0 p1 = some r) : ∃ v V', Cl Try.prog 0 21 #[.pointer (some ⟨b1, 0, none⟩), .int .i64 p1] V.H v V'.H ∧ V.le V' ∧ (v = .int .i64 r ∧ Ow V' (.pt b1 (.cells z2 [v4, v6, v9, v12, v15]) :: .os RT_Tref16_Event v4 p0.events :: .oss (RO.os (RT.int .i64)) v6 hs7 p0.seen :: .oss (RO.om RT.bool false) v9 hs10 p0.has :: .oss (RO.om (RT.int .i64) false) v12 hs13 p0.now :: .om (RT.int .i64) false v15 p0.last :: Rs)) := by
  refine Ct.of (Nat.zero_le _) Try.func21 rfl (Nat.le_of_ble_eq_true rfl) ?_
  unfold storage_Storage_Last at h
  refine WP.usreg rfl ?_
  refine U.p rfl rfl (.inl rfl) (S.assign rfl K) ?_
  refine U.done (Nat.le_of_ble_eq_true rfl) ?_
  refine WP.seq ?_
  refine WP.usreg rfl ?_
  refine U.p rfl rfl (.inl rfl) (S.move rfl (L 1 rfl rfl)) ?_
  refine U.p rfl rfl (.inl rfl) (S.nilP rfl (.inl rfl) (L 0 rfl rfl) K Try.underlying24) ?_
  refine U.done (Nat.le_of_ble_eq_true rfl) ?_
  refine WP.cond false (L 0 rfl rfl) rfl (fun h => by cases h) (fun _ => ?_)
  refine WP.skip ?_
  refine sqN ?_
  refine WP.usreg rfl ?_
  refine U.p rfl rfl (.inl rfl) (S.move rfl (L 3 rfl rfl)) ?_
  refine U.p rfl rfl (.inl rfl) (S.nilCheck rfl (L 0 rfl rfl)) ?_
  refine U.p (v := .pointer (some ⟨b1, 4, none⟩)) rfl rfl (.inl rfl) (S.fieldAddr rfl (L 0 rfl rfl) Try.underlying62 rfl ti58 rfl rfl) ?_
  refine U.k rfl rfl (.inl rfl) (S.load rfl (L 0 rfl rfl) Try.underlying58 rfl ((ow.own (k := 0) rfl).cell rfl)) nd ?_
  refine U.p rfl rfl (.inl rfl) (S.move rfl (L 8 rfl rfl)) ?_
  refine O.lookup1 (k := 5) 0 ow rfl rfl rfl (.inl rfl) rfl (L 1 rfl rfl) (L 0 rfl rfl) Try.underlying58 Try.underlying3 ti3 rfl (cell_vrel rfl) (fun b17 hlt19 => nd) (fun b17 u18 hlt19 hr20 => ?_)
  obtain rfl : u18 = .int .i64 ((mG p0.last p1).getD 0) := (List.cons.inj (vrel_cell hr20)).1
  refine U.p rfl rfl (.inl rfl) (S.assign rfl (L 0 rfl rfl)) ?_
  refine U.done (Nat.le_of_ble_eq_true rfl) ?_
  refine WP.ret ?_
  refine fin.slot (.inr rfl) rfl (L 0 rfl rfl) ⟨V, rfl, (.refl _), ?_⟩
  have e22 := Option.some.inj h
  subst e22
  exact ⟨rfl, ow⟩

set_option maxHeartbeats 4000000 in
set_option maxRecDepth 10000 in
theorem wk_law16_StorageOwn (V : Vw) (Rs : List At) (p0 : Int) (p1 : List Tlaw16_Call) (p2 : Int) (p3 : Int) (p4 : Int) (v1 : Value) (f2 : Fz RT_Tlaw16_Call V v1 p1) (ow : Ow V (Rs)) (r : Bool) (h : law16_StorageOwn p0 p1 p2 p3 p4 = some r) : ∃ v V', Cl Try.prog 0 5 #[.int .i64 p0, v1, .int .i64 p2, .int .i64 p3, .int .i64 p4] V.H v V'.H ∧ V.le V' ∧ (v = .bool r ∧ Ow V' (Rs)) := by
  refine Ct.of (Nat.zero_le _) Try.func5 rfl (Nat.le_of_ble_eq_true rfl) ?_
  unfold law16_StorageOwn at h
  refine WP.usreg rfl ?_
  refine U.p rfl rfl (.inl rfl) (S.assign rfl K) ?_
  refine U.done (Nat.le_of_ble_eq_true rfl) ?_
  refine WP.seq ?_
  refine WP.usreg rfl ?_
  obtain ⟨x3, hx4, h5⟩ := bindS h
  refine O.call (V := V) rfl rfl (.inl rfl) rfl en9 aN (wk_law16_alive V _ ow _ hx4) (fun _ _ _ _ => nd) (fun v6 V7 le8 hp9 => ?_)
  obtain ⟨rfl, ow10⟩ := hp9
  refine U.p rfl rfl (.inl rfl) (S.not rfl (L 0 rfl rfl)) ?_
  refine U.done (Nat.le_of_ble_eq_true rfl) ?_
  refine WP.cond _ (L 0 rfl rfl) rfl (fun c11 => ?_) (fun c11 => ?_)
  · have h12 := ifT c11 h5
    have k13 : x3 = false := by simpa using c11
    refine WP.usreg rfl ?_
    refine U.p rfl rfl (.inl rfl) (S.assign rfl K) ?_
    refine U.done (Nat.le_of_ble_eq_true rfl) ?_
    refine WP.ret ?_
    refine sqR ?_
    refine fin.slot (.inr rfl) rfl (L 0 rfl rfl) ⟨V7, rfl, le8, ?_⟩
    have e14 := Option.some.inj h12
    subst e14
    exact ⟨rfl, ow10⟩
  · have h15 := ifF c11 h5
    have k16 : x3 = true := by simpa using c11
    refine WP.skip ?_
    refine sqN ?_
    refine WP.seq ?_
    refine WP.usreg rfl ?_
    refine U.p rfl rfl (.inl rfl) (S.move rfl (L 4 rfl rfl)) ?_
    refine U.p rfl rfl (.inl rfl) (f2.1.len rfl (L 0 rfl rfl) Try.underlying22) ?_
    refine U.p rfl rfl (.inl rfl) (S.gtr rfl (L 0 rfl rfl) K) ?_
    refine U.done (Nat.le_of_ble_eq_true rfl) ?_
    refine WP.cond _ (L 0 rfl rfl) rfl (fun c17 => ?_) (fun c17 => ?_)
    · have h18 := ifT c17 h15
      refine WP.usreg rfl ?_
      refine U.p rfl rfl (.inl rfl) (S.assign rfl K) ?_
      refine U.done (Nat.le_of_ble_eq_true rfl) ?_
      refine WP.ret ?_
      refine sqR ?_
      refine fin.slot (.inr rfl) rfl (L 0 rfl rfl) ⟨V7, rfl, le8, ?_⟩
      have e19 := Option.some.inj h18
      subst e19
      exact ⟨rfl, ow10⟩
    · have h20 := ifF c17 h15
      refine WP.skip ?_
      refine sqN ?_
      refine WP.usreg rfl ?_
      refine U.p rfl rfl (.inl rfl) (S.move rfl (L 6 rfl rfl)) ?_
      refine U.p rfl rfl (.inl rfl) (S.move rfl (L 8 rfl rfl)) ?_
      have f21 := f2.up le8
      obtain ⟨x22, hx23, h24⟩ := bindS h20
      refine O.call (V := V7) rfl rfl (.inl rfl) rfl en12 (aC (L 1 rfl rfl) (aC (L 0 rfl rfl) aN)) (wk_law16_made V7 _ p0 p1 v1 f21 ow10 _ hx23) (fun _ _ _ _ => nd) (fun v25 V26 le27 hp28 => ?_)
      obtain ⟨b30, z31, v33, v35, hs36, v38, hs39, v41, hs42, v44, rfl, ow29⟩ := hp28
      refine U.p rfl rfl (.inl rfl) (S.assign rfl (L 0 rfl rfl)) ?_
      refine U.done (Nat.le_of_ble_eq_true rfl) ?_
      refine WP.usreg rfl ?_
      refine O.alloc ow29 rfl rfl (.inl rfl) rfl ti50 rfl rfl nd (fun b46 V47 le48 ow49 => ?_)
      have ow51 := ow49.toOa (R := (RT.int .i64)) (k := 0) rfl (Rows.repl (r := [.int .i64 0]) (z := 0) rfl 8 rfl) (List.length_replicate)
      refine U.done (Nat.le_of_ble_eq_true rfl) ?_
      refine WP.seq ?_
      refine WP.usreg rfl ?_
      refine U.p rfl rfl (.inl rfl) (S.assign rfl K) ?_
      refine U.done (Nat.le_of_ble_eq_true rfl) ?_
      refine WP.blk ?_
      have ow55 := ow51.pick 0 rfl
      have ow56 := ow55.pick 6 rfl
      have ow57 := ow56.pick 6 rfl
      have ow58 := ow57.pick 6 rfl
      have ow59 := ow58.pick 6 rfl
      have ow60 := ow59.pick 6 rfl
      have ow61 := ow60.pick 6 rfl
      unfold law16_StorageOwn_l1 at h24
      obtain ⟨n63, hn62⟩ := loopO_some.1 h24
      refine WP.loopI2 (fun n l V' => ∃ (xs53 : List Int) (x54 : Int), l = [(2, .int .i64 p2), (3, .int .i64 p3), (4, .int .i64 p4), (11, .pointer (some ⟨b30, 0, none⟩)), (12, .pointer (some ⟨b46, 0, none⟩)), (13, .int .i64 x54)] ∧ V47.le V' ∧ Ow V' (.pt b30 (.cells z31 [v33, v35, v38, v41, v44]) :: .os RT_Tref16_Event v33 x22.events :: .oss (RO.os (RT.int .i64)) v35 hs36 x22.seen :: .oss (RO.om RT.bool false) v38 hs39 x22.has :: .oss (RO.om (RT.int .i64) false) v41 hs42 x22.now :: .om (RT.int .i64) false v44 x22.last :: .oa (RT.int .i64) b46 8 8 xs53 :: Rs) ∧ itO (fun s => law16_StorageOwn_l1b p2 p3 p4 x22 s.1 s.2) n (xs53, x54) = some r) n63 _ ⟨List.replicate 8 0, 0, rfl, .refl _, ow61, hn62⟩ (allCons (L 14 rfl rfl) (allCons (L 15 rfl rfl) (allCons (L 16 rfl rfl) (allCons (L 2 rfl rfl) (allCons (L 1 rfl rfl) (allCons (L 0 rfl rfl) allNil)))))) ?_
      rintro _ _ V64 ⟨xs53, x54, rfl, le65, ow66, h70⟩
      obtain ⟨m67, q68, rfl, h71, e69⟩ := itS h70
      replace h71 : law16_StorageOwn_l1b p2 p3 p4 x22 xs53 x54 = some q68 := h71
      unfold law16_StorageOwn_l1b at h71
      refine WP.seq ?_
      refine WP.usreg rfl ?_
      refine U.p rfl rfl (.inl rfl) (S.move rfl (L 5 rfl rfl)) ?_
      refine U.p rfl rfl (.inl rfl) (S.move rfl (L 4 rfl rfl)) ?_
      have ow72 := ow66.pick 5 rfl
      have ow73 := ow72.pick 5 rfl
      have ow74 := ow73.pick 5 rfl
      have ow75 := ow74.pick 5 rfl
      have ow76 := ow75.pick 5 rfl
      have ow77 := ow76.pick 5 rfl
      obtain ⟨x78, hx79, h80⟩ := bindS h71
      refine O.call (V := V64) rfl rfl (.inl rfl) rfl en11 (aC (L 0 rfl rfl) aN) (wk_storage_Storage_Threads V64 _ x22 b30 z31 v33 v35 hs36 v38 hs39 v41 hs42 v44 ow77 _ hx79) (fun _ _ _ _ => nd) (fun v81 V82 le83 hp84 => ?_)
      obtain ⟨rfl, ow85⟩ := hp84
      refine U.p rfl rfl (.inl rfl) (S.lss rfl (L 2 rfl rfl) (L 0 rfl rfl)) ?_
      refine U.done (Nat.le_of_ble_eq_true rfl) ?_
      refine WP.cond _ (L 0 rfl rfl) rfl (fun c86 => ?_) (fun c86 => ?_)
      · have h87 := ifT c86 h80
        refine WP.skip ?_
        refine sqN ?_
        refine WP.seq ?_
        refine WP.blk ?_
        refine WP.ureg rfl ?_
        refine U.p rfl rfl (.inl rfl) (S.move rfl (L 9 rfl rfl)) ?_
        refine U.p rfl rfl (.inl rfl) (S.move rfl (L 8 rfl rfl)) ?_
        refine U.p rfl rfl (.inl rfl) (S.move rfl (L 11 rfl rfl)) ?_
        refine U.p rfl rfl (.inl rfl) (S.move rfl (L 8 rfl rfl)) ?_
        have ow88 := ow85.pick 5 rfl
        have ow89 := ow88.pick 5 rfl
        have ow90 := ow89.pick 5 rfl
        have ow91 := ow90.pick 5 rfl
        have ow92 := ow91.pick 5 rfl
        have ow93 := ow92.pick 5 rfl
        obtain ⟨x94, hx95, h96⟩ := bindS h87
        refine O.call (V := V82) rfl rfl (.inl rfl) rfl en13 (aC (L 2 rfl rfl) (aC (L 1 rfl rfl) (aC (L 0 rfl rfl) aN))) (wk_storage_Storage_Read V82 _ x22 x54 p3 b30 z31 v33 v35 hs36 v38 hs39 v41 hs42 v44 ow93 _ hx95) (fun _ _ _ _ => nd) (fun v97 V98 le99 hp100 => ?_)
        obtain ⟨rfl, ow101⟩ := hp100
        refine U.p rfl rfl (.inl rfl) (S.move rfl (L 0 rfl rfl)) ?_
        refine U.p rfl rfl (.inl rfl) (S.extract rfl (L 0 rfl rfl) rfl (Nat.le_of_ble_eq_true rfl)) ?_
        refine U.p rfl rfl (.inl rfl) (S.extract rfl (L 1 rfl rfl) rfl (Nat.le_of_ble_eq_true rfl)) ?_
        obtain ⟨x102, hx103, h104⟩ := bindS h96
        refine U.p rfl rfl (.inl rfl) (S.indexA rfl (L 16 rfl rfl) (L 7 rfl rfl) Try.underlying50 ti3 (ix_ge hx103) (by have q1 := ix_lt hx103; have q2 := ow101.oalen (k := 6) rfl; omega)) ?_
        obtain ⟨cs105, hlt107, hr108, hc109⟩ := ow101.oael (k := 6) rfl hx103
        obtain rfl : cs105 = [.int .i64 x102] := hr108
        refine O.storeA (k := 6) (R := (RT.int .i64)) (j := 0) (y := x94.2) (cs := [.int .i64 x94.2]) ow101 rfl  rfl rfl (.inl rfl) rfl (L 0 rfl rfl) (L 1 rfl rfl) ti3 hx103 (by simp [topV]) rfl rfl rfl (full rfl) (fun _ _ => nd) (fun V110 le111 ow112 => ?_)
        refine U.done (Nat.le_of_ble_eq_true rfl) ?_
        refine blkN (sqN ?_)
        refine WP.ureg rfl ?_
        refine U.p rfl rfl (.inl rfl) (S.move rfl (L 18 rfl rfl)) ?_
        refine U.p rfl rfl (.inl rfl) (S.add rfl (L 0 rfl rfl) K) ?_
        refine U.p rfl rfl (.inl rfl) (S.assign rfl (L 0 rfl rfl)) ?_
        refine U.done (Nat.le_of_ble_eq_true rfl) ?_
        refine sqN ?_
        exact ⟨_, V110, rfl, ⟨m67, Nat.lt_succ_self _, xs53.set (Int.toNat x54) x94.2, w64 (x54 + 1), rfl, (((le65.trans le83).trans le99).trans le111), ow112, backS h104 e69⟩, (allCons (L 16 rfl rfl) (allCons (L 17 rfl rfl) (allCons (L 18 rfl rfl) (allCons (L 19 rfl rfl) (allCons (L 20 rfl rfl) (allCons (L 0 rfl rfl) allNil))))))⟩
      · have h113 := ifF c86 h80
        refine WP.exit ?_
        refine sqE (sqE (blkE (sqN ?_)))
        have h114 := exitS h113 e69
        refine WP.usreg rfl ?_
        refine U.p rfl rfl (.inl rfl) (S.move rfl (L 7 rfl rfl)) ?_
        refine U.p rfl rfl (.inl rfl) (S.move rfl (L 5 rfl rfl)) ?_
        refine U.p rfl rfl (.inl rfl) (S.move rfl (L 7 rfl rfl)) ?_
        refine U.p rfl rfl (.inl rfl) (S.move rfl (L 9 rfl rfl)) ?_
        have ow115 := ow85.pick 5 rfl
        have ow116 := ow115.pick 5 rfl
        have ow117 := ow116.pick 5 rfl
        have ow118 := ow117.pick 5 rfl
        have ow119 := ow118.pick 5 rfl
        have ow120 := ow119.pick 5 rfl
        obtain ⟨x121, hx122, h123⟩ := bindS h114
        refine O.call (V := V82) rfl rfl (.inl rfl) rfl en15 (aC (L 3 rfl rfl) (aC (L 2 rfl rfl) (aC (L 1 rfl rfl) (aC (L 0 rfl rfl) aN)))) (wk_storage_Storage_Write V82 _ x22 p2 p3 p4 b30 z31 v33 v35 hs36 v38 hs39 v41 hs42 v44 ow120 _ hx122) (fun _ _ _ _ => nd) (fun v124 V125 le126 hp127 => ?_)
        obtain ⟨v129, v131, hs132, v134, hs135, v137, hs138, v140, rfl, ow128⟩ := hp127
        refine U.p rfl rfl (.inl rfl) (S.assign rfl (L 0 rfl rfl)) ?_
        refine U.done (Nat.le_of_ble_eq_true rfl) ?_
        refine WP.seq ?_
        refine WP.usreg rfl ?_
        refine U.p rfl rfl (.inl rfl) (S.move rfl (L 0 rfl rfl)) ?_
        refine U.p rfl rfl (.inl rfl) (S.eqlI rfl (L 0 rfl rfl) K) ?_
        refine U.done (Nat.le_of_ble_eq_true rfl) ?_
        refine WP.cond _ (L 0 rfl rfl) rfl (fun c142 => ?_) (fun c142 => ?_)
        · have h143 := ifT c142 h123
          refine WP.usreg rfl ?_
          refine U.p rfl rfl (.inl rfl) (S.move rfl (L 12 rfl rfl)) ?_
          refine U.p rfl rfl (.inl rfl) (S.lss rfl (L 0 rfl rfl) K) ?_
          refine U.p rfl rfl (.inl rfl) (S.move rfl (L 0 rfl rfl)) ?_
          obtain ⟨y144, hy145, h146⟩ := bindS h143
          refine U.joinX 8 (fun e H => ∃ (u147 u148 u149 u150 : Value), ∃ V' : Vw, H = V'.H ∧ V125.le V' ∧ e = [(55, .bool y144), (54, u147), (53, u148), (52, u149), (51, u150)] ∧ Ow V' (.pt b30 (.cells z31 [v129, v131, v134, v137, v140]) :: .os RT_Tref16_Event v129 x121.2.events :: .oss (RO.os (RT.int .i64)) v131 hs132 x121.2.seen :: .oss (RO.om RT.bool false) v134 hs135 x121.2.has :: .oss (RO.om (RT.int .i64) false) v137 hs138 x121.2.now :: .om (RT.int .i64) false v140 x121.2.last :: .oa (RT.int .i64) b46 8 8 xs53 :: Rs)) ?_ ?_
          · rintro _ _ ⟨u147, u148, u149, u150, V151, rfl, le152, rfl, ow153⟩
            refine U.p rfl rfl (.inl rfl) (S.assign rfl (L 0 rfl rfl)) ?_
            refine U.done (Nat.le_of_ble_eq_true rfl) ?_
            refine WP.ret ?_
            refine sqR ?_
            refine fin.slot (.inr rfl) rfl (L 0 rfl rfl) ⟨V151, rfl, ((((((le8.trans le27).trans le48).trans le65).trans le83).trans le126).trans le152), ?_⟩
            have ow154 := ow153.drop 0 rfl
            have ow155 := ow154.drop 0 rfl
            have ow156 := ow155.drop 0 rfl
            have ow157 := ow156.drop 0 rfl
            have ow158 := ow157.drop 0 rfl
            have ow159 := ow158.drop 0 rfl
            have ow160 := ow159.drop 0 rfl
            have e161 := Option.some.inj h146
            subst e161
            exact ⟨rfl, ow160⟩
          · intro kk
            refine bcase (b := decide (p2 < 0)) (fun g162 => ?_) (fun g162 => ?_)
            · have h163 := ifT g162 hy145
              refine U.x rfl rfl rfl rfl ((L 0 rfl rfl).trans (congrArg Value.bool g162)) (by decide) ?_
              refine U.x rfl rfl rfl rfl ((L 1 rfl rfl).trans (congrArg Value.bool g162)) (by decide) ?_
              refine U.x rfl rfl rfl rfl ((L 2 rfl rfl).trans (congrArg Value.bool g162)) (by decide) ?_
              refine U.x rfl rfl rfl rfl ((L 3 rfl rfl).trans (congrArg Value.bool g162)) (by decide) ?_
              refine U.p rfl rfl (.inl rfl) (S.pickT rfl ((L 4 rfl rfl).trans (congrArg Value.bool g162)) K) ?_
              have e164 := Option.some.inj h163
              subst e164
              exact kk [(55, .bool true), (54, .tuple #[]), (53, .tuple #[]), (52, .tuple #[]), (51, .tuple #[])] _ ⟨.tuple #[], .tuple #[], .tuple #[], .tuple #[], V125, rfl, (.refl _), rfl, ow128⟩
            · have h165 := ifF g162 hy145
              refine U.p rfl rfl (.inr ⟨_, _, _, rfl, rfl, ((L 0 rfl rfl).trans (congrArg Value.bool g162))⟩) (S.move rfl (L 15 rfl rfl)) ?_
              refine U.p rfl rfl (.inr ⟨_, _, _, rfl, rfl, ((L 1 rfl rfl).trans (congrArg Value.bool g162))⟩) (S.move rfl (L 19 rfl rfl)) ?_
              have ow166 := ow128.pick 5 rfl
              have ow167 := ow166.pick 5 rfl
              have ow168 := ow167.pick 5 rfl
              have ow169 := ow168.pick 5 rfl
              have ow170 := ow169.pick 5 rfl
              have ow171 := ow170.pick 5 rfl
              obtain ⟨x172, hx173, h174⟩ := bindS h165
              refine O.call (V := V125) rfl rfl (.inr ⟨_, _, _, rfl, rfl, ((L 2 rfl rfl).trans (congrArg Value.bool g162))⟩) rfl en11 (aC (L 0 rfl rfl) aN) (wk_storage_Storage_Threads V125 _ x121.2 b30 z31 v129 v131 hs132 v134 hs135 v137 hs138 v140 ow171 _ hx173) (fun _ _ _ _ => nd) (fun v175 V176 le177 hp178 => ?_)
              obtain ⟨rfl, ow179⟩ := hp178
              refine U.p rfl rfl (.inr ⟨_, _, _, rfl, rfl, ((L 3 rfl rfl).trans (congrArg Value.bool g162))⟩) (S.geq rfl (L 2 rfl rfl) (L 0 rfl rfl)) ?_
              refine U.p rfl rfl (.inl rfl) (S.pickF rfl ((L 4 rfl rfl).trans (congrArg Value.bool g162)) (L 0 rfl rfl)) ?_
              have e180 := Option.some.inj h174
              subst e180
              exact kk [(55, .bool (decide (x172 ≤ p2))), (54, .bool (decide (x172 ≤ p2))), (53, .int .i64 x172), (52, .pointer (some ⟨b30, 0, none⟩)), (51, .int .i64 p2)] _ ⟨.bool (decide (x172 ≤ p2)), .int .i64 x172, .pointer (some ⟨b30, 0, none⟩), .int .i64 p2, V176, rfl, le177, rfl, ow179⟩
        · have h181 := ifF c142 h123
          refine WP.skip ?_
          refine sqN ?_
          refine WP.seq ?_
          refine WP.usreg rfl ?_
          refine U.p rfl rfl (.inl rfl) (S.assign rfl K) ?_
          refine U.done (Nat.le_of_ble_eq_true rfl) ?_
          refine WP.blk ?_
          unfold law16_StorageOwn_l2 at h181
          obtain ⟨n184, hn183⟩ := loopO_some.1 h181
          refine WP.loopI2 (fun n l V' => ∃ (x182 : Int), l = [(2, .int .i64 p2), (3, .int .i64 p3), (4, .int .i64 p4), (11, .pointer (some ⟨b30, 0, none⟩)), (12, .pointer (some ⟨b46, 0, none⟩)), (14, .int .i64 x121.1), (15, .int .i64 x182)] ∧ V125.le V' ∧ Ow V' (.pt b30 (.cells z31 [v129, v131, v134, v137, v140]) :: .os RT_Tref16_Event v129 x121.2.events :: .oss (RO.os (RT.int .i64)) v131 hs132 x121.2.seen :: .oss (RO.om RT.bool false) v134 hs135 x121.2.has :: .oss (RO.om (RT.int .i64) false) v137 hs138 x121.2.now :: .om (RT.int .i64) false v140 x121.2.last :: .oa (RT.int .i64) b46 8 8 xs53 :: Rs) ∧ itO (fun s => law16_StorageOwn_l2b p2 p3 p4 xs53 x121 s) n x182 = some r) n184 _ ⟨0, rfl, .refl _, ow128, hn183⟩ (allCons (L 13 rfl rfl) (allCons (L 14 rfl rfl) (allCons (L 15 rfl rfl) (allCons (L 16 rfl rfl) (allCons (L 17 rfl rfl) (allCons (L 3 rfl rfl) (allCons (L 0 rfl rfl) allNil))))))) ?_
          rintro _ _ V185 ⟨x182, rfl, le186, ow187, h191⟩
          obtain ⟨m188, q189, rfl, h192, e190⟩ := itS h191
          replace h192 : law16_StorageOwn_l2b p2 p3 p4 xs53 x121 x182 = some q189 := h192
          unfold law16_StorageOwn_l2b at h192
          refine WP.seq ?_
          refine WP.usreg rfl ?_
          refine U.p rfl rfl (.inl rfl) (S.move rfl (L 6 rfl rfl)) ?_
          refine U.p rfl rfl (.inl rfl) (S.move rfl (L 4 rfl rfl)) ?_
          have ow193 := ow187.pick 5 rfl
          have ow194 := ow193.pick 5 rfl
          have ow195 := ow194.pick 5 rfl
          have ow196 := ow195.pick 5 rfl
          have ow197 := ow196.pick 5 rfl
          have ow198 := ow197.pick 5 rfl
          obtain ⟨x199, hx200, h201⟩ := bindS h192
          refine O.call (V := V185) rfl rfl (.inl rfl) rfl en11 (aC (L 0 rfl rfl) aN) (wk_storage_Storage_Threads V185 _ x121.2 b30 z31 v129 v131 hs132 v134 hs135 v137 hs138 v140 ow198 _ hx200) (fun _ _ _ _ => nd) (fun v202 V203 le204 hp205 => ?_)
          obtain ⟨rfl, ow206⟩ := hp205
          refine U.p rfl rfl (.inl rfl) (S.lss rfl (L 2 rfl rfl) (L 0 rfl rfl)) ?_
          refine U.done (Nat.le_of_ble_eq_true rfl) ?_
          refine WP.cond _ (L 0 rfl rfl) rfl (fun c207 => ?_) (fun c207 => ?_)
          · have h208 := ifT c207 h201
            refine WP.skip ?_
            refine sqN ?_
            refine WP.seq ?_
            refine WP.blk ?_
            refine WP.usreg rfl ?_
            refine U.p rfl rfl (.inl rfl) (S.move rfl (L 7 rfl rfl)) ?_
            refine U.p rfl rfl (.inl rfl) (S.move rfl (L 11 rfl rfl)) ?_
            refine U.p rfl rfl (.inl rfl) (S.move rfl (L 7 rfl rfl)) ?_
            have ow209 := ow206.pick 5 rfl
            have ow210 := ow209.pick 5 rfl
            have ow211 := ow210.pick 5 rfl
            have ow212 := ow211.pick 5 rfl
            have ow213 := ow212.pick 5 rfl
            have ow214 := ow213.pick 5 rfl
            obtain ⟨x215, hx216, h217⟩ := bindS h208
            refine O.call (V := V203) rfl rfl (.inl rfl) rfl en13 (aC (L 2 rfl rfl) (aC (L 1 rfl rfl) (aC (L 0 rfl rfl) aN))) (wk_storage_Storage_Read V203 _ x121.2 x182 p3 b30 z31 v129 v131 hs132 v134 hs135 v137 hs138 v140 ow214 _ hx216) (fun _ _ _ _ => nd) (fun v218 V219 le220 hp221 => ?_)
            obtain ⟨rfl, ow222⟩ := hp221
            refine U.p rfl rfl (.inl rfl) (S.move rfl (L 0 rfl rfl)) ?_
            refine U.p rfl rfl (.inl rfl) (S.extract rfl (L 0 rfl rfl) rfl (Nat.le_of_ble_eq_true rfl)) ?_
            refine U.p rfl rfl (.inl rfl) (S.extract rfl (L 1 rfl rfl) rfl (Nat.le_of_ble_eq_true rfl)) ?_
            refine U.p rfl rfl (.inl rfl) (S.assign rfl (L 1 rfl rfl)) ?_
            refine U.p rfl rfl (.inl rfl) (S.assign rfl (L 1 rfl rfl)) ?_
            refine U.done (Nat.le_of_ble_eq_true rfl) ?_
            refine WP.usreg rfl ?_
            refine U.p rfl rfl (.inl rfl) (S.move rfl (L 19 rfl rfl)) ?_
            refine U.p rfl rfl (.inl rfl) (S.move rfl (L 14 rfl rfl)) ?_
            refine U.p rfl rfl (.inl rfl) (S.eqlI rfl (L 1 rfl rfl) (L 0 rfl rfl)) ?_
            refine U.p rfl rfl (.inl rfl) (S.move rfl (L 0 rfl rfl)) ?_
            refine U.joinX 13 (fun e H => ∃ (u223 u224 u225 u226 u227 u228 u229 u230 : Value), H = V219.H ∧ e = [(81, .bool ((decide (x182 = p2)) && ((decide (x215.1 ≠ p4)) || (decide (x215.2 ≠ x121.1))))), (80, u223), (79, u224), (78, u225), (77, u226), (76, u227), (75, u228), (74, u229), (73, u230)]) ?_ ?_
            · rintro _ _ ⟨u223, u224, u225, u226, u227, u228, u229, u230, rfl, rfl⟩
              refine U.p rfl rfl (.inl rfl) (S.move rfl (L 0 rfl rfl)) ?_
              obtain ⟨y234, hy235, h236⟩ := bindS h217
              refine U.joinX 25 (fun e H => ∃ (u237 u238 u239 u240 u241 u242 u243 u244 u245 u246 : Value), H = V219.H ∧ e = [(93, .bool y234), (92, u237), (91, u238), (90, u239), (89, u240), (88, u241), (87, u242), (86, u243), (85, u244), (84, u245), (83, u246)]) ?_ ?_
              · rintro _ _ ⟨u237, u238, u239, u240, u241, u242, u243, u244, u245, u246, rfl, rfl⟩
                refine U.done (Nat.le_of_ble_eq_true rfl) ?_
                refine WP.cond _ (L 0 rfl rfl) rfl (fun c250 => ?_) (fun c250 => ?_)
                · have h251 := ifT c250 h236
                  refine WP.usreg rfl ?_
                  refine U.p rfl rfl (.inl rfl) (S.assign rfl K) ?_
                  refine U.done (Nat.le_of_ble_eq_true rfl) ?_
                  refine WP.ret ?_
                  refine blkR (sqR (sqR (blkR (sqR ?_))))
                  have h252 := exitS h251 e190
                  refine fin.slot (.inr rfl) rfl (L 0 rfl rfl) ⟨V219, rfl, ((((((((le8.trans le27).trans le48).trans le65).trans le83).trans le126).trans le186).trans le204).trans le220), ?_⟩
                  have ow253 := ow222.drop 0 rfl
                  have ow254 := ow253.drop 0 rfl
                  have ow255 := ow254.drop 0 rfl
                  have ow256 := ow255.drop 0 rfl
                  have ow257 := ow256.drop 0 rfl
                  have ow258 := ow257.drop 0 rfl
                  have ow259 := ow258.drop 0 rfl
                  have e260 := Option.some.inj h252
                  subst e260
                  exact ⟨rfl, ow259⟩
                · have h261 := ifF c250 h236
                  refine WP.skip ?_
                  refine blkN (sqN ?_)
                  refine WP.ureg rfl ?_
                  refine U.p rfl rfl (.inl rfl) (S.move rfl (L 44 rfl rfl)) ?_
                  refine U.p rfl rfl (.inl rfl) (S.add rfl (L 0 rfl rfl) K) ?_
                  refine U.p rfl rfl (.inl rfl) (S.assign rfl (L 0 rfl rfl)) ?_
                  refine U.done (Nat.le_of_ble_eq_true rfl) ?_
                  refine sqN ?_
                  exact ⟨_, V219, rfl, ⟨m188, Nat.lt_succ_self _, w64 (x182 + 1), rfl, ((le186.trans le204).trans le220), ow222, backS h261 e190⟩, (allCons (L 41 rfl rfl) (allCons (L 42 rfl rfl) (allCons (L 43 rfl rfl) (allCons (L 44 rfl rfl) (allCons (L 45 rfl rfl) (allCons (L 46 rfl rfl) (allCons (L 0 rfl rfl) allNil)))))))⟩
              · intro kk
                refine bcase (b := (decide (x182 = p2)) && ((decide (x215.1 ≠ p4)) || (decide (x215.2 ≠ x121.1)))) (fun g262 => ?_) (fun g262 => ?_)
                · have h263 := ifT g262 hy235
                  refine U.x rfl rfl rfl rfl ((L 0 rfl rfl).trans (congrArg Value.bool g262)) (by decide) ?_
                  refine U.x rfl rfl rfl rfl ((L 1 rfl rfl).trans (congrArg Value.bool g262)) (by decide) ?_
                  refine U.x rfl rfl rfl rfl ((L 2 rfl rfl).trans (congrArg Value.bool g262)) (by decide) ?_
                  refine U.x rfl rfl rfl rfl ((L 3 rfl rfl).trans (congrArg Value.bool g262)) (by decide) ?_
                  refine U.z rfl rfl rfl rfl (L 0 rfl rfl) ?_
                  refine U.z rfl rfl rfl rfl (L 1 rfl rfl) ?_
                  refine U.z rfl rfl rfl rfl (L 2 rfl rfl) ?_
                  refine U.z rfl rfl rfl rfl (L 3 rfl rfl) ?_
                  refine U.z rfl rfl rfl rfl (L 4 rfl rfl) ?_
                  refine U.x rfl rfl rfl rfl ((L 9 rfl rfl).trans (congrArg Value.bool g262)) (by decide) ?_
                  refine U.p rfl rfl (.inl rfl) (S.pickT rfl ((L 10 rfl rfl).trans (congrArg Value.bool g262)) K) ?_
                  have e264 := Option.some.inj h263
                  subst e264
                  exact kk [(93, .bool true), (92, .tuple #[]), (91, .tuple #[]), (90, .tuple #[]), (89, .tuple #[]), (88, .tuple #[]), (87, .tuple #[]), (86, .tuple #[]), (85, .tuple #[]), (84, .tuple #[]), (83, .tuple #[])] _ ⟨.tuple #[], .tuple #[], .tuple #[], .tuple #[], .tuple #[], .tuple #[], .tuple #[], .tuple #[], .tuple #[], .tuple #[], rfl, rfl⟩
                · have h265 := ifF g262 hy235
                  refine U.p rfl rfl (.inr ⟨_, _, _, rfl, rfl, ((L 0 rfl rfl).trans (congrArg Value.bool g262))⟩) (S.move rfl (L 33 rfl rfl)) ?_
                  refine U.p rfl rfl (.inr ⟨_, _, _, rfl, rfl, ((L 1 rfl rfl).trans (congrArg Value.bool g262))⟩) (S.move rfl (L 28 rfl rfl)) ?_
                  refine U.p rfl rfl (.inr ⟨_, _, _, rfl, rfl, ((L 2 rfl rfl).trans (congrArg Value.bool g262))⟩) (S.neqI rfl (L 1 rfl rfl) (L 0 rfl rfl)) ?_
                  refine U.p rfl rfl (.inr ⟨_, _, _, rfl, rfl, ((L 3 rfl rfl).trans (congrArg Value.bool g262))⟩) (S.move rfl (L 0 rfl rfl)) ?_
                  obtain ⟨y266, hy267, h268⟩ := bindS h265
                  refine U.joinX 24 (fun e H => ∃ (u269 u270 u271 u272 u273 : Value), H = V219.H ∧ e = [(92, .bool y266), (91, u269), (90, u270), (89, u271), (88, u272), (87, u273)]) ?_ ?_
                  · rintro _ _ ⟨u269, u270, u271, u272, u273, rfl, rfl⟩
                    refine U.p rfl rfl (.inl rfl) (S.pickF rfl ((L 10 rfl rfl).trans (congrArg Value.bool g262)) (L 0 rfl rfl)) ?_
                    have e277 := Option.some.inj h268
                    subst e277
                    exact kk [(93, .bool y266), (92, .bool y266), (91, u269), (90, u270), (89, u271), (88, u272), (87, u273), (86, .bool (decide (x182 ≠ p2))), (85, .bool (decide (x182 ≠ p2))), (84, .int .i64 p2), (83, .int .i64 x182)] _ ⟨.bool y266, u269, u270, u271, u272, u273, .bool (decide (x182 ≠ p2)), .bool (decide (x182 ≠ p2)), .int .i64 p2, .int .i64 x182, rfl, rfl⟩
                  · intro kk
                    refine bcase (b := decide (x182 ≠ p2)) (fun g278 => ?_) (fun g278 => ?_)
                    · have h279 := ifT g278 hy267
                      refine U.p rfl rfl (.inr ⟨_, _, _, rfl, rfl, ((L 0 rfl rfl).trans (congrArg Value.bool g278))⟩) (S.move rfl (L 18 rfl rfl)) ?_
                      refine U.p rfl rfl (.inr ⟨_, _, _, rfl, rfl, ((L 1 rfl rfl).trans (congrArg Value.bool g278))⟩) (S.move rfl (L 38 rfl rfl)) ?_
                      obtain ⟨x280, hx281, h282⟩ := bindS h279
                      refine U.p rfl rfl (.inr ⟨_, _, _, rfl, rfl, ((L 2 rfl rfl).trans (congrArg Value.bool g278))⟩) (S.indexA rfl (L 37 rfl rfl) (L 0 rfl rfl) Try.underlying50 ti3 (ix_ge hx281) (by have q1 := ix_lt hx281; have q2 := ow222.oalen (k := 6) rfl; omega)) ?_
                      obtain ⟨cs283, hlt285, hr286, hc287⟩ := ow222.oael (k := 6) rfl hx281
                      obtain rfl : cs283 = [.int .i64 x280] := hr286
                      refine U.k rfl rfl (.inr ⟨_, _, _, rfl, rfl, ((L 3 rfl rfl).trans (congrArg Value.bool g278))⟩) (S.load rfl (L 0 rfl rfl) Try.underlying3 rfl (hc287 0 _ rfl)) nd ?_
                      refine U.p rfl rfl (.inr ⟨_, _, _, rfl, rfl, ((L 4 rfl rfl).trans (congrArg Value.bool g278))⟩) (S.neqI rfl (L 3 rfl rfl) (L 0 rfl rfl)) ?_
                      refine U.p rfl rfl (.inr ⟨_, _, _, rfl, rfl, ((L 9 rfl rfl).trans (congrArg Value.bool g262))⟩) (S.pickT rfl ((L 5 rfl rfl).trans (congrArg Value.bool g278)) (L 0 rfl rfl)) ?_
                      have e288 := Option.some.inj h282
                      subst e288
                      exact kk [(92, .bool (decide (x215.2 ≠ x280))), (91, .bool (decide (x215.2 ≠ x280))), (90, .int .i64 x280), (89, .pointer (some ⟨b46, 0 + Int.toNat x182 * 1, none⟩)), (88, .int .i64 x182), (87, .int .i64 x215.2)] _ ⟨.bool (decide (x215.2 ≠ x280)), .int .i64 x280, .pointer (some ⟨b46, 0 + Int.toNat x182 * 1, none⟩), .int .i64 x182, .int .i64 x215.2, rfl, rfl⟩
                    · have h289 := ifF g278 hy267
                      refine U.x rfl rfl rfl rfl ((L 0 rfl rfl).trans (congrArg Value.bool g278)) (by decide) ?_
                      refine U.x rfl rfl rfl rfl ((L 1 rfl rfl).trans (congrArg Value.bool g278)) (by decide) ?_
                      refine U.x rfl rfl rfl rfl ((L 2 rfl rfl).trans (congrArg Value.bool g278)) (by decide) ?_
                      refine U.x rfl rfl rfl rfl ((L 3 rfl rfl).trans (congrArg Value.bool g278)) (by decide) ?_
                      refine U.x rfl rfl rfl rfl ((L 4 rfl rfl).trans (congrArg Value.bool g278)) (by decide) ?_
                      refine U.p rfl rfl (.inr ⟨_, _, _, rfl, rfl, ((L 9 rfl rfl).trans (congrArg Value.bool g262))⟩) (S.pickF rfl ((L 5 rfl rfl).trans (congrArg Value.bool g278)) K) ?_
                      have e290 := Option.some.inj h289
                      subst e290
                      exact kk [(92, .bool false), (91, .tuple #[]), (90, .tuple #[]), (89, .tuple #[]), (88, .tuple #[]), (87, .tuple #[])] _ ⟨.tuple #[], .tuple #[], .tuple #[], .tuple #[], .tuple #[], rfl, rfl⟩
            · intro kk
              refine bcase (b := decide (x182 = p2)) (fun g291 => ?_) (fun g291 => ?_)
              · skip
                refine U.p rfl rfl (.inr ⟨_, _, _, rfl, rfl, ((L 0 rfl rfl).trans (congrArg Value.bool g291))⟩) (S.move rfl (L 5 rfl rfl)) ?_
                refine U.p rfl rfl (.inr ⟨_, _, _, rfl, rfl, ((L 1 rfl rfl).trans (congrArg Value.bool g291))⟩) (S.move rfl (L 20 rfl rfl)) ?_
                refine U.p rfl rfl (.inr ⟨_, _, _, rfl, rfl, ((L 2 rfl rfl).trans (congrArg Value.bool g291))⟩) (S.neqI rfl (L 1 rfl rfl) (L 0 rfl rfl)) ?_
                refine U.p rfl rfl (.inr ⟨_, _, _, rfl, rfl, ((L 3 rfl rfl).trans (congrArg Value.bool g291))⟩) (S.move rfl (L 0 rfl rfl)) ?_
                refine U.joinX 12 (fun e H => ∃ (u292 u293 u294 : Value), H = V219.H ∧ e = [(80, .bool ((decide (x215.1 ≠ p4)) || (decide (x215.2 ≠ x121.1)))), (79, u292), (78, u293), (77, u294)]) ?_ ?_
                · rintro _ _ ⟨u292, u293, u294, rfl, rfl⟩
                  refine U.p rfl rfl (.inl rfl) (S.pickT rfl ((L 8 rfl rfl).trans (congrArg Value.bool g291)) (L 0 rfl rfl)) ?_
                  exact kk [(81, .bool ((decide (x215.1 ≠ p4)) || (decide (x215.2 ≠ x121.1)))), (80, .bool ((decide (x215.1 ≠ p4)) || (decide (x215.2 ≠ x121.1)))), (79, u292), (78, u293), (77, u294), (76, .bool (decide (x215.1 ≠ p4))), (75, .bool (decide (x215.1 ≠ p4))), (74, .int .i64 p4), (73, .int .i64 x215.1)] _ ⟨.bool ((decide (x215.1 ≠ p4)) || (decide (x215.2 ≠ x121.1))), u292, u293, u294, .bool (decide (x215.1 ≠ p4)), .bool (decide (x215.1 ≠ p4)), .int .i64 p4, .int .i64 x215.1, rfl, (by rw [g291, Bool.true_and])⟩
                · intro kk
                  refine bcase (b := decide (x215.1 ≠ p4)) (fun g298 => ?_) (fun g298 => ?_)
                  · skip
                    refine U.x rfl rfl rfl rfl ((L 0 rfl rfl).trans (congrArg Value.bool g298)) (by decide) ?_
                    refine U.x rfl rfl rfl rfl ((L 1 rfl rfl).trans (congrArg Value.bool g298)) (by decide) ?_
                    refine U.x rfl rfl rfl rfl ((L 2 rfl rfl).trans (congrArg Value.bool g298)) (by decide) ?_
                    refine U.p rfl rfl (.inr ⟨_, _, _, rfl, rfl, ((L 7 rfl rfl).trans (congrArg Value.bool g291))⟩) (S.pickT rfl ((L 3 rfl rfl).trans (congrArg Value.bool g298)) K) ?_
                    exact kk [(80, .bool true), (79, .tuple #[]), (78, .tuple #[]), (77, .tuple #[])] _ ⟨.tuple #[], .tuple #[], .tuple #[], rfl, (by rw [g298, Bool.true_or])⟩
                  · skip
                    refine U.p rfl rfl (.inr ⟨_, _, _, rfl, rfl, ((L 0 rfl rfl).trans (congrArg Value.bool g298))⟩) (S.move rfl (L 8 rfl rfl)) ?_
                    refine U.p rfl rfl (.inr ⟨_, _, _, rfl, rfl, ((L 1 rfl rfl).trans (congrArg Value.bool g298))⟩) (S.move rfl (L 27 rfl rfl)) ?_
                    refine U.p rfl rfl (.inr ⟨_, _, _, rfl, rfl, ((L 2 rfl rfl).trans (congrArg Value.bool g298))⟩) (S.neqI rfl (L 1 rfl rfl) (L 0 rfl rfl)) ?_
                    refine U.p rfl rfl (.inr ⟨_, _, _, rfl, rfl, ((L 7 rfl rfl).trans (congrArg Value.bool g291))⟩) (S.pickF rfl ((L 3 rfl rfl).trans (congrArg Value.bool g298)) (L 0 rfl rfl)) ?_
                    exact kk [(80, .bool (decide (x215.2 ≠ x121.1))), (79, .bool (decide (x215.2 ≠ x121.1))), (78, .int .i64 x121.1), (77, .int .i64 x215.2)] _ ⟨.bool (decide (x215.2 ≠ x121.1)), .int .i64 x121.1, .int .i64 x215.2, rfl, (by rw [g298, Bool.false_or])⟩
              · skip
                refine U.x rfl rfl rfl rfl ((L 0 rfl rfl).trans (congrArg Value.bool g291)) (by decide) ?_
                refine U.x rfl rfl rfl rfl ((L 1 rfl rfl).trans (congrArg Value.bool g291)) (by decide) ?_
                refine U.x rfl rfl rfl rfl ((L 2 rfl rfl).trans (congrArg Value.bool g291)) (by decide) ?_
                refine U.x rfl rfl rfl rfl ((L 3 rfl rfl).trans (congrArg Value.bool g291)) (by decide) ?_
                refine U.z rfl rfl rfl rfl (L 0 rfl rfl) ?_
                refine U.z rfl rfl rfl rfl (L 1 rfl rfl) ?_
                refine U.z rfl rfl rfl rfl (L 2 rfl rfl) ?_
                refine U.x rfl rfl rfl rfl ((L 7 rfl rfl).trans (congrArg Value.bool g291)) (by decide) ?_
                refine U.p rfl rfl (.inl rfl) (S.pickF rfl ((L 8 rfl rfl).trans (congrArg Value.bool g291)) K) ?_
                exact kk [(81, .bool false), (80, .tuple #[]), (79, .tuple #[]), (78, .tuple #[]), (77, .tuple #[]), (76, .tuple #[]), (75, .tuple #[]), (74, .tuple #[]), (73, .tuple #[])] _ ⟨.tuple #[], .tuple #[], .tuple #[], .tuple #[], .tuple #[], .tuple #[], .tuple #[], .tuple #[], rfl, (by rw [g291, Bool.false_and])⟩
          · have h299 := ifF c207 h201
            refine WP.exit ?_
            refine sqE (sqE (blkE (sqN ?_)))
            have h300 := exitS h299 e190
            refine WP.usreg rfl ?_
            refine U.p rfl rfl (.inl rfl) (S.move rfl (L 7 rfl rfl)) ?_
            refine U.p rfl rfl (.inl rfl) (S.move rfl (L 6 rfl rfl)) ?_
            have ow301 := ow206.pick 5 rfl
            have ow302 := ow301.pick 5 rfl
            have ow303 := ow302.pick 5 rfl
            have ow304 := ow303.pick 5 rfl
            have ow305 := ow304.pick 5 rfl
            have ow306 := ow305.pick 5 rfl
            obtain ⟨x307, hx308, h309⟩ := bindS h300
            refine O.call (V := V203) rfl rfl (.inl rfl) rfl en21 (aC (L 1 rfl rfl) (aC (L 0 rfl rfl) aN)) (wk_storage_Storage_Last V203 _ x121.2 p3 b30 z31 v129 v131 hs132 v134 hs135 v137 hs138 v140 ow306 _ hx308) (fun _ _ _ _ => nd) (fun v310 V311 le312 hp313 => ?_)
            obtain ⟨rfl, ow314⟩ := hp313
            refine U.p rfl rfl (.inl rfl) (S.move rfl (L 12 rfl rfl)) ?_
            refine U.p rfl rfl (.inl rfl) (S.eqlI rfl (L 1 rfl rfl) (L 0 rfl rfl)) ?_
            refine U.p rfl rfl (.inl rfl) (S.move rfl (L 0 rfl rfl)) ?_
            obtain ⟨y315, hy316, h317⟩ := bindS h309
            refine U.joinX 11 (fun e H => ∃ (u318 u319 u320 u321 : Value), ∃ V' : Vw, H = V'.H ∧ V311.le V' ∧ e = [(104, .bool y315), (103, u318), (102, u319), (101, u320), (100, u321)] ∧ Ow V' (.pt b30 (.cells z31 [v129, v131, v134, v137, v140]) :: .os RT_Tref16_Event v129 x121.2.events :: .oss (RO.os (RT.int .i64)) v131 hs132 x121.2.seen :: .oss (RO.om RT.bool false) v134 hs135 x121.2.has :: .oss (RO.om (RT.int .i64) false) v137 hs138 x121.2.now :: .om (RT.int .i64) false v140 x121.2.last :: .oa (RT.int .i64) b46 8 8 xs53 :: Rs)) ?_ ?_
            · rintro _ _ ⟨u318, u319, u320, u321, V322, rfl, le323, rfl, ow324⟩
              refine U.p rfl rfl (.inl rfl) (S.assign rfl (L 0 rfl rfl)) ?_
              refine U.done (Nat.le_of_ble_eq_true rfl) ?_
              refine WP.ret ?_
              refine fin.slot (.inr rfl) rfl (L 0 rfl rfl) ⟨V322, rfl, (((((((((le8.trans le27).trans le48).trans le65).trans le83).trans le126).trans le186).trans le204).trans le312).trans le323), ?_⟩
              have ow325 := ow324.drop 0 rfl
              have ow326 := ow325.drop 0 rfl
              have ow327 := ow326.drop 0 rfl
              have ow328 := ow327.drop 0 rfl
              have ow329 := ow328.drop 0 rfl
              have ow330 := ow329.drop 0 rfl
              have ow331 := ow330.drop 0 rfl
              have e332 := Option.some.inj h317
              subst e332
              exact ⟨rfl, ow331⟩
            · intro kk
              refine bcase (b := decide (x307 = x121.1)) (fun g333 => ?_) (fun g333 => ?_)
              · have h334 := ifT g333 hy316
                refine U.p rfl rfl (.inr ⟨_, _, _, rfl, rfl, ((L 0 rfl rfl).trans (congrArg Value.bool g333))⟩) (S.move rfl (L 13 rfl rfl)) ?_
                refine U.p rfl rfl (.inr ⟨_, _, _, rfl, rfl, ((L 1 rfl rfl).trans (congrArg Value.bool g333))⟩) (S.move rfl (L 11 rfl rfl)) ?_
                refine U.p rfl rfl (.inr ⟨_, _, _, rfl, rfl, ((L 2 rfl rfl).trans (congrArg Value.bool g333))⟩) (S.move rfl (L 17 rfl rfl)) ?_
                have ow335 := ow314.pick 5 rfl
                have ow336 := ow335.pick 5 rfl
                have ow337 := ow336.pick 5 rfl
                have ow338 := ow337.pick 5 rfl
                have ow339 := ow338.pick 5 rfl
                have ow340 := ow339.pick 5 rfl
                obtain ⟨x341, hx342, h343⟩ := bindS h334
                refine O.call (V := V311) rfl rfl (.inr ⟨_, _, _, rfl, rfl, ((L 3 rfl rfl).trans (congrArg Value.bool g333))⟩) rfl en20 (aC (L 2 rfl rfl) (aC (L 1 rfl rfl) (aC (L 0 rfl rfl) aN))) (wk_storage_Storage_Seen V311 _ x121.2 p2 x121.1 b30 z31 v129 v131 hs132 v134 hs135 v137 hs138 v140 ow340 _ hx342) (fun _ _ _ _ => nd) (fun v344 V345 le346 hp347 => ?_)
                obtain ⟨rfl, ow348⟩ := hp347
                refine U.p rfl rfl (.inl rfl) (S.pickT rfl ((L 4 rfl rfl).trans (congrArg Value.bool g333)) (L 0 rfl rfl)) ?_
                have e349 := Option.some.inj h343
                subst e349
                exact kk [(104, .bool x341), (103, .bool x341), (102, .int .i64 x121.1), (101, .int .i64 p2), (100, .pointer (some ⟨b30, 0, none⟩))] _ ⟨.bool x341, .int .i64 x121.1, .int .i64 p2, .pointer (some ⟨b30, 0, none⟩), V345, rfl, le346, rfl, ow348⟩
              · have h350 := ifF g333 hy316
                refine U.x rfl rfl rfl rfl ((L 0 rfl rfl).trans (congrArg Value.bool g333)) (by decide) ?_
                refine U.x rfl rfl rfl rfl ((L 1 rfl rfl).trans (congrArg Value.bool g333)) (by decide) ?_
                refine U.x rfl rfl rfl rfl ((L 2 rfl rfl).trans (congrArg Value.bool g333)) (by decide) ?_
                refine U.x rfl rfl rfl rfl ((L 3 rfl rfl).trans (congrArg Value.bool g333)) (by decide) ?_
                refine U.p rfl rfl (.inl rfl) (S.pickF rfl ((L 4 rfl rfl).trans (congrArg Value.bool g333)) K) ?_
                have e351 := Option.some.inj h350
                subst e351
                exact kk [(104, .bool false), (103, .tuple #[]), (102, .tuple #[]), (101, .tuple #[]), (100, .tuple #[])] _ ⟨.tuple #[], .tuple #[], .tuple #[], .tuple #[], V311, rfl, (.refl _), rfl, ow314⟩

set_option maxHeartbeats 4000000 in
set_option maxRecDepth 10000 in
theorem wk_storage_Storage_Acked (V : Vw) (Rs : List At) (p0 : Tstorage_Storage) (p1 : Int) (b1 : Nat) (z2 : Nat) (v4 : Value) (v6 : Value) (hs7 : List Value) (v9 : Value) (hs10 : List Value) (v12 : Value) (hs13 : List Value) (v15 : Value) (ow : Ow V (.pt b1 (.cells z2 [v4, v6, v9, v12, v15]) :: .os RT_Tref16_Event v4 p0.events :: .oss (RO.os (RT.int .i64)) v6 hs7 p0.seen :: .oss (RO.om RT.bool false) v9 hs10 p0.has :: .oss (RO.om (RT.int .i64) false) v12 hs13 p0.now :: .om (RT.int .i64) false v15 p0.last :: Rs)) (r : Bool) (h : storage_Storage_Acked p0 p1 = some r) : ∃ v V', Cl Try.prog 0 22 #[.pointer (some ⟨b1, 0, none⟩), .int .i64 p1] V.H v V'.H ∧ V.le V' ∧ (v = .bool r ∧ Ow V' (.pt b1 (.cells z2 [v4, v6, v9, v12, v15]) :: .os RT_Tref16_Event v4 p0.events :: .oss (RO.os (RT.int .i64)) v6 hs7 p0.seen :: .oss (RO.om RT.bool false) v9 hs10 p0.has :: .oss (RO.om (RT.int .i64) false) v12 hs13 p0.now :: .om (RT.int .i64) false v15 p0.last :: Rs)) := by
  refine Ct.of (Nat.zero_le _) Try.func22 rfl (Nat.le_of_ble_eq_true rfl) ?_
  unfold storage_Storage_Acked at h
  refine WP.usreg rfl ?_
  refine U.p rfl rfl (.inl rfl) (S.assign rfl K) ?_
  refine U.done (Nat.le_of_ble_eq_true rfl) ?_
  refine WP.seq ?_
  refine WP.usreg rfl ?_
  refine U.p rfl rfl (.inl rfl) (S.move rfl (L 1 rfl rfl)) ?_
  refine U.p rfl rfl (.inl rfl) (S.nilP rfl (.inl rfl) (L 0 rfl rfl) K Try.underlying24) ?_
  refine U.p rfl rfl (.inl rfl) (S.move rfl (L 0 rfl rfl)) ?_
  refine U.p rfl rfl (.inr ⟨_, _, _, rfl, rfl, (L 0 rfl rfl)⟩) (S.move rfl (L 5 rfl rfl)) ?_
  refine U.p rfl rfl (.inr ⟨_, _, _, rfl, rfl, (L 1 rfl rfl)⟩) (S.lss rfl (L 0 rfl rfl) K) ?_
  refine U.p rfl rfl (.inl rfl) (S.pickF rfl (L 2 rfl rfl) (L 0 rfl rfl)) ?_
  refine U.p rfl rfl (.inl rfl) (S.move rfl (L 0 rfl rfl)) ?_
  refine U.joinX 15 (fun e H => ∃ (u17 u18 u19 u20 u21 u22 u23 : Value), H = V.H ∧ e = [(20, .bool ((decide (p1 < 1)) || (decide ((p0.events.length : Int) < p1)))), (19, u17), (18, u18), (17, u19), (16, u20), (15, u21), (14, u22), (13, u23)]) ?_ ?_
  · rintro _ _ ⟨u17, u18, u19, u20, u21, u22, u23, rfl, rfl⟩
    refine U.p rfl rfl (.inl rfl) (S.move rfl (L 0 rfl rfl)) ?_
    obtain ⟨y27, hy28, h29⟩ := bindS h
    refine U.joinX 27 (fun e H => ∃ (u30 u31 u32 u33 u34 u35 u36 u37 u38 u39 : Value), H = V.H ∧ e = [(32, .bool y27), (31, u30), (30, u31), (29, u32), (28, u33), (27, u34), (26, u35), (25, u36), (24, u37), (23, u38), (22, u39)]) ?_ ?_
    · rintro _ _ ⟨u30, u31, u32, u33, u34, u35, u36, u37, u38, u39, rfl, rfl⟩
      refine U.done (Nat.le_of_ble_eq_true rfl) ?_
      refine WP.cond _ (L 0 rfl rfl) rfl (fun c43 => ?_) (fun c43 => ?_)
      · have h44 := ifT c43 h29
        refine WP.usreg rfl ?_
        refine U.p rfl rfl (.inl rfl) (S.assign rfl K) ?_
        refine U.done (Nat.le_of_ble_eq_true rfl) ?_
        refine WP.ret ?_
        refine sqR ?_
        refine fin.slot (.inr rfl) rfl (L 0 rfl rfl) ⟨V, rfl, (.refl _), ?_⟩
        have e45 := Option.some.inj h44
        subst e45
        exact ⟨rfl, ow⟩
      · have h46 := ifF c43 h29
        refine WP.skip ?_
        refine sqN ?_
        refine WP.seq ?_
        refine WP.usreg rfl ?_
        refine U.p rfl rfl (.inl rfl) (S.move rfl (L 28 rfl rfl)) ?_
        refine U.p rfl rfl (.inl rfl) (S.nilCheck rfl (L 0 rfl rfl)) ?_
        refine U.p (v := .pointer (some ⟨b1, 1, none⟩)) rfl rfl (.inl rfl) (S.fieldAddr rfl (L 0 rfl rfl) Try.underlying62 rfl ti44 rfl rfl) ?_
        refine U.k rfl rfl (.inl rfl) (S.load rfl (L 0 rfl rfl) Try.underlying44 rfl ((ow.own (k := 0) rfl).cell rfl)) nd ?_
        refine U.p rfl rfl (.inl rfl) (ow.sslen (k := 2) rfl rfl (L 0 rfl rfl) Try.underlying44) ?_
        refine U.p rfl rfl (.inl rfl) (S.move rfl K) ?_
        refine U.done (Nat.le_of_ble_eq_true rfl) ?_
        refine WP.blk ?_
        unfold storage_Storage_Acked_l1 at h46
        obtain ⟨n49, hn48⟩ := loopO_some.1 h46
        refine WP.loopI2 (fun n l V' => ∃ (x47 : Int), l = [(0, .pointer (some ⟨b1, 0, none⟩)), (1, .int .i64 p1), (37, .int .i64 (p0.seen.length : Int)), (38, .int .i64 x47)] ∧ V.le V' ∧ Ow V' (.pt b1 (.cells z2 [v4, v6, v9, v12, v15]) :: .os RT_Tref16_Event v4 p0.events :: .oss (RO.os (RT.int .i64)) v6 hs7 p0.seen :: .oss (RO.om RT.bool false) v9 hs10 p0.has :: .oss (RO.om (RT.int .i64) false) v12 hs13 p0.now :: .om (RT.int .i64) false v15 p0.last :: Rs) ∧ itO (fun s => storage_Storage_Acked_l1b p0 p1 s) n x47 = some r) n49 _ ⟨0, rfl, .refl _, ow, hn48⟩ (allCons (L 34 rfl rfl) (allCons (L 35 rfl rfl) (allCons (L 1 rfl rfl) (allCons (L 0 rfl rfl) allNil)))) ?_
        rintro _ _ V50 ⟨x47, rfl, le51, ow52, h56⟩
        obtain ⟨m53, q54, rfl, h57, e55⟩ := itS h56
        replace h57 : storage_Storage_Acked_l1b p0 p1 x47 = some q54 := h57
        unfold storage_Storage_Acked_l1b at h57
        refine WP.usreg rfl ?_
        refine U.p rfl rfl (.inl rfl) (S.lss rfl (L 3 rfl rfl) (L 2 rfl rfl)) ?_
        refine U.done (Nat.le_of_ble_eq_true rfl) ?_
        refine WP.seq ?_
        refine WP.cond _ (L 0 rfl rfl) rfl (fun c58 => ?_) (fun c58 => ?_)
        · have h59 := ifT c58 h57
          refine WP.skip ?_
          refine sqN ?_
          refine WP.seq ?_
          refine WP.blk ?_
          refine WP.usreg rfl ?_
          refine U.p rfl rfl (.inl rfl) (S.move rfl (L 4 rfl rfl)) ?_
          refine U.p rfl rfl (.inl rfl) (S.assign rfl (L 0 rfl rfl)) ?_
          refine U.done (Nat.le_of_ble_eq_true rfl) ?_
          refine WP.usreg rfl ?_
          refine U.p rfl rfl (.inl rfl) (S.move rfl (L 3 rfl rfl)) ?_
          refine U.p rfl rfl (.inl rfl) (S.move rfl (L 1 rfl rfl)) ?_
          refine U.p rfl rfl (.inl rfl) (S.move rfl (L 6 rfl rfl)) ?_
          have ow60 := ow52.pick 5 rfl
          have ow61 := ow60.pick 5 rfl
          have ow62 := ow61.pick 5 rfl
          have ow63 := ow62.pick 5 rfl
          have ow64 := ow63.pick 5 rfl
          have ow65 := ow64.pick 5 rfl
          obtain ⟨x66, hx67, h68⟩ := bindS h59
          refine O.call (V := V50) rfl rfl (.inl rfl) rfl en20 (aC (L 2 rfl rfl) (aC (L 1 rfl rfl) (aC (L 0 rfl rfl) aN))) (wk_storage_Storage_Seen V50 _ p0 x47 p1 b1 z2 v4 v6 hs7 v9 hs10 v12 hs13 v15 ow65 _ hx67) (fun _ _ _ _ => nd) (fun v69 V70 le71 hp72 => ?_)
          obtain ⟨rfl, ow73⟩ := hp72
          refine U.p rfl rfl (.inl rfl) (S.not rfl (L 0 rfl rfl)) ?_
          refine U.done (Nat.le_of_ble_eq_true rfl) ?_
          refine WP.cond _ (L 0 rfl rfl) rfl (fun c74 => ?_) (fun c74 => ?_)
          · have h75 := ifT c74 h68
            have k76 : x66 = false := by simpa using c74
            refine WP.usreg rfl ?_
            refine U.p rfl rfl (.inl rfl) (S.assign rfl K) ?_
            refine U.done (Nat.le_of_ble_eq_true rfl) ?_
            refine WP.ret ?_
            refine blkR (sqR (sqR (blkR (sqR ?_))))
            have h77 := exitS h75 e55
            refine fin.slot (.inr rfl) rfl (L 0 rfl rfl) ⟨V70, rfl, (le51.trans le71), ?_⟩
            have e78 := Option.some.inj h77
            subst e78
            exact ⟨rfl, ow73⟩
          · have h79 := ifF c74 h68
            have k80 : x66 = true := by simpa using c74
            refine WP.skip ?_
            refine blkN (sqN ?_)
            refine WP.ureg rfl ?_
            refine U.p rfl rfl (.inl rfl) (S.add rfl (L 11 rfl rfl) K) ?_
            refine U.p rfl rfl (.inl rfl) (S.move rfl (L 0 rfl rfl)) ?_
            refine U.done (Nat.le_of_ble_eq_true rfl) ?_
            refine sqN ?_
            exact ⟨_, V70, rfl, ⟨m53, Nat.lt_succ_self _, w64 (x47 + 1), rfl, (le51.trans le71), ow73, backS h79 e55⟩, (allCons (L 10 rfl rfl) (allCons (L 11 rfl rfl) (allCons (L 12 rfl rfl) (allCons (L 0 rfl rfl) allNil))))⟩
        · have h81 := ifF c58 h57
          refine WP.exit ?_
          refine sqE (sqE (blkE (sqN ?_)))
          have h82 := exitS h81 e55
          refine WP.usreg rfl ?_
          refine U.p rfl rfl (.inl rfl) (S.assign rfl K) ?_
          refine U.done (Nat.le_of_ble_eq_true rfl) ?_
          refine WP.ret ?_
          refine fin.slot (.inr rfl) rfl (L 0 rfl rfl) ⟨V50, rfl, le51, ?_⟩
          have e83 := Option.some.inj h82
          subst e83
          exact ⟨rfl, ow52⟩
    · intro kk
      refine bcase (b := (decide (p1 < 1)) || (decide ((p0.events.length : Int) < p1))) (fun g84 => ?_) (fun g84 => ?_)
      · have h85 := ifT g84 hy28
        refine U.x rfl rfl rfl rfl ((L 0 rfl rfl).trans (congrArg Value.bool g84)) (by decide) ?_
        refine U.x rfl rfl rfl rfl ((L 1 rfl rfl).trans (congrArg Value.bool g84)) (by decide) ?_
        refine U.x rfl rfl rfl rfl ((L 2 rfl rfl).trans (congrArg Value.bool g84)) (by decide) ?_
        refine U.x rfl rfl rfl rfl ((L 3 rfl rfl).trans (congrArg Value.bool g84)) (by decide) ?_
        refine U.x rfl rfl rfl rfl ((L 4 rfl rfl).trans (congrArg Value.bool g84)) (by decide) ?_
        refine U.x rfl rfl rfl rfl ((L 5 rfl rfl).trans (congrArg Value.bool g84)) (by decide) ?_
        refine U.x rfl rfl rfl rfl ((L 6 rfl rfl).trans (congrArg Value.bool g84)) (by decide) ?_
        refine U.x rfl rfl rfl rfl ((L 7 rfl rfl).trans (congrArg Value.bool g84)) (by decide) ?_
        refine U.x rfl rfl rfl rfl ((L 8 rfl rfl).trans (congrArg Value.bool g84)) (by decide) ?_
        refine U.x rfl rfl rfl rfl ((L 9 rfl rfl).trans (congrArg Value.bool g84)) (by decide) ?_
        refine U.p rfl rfl (.inl rfl) (S.pickT rfl ((L 10 rfl rfl).trans (congrArg Value.bool g84)) K) ?_
        have e86 := Option.some.inj h85
        subst e86
        exact kk [(32, .bool true), (31, .tuple #[]), (30, .tuple #[]), (29, .tuple #[]), (28, .tuple #[]), (27, .tuple #[]), (26, .tuple #[]), (25, .tuple #[]), (24, .tuple #[]), (23, .tuple #[]), (22, .tuple #[])] _ ⟨.tuple #[], .tuple #[], .tuple #[], .tuple #[], .tuple #[], .tuple #[], .tuple #[], .tuple #[], .tuple #[], .tuple #[], rfl, rfl⟩
      · have h87 := ifF g84 hy28
        refine U.p rfl rfl (.inr ⟨_, _, _, rfl, rfl, ((L 0 rfl rfl).trans (congrArg Value.bool g84))⟩) (S.move rfl (L 17 rfl rfl)) ?_
        refine U.p rfl rfl (.inr ⟨_, _, _, rfl, rfl, ((L 1 rfl rfl).trans (congrArg Value.bool g84))⟩) (S.nilCheck rfl (L 0 rfl rfl)) ?_
        refine U.p (v := .pointer (some ⟨b1, 0, none⟩)) rfl rfl (.inr ⟨_, _, _, rfl, rfl, ((L 2 rfl rfl).trans (congrArg Value.bool g84))⟩) (S.fieldAddr rfl (L 0 rfl rfl) Try.underlying62 rfl ti53 rfl rfl) ?_
        refine U.k rfl rfl (.inr ⟨_, _, _, rfl, rfl, ((L 3 rfl rfl).trans (congrArg Value.bool g84))⟩) (S.load rfl (L 0 rfl rfl) Try.underlying53 rfl ((ow.own (k := 0) rfl).cell rfl)) nd ?_
        refine U.p rfl rfl (.inr ⟨_, _, _, rfl, rfl, ((L 4 rfl rfl).trans (congrArg Value.bool g84))⟩) (S.move rfl (L 22 rfl rfl)) ?_
        refine U.p rfl rfl (.inr ⟨_, _, _, rfl, rfl, ((L 5 rfl rfl).trans (congrArg Value.bool g84))⟩) (S.sub rfl (L 0 rfl rfl) K) ?_
        obtain ⟨x88, hx89, h90⟩ := bindS h87
        obtain ⟨b91, o92, n93, c94, hv95⟩ := ow.ospt (k := 1) rfl hx89
        obtain ⟨_, hv96, _⟩ := ow.osel (k := 1) rfl hv95 hx89
        refine U.p rfl rfl (.inr ⟨_, _, _, rfl, rfl, ((L 6 rfl rfl).trans (congrArg Value.bool g84))⟩) (S.index rfl ((L 2 rfl rfl).trans hv96) (L 0 rfl rfl) Try.underlying53 ti55 (ix_ge hx89) (ix_lt hx89)) ?_
        refine U.p (v := .pointer (some ⟨b91, o92 + Int.toNat (w64 (p1 - 1)) * 4 + 1, none⟩)) rfl rfl (.inr ⟨_, _, _, rfl, rfl, ((L 7 rfl rfl).trans (congrArg Value.bool g84))⟩) (S.fieldAddr rfl (L 0 rfl rfl) Try.underlying55 rfl ti4 rfl rfl) ?_
        obtain ⟨cs97, hv98, hlt99, hr100, hc101⟩ := ow.osel (k := 1) rfl hv95 hx89
        obtain rfl : cs97 = [.int .i64 x88.thread, .bool x88.bar, .int .i64 x88.at_, .int .i64 x88.val] := hr100
        refine U.k rfl rfl (.inr ⟨_, _, _, rfl, rfl, ((L 8 rfl rfl).trans (congrArg Value.bool g84))⟩) (S.load rfl (L 0 rfl rfl) Try.underlying4 rfl (hc101 1 _ rfl)) nd ?_
        refine U.p rfl rfl (.inr ⟨_, _, _, rfl, rfl, ((L 9 rfl rfl).trans (congrArg Value.bool g84))⟩) (S.not rfl (L 0 rfl rfl)) ?_
        refine U.p rfl rfl (.inl rfl) (S.pickF rfl ((L 10 rfl rfl).trans (congrArg Value.bool g84)) (L 0 rfl rfl)) ?_
        have e102 := Option.some.inj h90
        subst e102
        exact kk [(32, .bool (!x88.bar)), (31, .bool (!x88.bar)), (30, .bool x88.bar), (29, .pointer (some ⟨b91, o92 + Int.toNat (w64 (p1 - 1)) * 4 + 1, none⟩)), (28, .pointer (some ⟨b91, o92 + Int.toNat (w64 (p1 - 1)) * 4, none⟩)), (27, .int .i64 (w64 (p1 - 1))), (26, .int .i64 p1), (25, v4), (24, .pointer (some ⟨b1, 0, none⟩)), (23, .pointer (some ⟨b1, 0, none⟩)), (22, .pointer (some ⟨b1, 0, none⟩))] _ ⟨.bool (!x88.bar), .bool x88.bar, .pointer (some ⟨b91, o92 + Int.toNat (w64 (p1 - 1)) * 4 + 1, none⟩), .pointer (some ⟨b91, o92 + Int.toNat (w64 (p1 - 1)) * 4, none⟩), .int .i64 (w64 (p1 - 1)), .int .i64 p1, v4, .pointer (some ⟨b1, 0, none⟩), .pointer (some ⟨b1, 0, none⟩), .pointer (some ⟨b1, 0, none⟩), rfl, rfl⟩
  · intro kk
    refine bcase (b := decide (p1 < 1)) (fun g103 => ?_) (fun g103 => ?_)
    · skip
      refine U.x rfl rfl rfl rfl ((L 0 rfl rfl).trans (congrArg Value.bool g103)) (by decide) ?_
      refine U.x rfl rfl rfl rfl ((L 1 rfl rfl).trans (congrArg Value.bool g103)) (by decide) ?_
      refine U.x rfl rfl rfl rfl ((L 2 rfl rfl).trans (congrArg Value.bool g103)) (by decide) ?_
      refine U.x rfl rfl rfl rfl ((L 3 rfl rfl).trans (congrArg Value.bool g103)) (by decide) ?_
      refine U.x rfl rfl rfl rfl ((L 4 rfl rfl).trans (congrArg Value.bool g103)) (by decide) ?_
      refine U.x rfl rfl rfl rfl ((L 5 rfl rfl).trans (congrArg Value.bool g103)) (by decide) ?_
      refine U.x rfl rfl rfl rfl ((L 6 rfl rfl).trans (congrArg Value.bool g103)) (by decide) ?_
      refine U.p rfl rfl (.inl rfl) (S.pickT rfl ((L 7 rfl rfl).trans (congrArg Value.bool g103)) K) ?_
      exact kk [(20, .bool true), (19, .tuple #[]), (18, .tuple #[]), (17, .tuple #[]), (16, .tuple #[]), (15, .tuple #[]), (14, .tuple #[]), (13, .tuple #[])] _ ⟨.tuple #[], .tuple #[], .tuple #[], .tuple #[], .tuple #[], .tuple #[], .tuple #[], rfl, (by rw [g103, Bool.true_or])⟩
    · skip
      refine U.p rfl rfl (.inr ⟨_, _, _, rfl, rfl, ((L 0 rfl rfl).trans (congrArg Value.bool g103))⟩) (S.move rfl (L 9 rfl rfl)) ?_
      refine U.p rfl rfl (.inr ⟨_, _, _, rfl, rfl, ((L 1 rfl rfl).trans (congrArg Value.bool g103))⟩) (S.move rfl (L 9 rfl rfl)) ?_
      refine U.p rfl rfl (.inr ⟨_, _, _, rfl, rfl, ((L 2 rfl rfl).trans (congrArg Value.bool g103))⟩) (S.nilCheck rfl (L 0 rfl rfl)) ?_
      refine U.p (v := .pointer (some ⟨b1, 0, none⟩)) rfl rfl (.inr ⟨_, _, _, rfl, rfl, ((L 3 rfl rfl).trans (congrArg Value.bool g103))⟩) (S.fieldAddr rfl (L 0 rfl rfl) Try.underlying62 rfl ti53 rfl rfl) ?_
      refine U.k rfl rfl (.inr ⟨_, _, _, rfl, rfl, ((L 4 rfl rfl).trans (congrArg Value.bool g103))⟩) (S.load rfl (L 0 rfl rfl) Try.underlying53 rfl ((ow.own (k := 0) rfl).cell rfl)) nd ?_
      refine U.p rfl rfl (.inr ⟨_, _, _, rfl, rfl, ((L 5 rfl rfl).trans (congrArg Value.bool g103))⟩) (ow.oslen (k := 1) rfl rfl (L 0 rfl rfl) Try.underlying53) ?_
      refine U.p rfl rfl (.inr ⟨_, _, _, rfl, rfl, ((L 6 rfl rfl).trans (congrArg Value.bool g103))⟩) (S.gtr rfl (L 5 rfl rfl) (L 0 rfl rfl)) ?_
      refine U.p rfl rfl (.inl rfl) (S.pickF rfl ((L 7 rfl rfl).trans (congrArg Value.bool g103)) (L 0 rfl rfl)) ?_
      exact kk [(20, .bool (decide ((p0.events.length : Int) < p1))), (19, .bool (decide ((p0.events.length : Int) < p1))), (18, .int .i64 (p0.events.length : Int)), (17, v4), (16, .pointer (some ⟨b1, 0, none⟩)), (15, .pointer (some ⟨b1, 0, none⟩)), (14, .pointer (some ⟨b1, 0, none⟩)), (13, .int .i64 p1)] _ ⟨.bool (decide ((p0.events.length : Int) < p1)), .int .i64 (p0.events.length : Int), v4, .pointer (some ⟨b1, 0, none⟩), .pointer (some ⟨b1, 0, none⟩), .pointer (some ⟨b1, 0, none⟩), .int .i64 p1, rfl, (by rw [g103, Bool.false_or])⟩

set_option maxHeartbeats 4000000 in
set_option maxRecDepth 10000 in
theorem wk_law16_StorageAcks (V : Vw) (Rs : List At) (p0 : Int) (p1 : List Tlaw16_Call) (v1 : Value) (f2 : Fz RT_Tlaw16_Call V v1 p1) (ow : Ow V (Rs)) (r : Bool) (h : law16_StorageAcks p0 p1 = some r) : ∃ v V', Cl Try.prog 0 6 #[.int .i64 p0, v1] V.H v V'.H ∧ V.le V' ∧ (v = .bool r ∧ Ow V' (Rs)) := by
  refine Ct.of (Nat.zero_le _) Try.func6 rfl (Nat.le_of_ble_eq_true rfl) ?_
  unfold law16_StorageAcks at h
  refine WP.usreg rfl ?_
  refine U.p rfl rfl (.inl rfl) (S.assign rfl K) ?_
  refine U.done (Nat.le_of_ble_eq_true rfl) ?_
  refine WP.seq ?_
  refine WP.usreg rfl ?_
  obtain ⟨x3, hx4, h5⟩ := bindS h
  refine O.call (V := V) rfl rfl (.inl rfl) rfl en9 aN (wk_law16_alive V _ ow _ hx4) (fun _ _ _ _ => nd) (fun v6 V7 le8 hp9 => ?_)
  obtain ⟨rfl, ow10⟩ := hp9
  refine U.p rfl rfl (.inl rfl) (S.not rfl (L 0 rfl rfl)) ?_
  refine U.done (Nat.le_of_ble_eq_true rfl) ?_
  refine WP.cond _ (L 0 rfl rfl) rfl (fun c11 => ?_) (fun c11 => ?_)
  · have h12 := ifT c11 h5
    have k13 : x3 = false := by simpa using c11
    refine WP.usreg rfl ?_
    refine U.p rfl rfl (.inl rfl) (S.assign rfl K) ?_
    refine U.done (Nat.le_of_ble_eq_true rfl) ?_
    refine WP.ret ?_
    refine sqR ?_
    refine fin.slot (.inr rfl) rfl (L 0 rfl rfl) ⟨V7, rfl, le8, ?_⟩
    have e14 := Option.some.inj h12
    subst e14
    exact ⟨rfl, ow10⟩
  · have h15 := ifF c11 h5
    have k16 : x3 = true := by simpa using c11
    refine WP.skip ?_
    refine sqN ?_
    refine WP.seq ?_
    refine WP.usreg rfl ?_
    refine U.p rfl rfl (.inl rfl) (S.move rfl (L 4 rfl rfl)) ?_
    refine U.p rfl rfl (.inl rfl) (f2.1.len rfl (L 0 rfl rfl) Try.underlying22) ?_
    refine U.p rfl rfl (.inl rfl) (S.gtr rfl (L 0 rfl rfl) K) ?_
    refine U.done (Nat.le_of_ble_eq_true rfl) ?_
    refine WP.cond _ (L 0 rfl rfl) rfl (fun c17 => ?_) (fun c17 => ?_)
    · have h18 := ifT c17 h15
      refine WP.usreg rfl ?_
      refine U.p rfl rfl (.inl rfl) (S.assign rfl K) ?_
      refine U.done (Nat.le_of_ble_eq_true rfl) ?_
      refine WP.ret ?_
      refine sqR ?_
      refine fin.slot (.inr rfl) rfl (L 0 rfl rfl) ⟨V7, rfl, le8, ?_⟩
      have e19 := Option.some.inj h18
      subst e19
      exact ⟨rfl, ow10⟩
    · have h20 := ifF c17 h15
      refine WP.skip ?_
      refine sqN ?_
      refine WP.usreg rfl ?_
      refine U.p rfl rfl (.inl rfl) (S.move rfl (L 6 rfl rfl)) ?_
      obtain ⟨x21, hx22, h23⟩ := bindS h20
      refine O.call (V := V7) rfl rfl (.inl rfl) rfl en14 (aC (L 0 rfl rfl) aN) (wk_ref16_New V7 _ p0 ow10 _ hx22) (fun _ _ _ _ => nd) (fun v24 V25 le26 hp27 => ?_)
      obtain ⟨b29, z30, v32, v34, hs35, rfl, ow28⟩ := hp27
      refine U.p rfl rfl (.inl rfl) (S.assign rfl (L 0 rfl rfl)) ?_
      refine U.done (Nat.le_of_ble_eq_true rfl) ?_
      refine WP.usreg rfl ?_
      refine U.p rfl rfl (.inl rfl) (S.move rfl (L 9 rfl rfl)) ?_
      obtain ⟨x37, hx38, h39⟩ := bindS h23
      refine O.call (V := V25) rfl rfl (.inl rfl) rfl en10 (aC (L 0 rfl rfl) aN) (wk_storage_New V25 _ p0 ow28 _ hx38) (fun _ _ _ _ => nd) (fun v40 V41 le42 hp43 => ?_)
      obtain ⟨b45, z46, v48, v50, hs51, v53, hs54, v56, hs57, v59, rfl, ow44⟩ := hp43
      refine U.p rfl rfl (.inl rfl) (S.assign rfl (L 0 rfl rfl)) ?_
      refine U.done (Nat.le_of_ble_eq_true rfl) ?_
      refine WP.seq ?_
      refine WP.usreg rfl ?_
      refine U.p rfl rfl (.inl rfl) (S.move rfl (L 13 rfl rfl)) ?_
      refine U.p rfl rfl (.inl rfl) (f2.1.len rfl (L 0 rfl rfl) Try.underlying22) ?_
      refine U.p rfl rfl (.inl rfl) (S.move rfl K) ?_
      refine U.done (Nat.le_of_ble_eq_true rfl) ?_
      refine WP.blk ?_
      have ow88 := ow44.pick 5 rfl
      have ow89 := ow88.pick 5 rfl
      have ow90 := ow89.pick 5 rfl
      have ow91 := ow90.pick 5 rfl
      have ow92 := ow91.pick 5 rfl
      have ow93 := ow92.pick 5 rfl
      have ow94 := ow93.pick 8 rfl
      have ow95 := ow94.pick 8 rfl
      have ow96 := ow95.pick 8 rfl
      unfold law16_StorageAcks_l1 at h39
      obtain ⟨n98, hn97⟩ := loopO_some.1 h39
      refine WP.loopI2 (fun n l V' => ∃ (x61 : Int) (v63 : Value) (xs64 : List Tref16_Event) (v66 : Value) (hs67 : List Value) (xs68 : List (List Int)) (v70 : Value) (xs71 : List Tref16_Event) (v73 : Value) (hs74 : List Value) (xs75 : List (List Int)) (v77 : Value) (hs78 : List Value) (xs79 : List (List (Int × Bool))) (v81 : Value) (hs82 : List Value) (xs83 : List (List (Int × Int))) (v85 : Value) (xs86 : List (Int × Int)) (x87 : Int), l = [(5, .pointer (some ⟨b29, 0, none⟩)), (6, .pointer (some ⟨b45, 0, none⟩)), (25, v1), (26, .int .i64 (p1.length : Int)), (27, .int .i64 x87)] ∧ V41.le V' ∧ Ow V' (.pt b29 (.cells z30 [.int .i64 x61, v63, v66]) :: .os RT_Tref16_Event v63 xs64 :: .oss (RO.os (RT.int .i64)) v66 hs67 xs68 :: .pt b45 (.cells z46 [v70, v73, v77, v81, v85]) :: .os RT_Tref16_Event v70 xs71 :: .oss (RO.os (RT.int .i64)) v73 hs74 xs75 :: .oss (RO.om RT.bool false) v77 hs78 xs79 :: .oss (RO.om (RT.int .i64) false) v81 hs82 xs83 :: .om (RT.int .i64) false v85 xs86 :: Rs) ∧ itO (fun s => law16_StorageAcks_l1b p1 s.1 s.2.1 s.2.2.1 s.2.2.2.1 s.2.2.2.2.1 s.2.2.2.2.2.1 s.2.2.2.2.2.2.1 s.2.2.2.2.2.2.2.1 s.2.2.2.2.2.2.2.2) n (x61, xs64, xs68, xs71, xs75, xs79, xs83, xs86, x87) = some r) n98 _ ⟨x21.n, v32, x21.e, v34, hs35, x21.come, v48, x37.events, v50, hs51, x37.seen, v53, hs54, x37.has, v56, hs57, x37.now, v59, x37.last, 0, rfl, .refl _, ow96, hn97⟩ (allCons (L 6 rfl rfl) (allCons (L 3 rfl rfl) (allCons (L 2 rfl rfl) (allCons (L 1 rfl rfl) (allCons (L 0 rfl rfl) allNil))))) ?_
      rintro _ _ V99 ⟨x61, v63, xs64, v66, hs67, xs68, v70, xs71, v73, hs74, xs75, v77, hs78, xs79, v81, hs82, xs83, v85, xs86, x87, rfl, le100, ow101, h105⟩
      obtain ⟨m102, q103, rfl, h106, e104⟩ := itS h105
      replace h106 : law16_StorageAcks_l1b p1 x61 xs64 xs68 xs71 xs75 xs79 xs83 xs86 x87 = some q103 := h106
      unfold law16_StorageAcks_l1b at h106
      refine WP.usreg rfl ?_
      refine U.p rfl rfl (.inl rfl) (S.lss rfl (L 4 rfl rfl) (L 3 rfl rfl)) ?_
      refine U.done (Nat.le_of_ble_eq_true rfl) ?_
      refine WP.seq ?_
      refine WP.cond _ (L 0 rfl rfl) rfl (fun c107 => ?_) (fun c107 => ?_)
      · have h108 := ifT c107 h106
        refine WP.skip ?_
        refine sqN ?_
        refine WP.seqI (fun l V' => ∃ (x109 : Int) (v111 : Value) (xs112 : List Tref16_Event) (v114 : Value) (hs115 : List Value) (xs116 : List (List Int)) (v118 : Value) (xs119 : List Tref16_Event) (v121 : Value) (hs122 : List Value) (xs123 : List (List Int)) (v125 : Value) (hs126 : List Value) (xs127 : List (List (Int × Bool))) (v129 : Value) (hs130 : List Value) (xs131 : List (List (Int × Int))) (v133 : Value) (xs134 : List (Int × Int)), l = [(5, .pointer (some ⟨b29, 0, none⟩)), (6, .pointer (some ⟨b45, 0, none⟩)), (25, v1), (26, .int .i64 (p1.length : Int)), (27, .int .i64 x87)] ∧ V99.le V' ∧ Ow V' (.pt b29 (.cells z30 [.int .i64 x109, v111, v114]) :: .os RT_Tref16_Event v111 xs112 :: .oss (RO.os (RT.int .i64)) v114 hs115 xs116 :: .pt b45 (.cells z46 [v118, v121, v125, v129, v133]) :: .os RT_Tref16_Event v118 xs119 :: .oss (RO.os (RT.int .i64)) v121 hs122 xs123 :: .oss (RO.om RT.bool false) v125 hs126 xs127 :: .oss (RO.om (RT.int .i64) false) v129 hs130 xs131 :: .om (RT.int .i64) false v133 xs134 :: Rs) ∧ law16_StorageAcks_k1 x87 x109 xs112 xs116 xs119 xs123 xs127 xs131 xs134 = some q103) ?_ ?_
        · rintro _ V135 ⟨x109, v111, xs112, v114, hs115, xs116, v118, xs119, v121, hs122, xs123, v125, hs126, xs127, v129, hs130, xs131, v133, xs134, rfl, le136, ow137, h138⟩
          unfold law16_StorageAcks_k1 at h138
          refine WP.ureg rfl ?_
          refine U.p rfl rfl (.inl rfl) (S.add rfl (L 4 rfl rfl) K) ?_
          refine U.p rfl rfl (.inl rfl) (S.move rfl (L 0 rfl rfl)) ?_
          refine U.done (Nat.le_of_ble_eq_true rfl) ?_
          refine sqN ?_
          exact ⟨_, V135, rfl, ⟨m102, Nat.lt_succ_self _, x109, v111, xs112, v114, hs115, xs116, v118, xs119, v121, hs122, xs123, v125, hs126, xs127, v129, hs130, xs131, v133, xs134, w64 (x87 + 1), rfl, (le100.trans le136), ow137, backS h138 e104⟩, (allCons (L 2 rfl rfl) (allCons (L 3 rfl rfl) (allCons (L 4 rfl rfl) (allCons (L 5 rfl rfl) (allCons (L 0 rfl rfl) allNil)))))⟩
        · skip
          refine WP.blk ?_
          refine WP.usreg rfl ?_
          obtain ⟨x139, hx140, h141⟩ := bindS h108
          obtain ⟨b142, o143, c144, cs145, hv146, hf147, hr148, hc149⟩ := f2.at hx140
          obtain rfl : cs145 = [.int .i64 x139.kind, .int .i64 x139.t, .int .i64 x139.n, .int .i64 x139.at_, .int .i64 x139.val] := hr148
          refine U.p rfl rfl (.inl rfl) (S.index rfl ((L 3 rfl rfl).trans hv146) (L 5 rfl rfl) Try.underlying22 ti35 (ix_ge hx140) (ix_lt hx140)) ?_
          refine U.k rfl rfl (.inl rfl) (S.loadN (cs := [.int .i64 x139.kind, .int .i64 x139.t, .int .i64 x139.n, .int .i64 x139.at_, .int .i64 x139.val]) rfl (L 0 rfl rfl) Try.underlying35 rfl ti35 rfl (fun j v hj => (((le8.trans le26).trans le42).trans le100).cell hf147 (hc149 j v hj))) nd ?_
          refine O.alloc ow101 rfl rfl (.inl rfl) rfl ti35 rfl rfl nd (fun b150 V151 le152 ow153 => ?_)
          refine O.store (k := 0) (cs := [.int .i64 x139.kind, .int .i64 x139.t, .int .i64 x139.n, .int .i64 x139.at_, .int .i64 x139.val]) (c' := [.int .i64 x139.kind, .int .i64 x139.t, .int .i64 x139.n, .int .i64 x139.at_, .int .i64 x139.val]) ow153 rfl rfl rfl (.inl rfl) rfl (L 0 rfl rfl) (L 1 rfl rfl) ti35 (by simp [topV]) rfl rfl (Nat.le_of_ble_eq_true rfl) rfl rfl nd (fun V155 le156 ow157 => ?_)
          refine U.done (Nat.le_of_ble_eq_true rfl) ?_
          refine WP.usreg rfl ?_
          refine U.p (v := .pointer (some ⟨b150, 0, none⟩)) rfl rfl (.inl rfl) (S.fieldAddr rfl (L 0 rfl rfl) Try.underlying35 rfl ti3 rfl rfl) ?_
          refine U.k rfl rfl (.inl rfl) (S.load rfl (L 0 rfl rfl) Try.underlying3 rfl ((ow157.own (k := 0) rfl).cell rfl)) nd ?_
          refine U.done (Nat.le_of_ble_eq_true rfl) ?_
          refine WP.blk ?_
          refine WP.usreg rfl ?_
          refine U.p rfl rfl (.inl rfl) (S.eqlI rfl (L 0 rfl rfl) K) ?_
          refine U.p rfl rfl (.inl rfl) (S.assign rfl (L 0 rfl rfl)) ?_
          refine U.done (Nat.le_of_ble_eq_true rfl) ?_
          refine WP.cond _ (L 0 rfl rfl) rfl (fun c158 => ?_) (fun c158 => ?_)
          · have h159 := ifT c158 h141
            refine WP.usreg rfl ?_
            refine U.p rfl rfl (.inl rfl) (S.move rfl (L 9 rfl rfl)) ?_
            refine U.p (v := .pointer (some ⟨b150, 1, none⟩)) rfl rfl (.inl rfl) (S.fieldAddr rfl (L 5 rfl rfl) Try.underlying35 rfl ti3 rfl rfl) ?_
            refine U.k rfl rfl (.inl rfl) (S.load rfl (L 0 rfl rfl) Try.underlying3 rfl ((ow157.own (k := 0) rfl).cell rfl)) nd ?_
            refine U.p (v := .pointer (some ⟨b150, 3, none⟩)) rfl rfl (.inl rfl) (S.fieldAddr rfl (L 7 rfl rfl) Try.underlying35 rfl ti3 rfl rfl) ?_
            refine U.k rfl rfl (.inl rfl) (S.load rfl (L 0 rfl rfl) Try.underlying3 rfl ((ow157.own (k := 0) rfl).cell rfl)) nd ?_
            refine U.p (v := .pointer (some ⟨b150, 4, none⟩)) rfl rfl (.inl rfl) (S.fieldAddr rfl (L 9 rfl rfl) Try.underlying35 rfl ti3 rfl rfl) ?_
            refine U.k rfl rfl (.inl rfl) (S.load rfl (L 0 rfl rfl) Try.underlying3 rfl ((ow157.own (k := 0) rfl).cell rfl)) nd ?_
            have ow160 := ow157.pick 9 rfl
            have ow161 := ow160.pick 9 rfl
            have ow162 := ow161.pick 9 rfl
            have ow163 := ow162.pick 9 rfl
            have ow164 := ow163.pick 9 rfl
            have ow165 := ow164.pick 9 rfl
            obtain ⟨x166, hx167, h168⟩ := bindS h159
            refine O.call (V := V155) rfl rfl (.inl rfl) rfl en15 (aC (L 6 rfl rfl) (aC (L 4 rfl rfl) (aC (L 2 rfl rfl) (aC (L 0 rfl rfl) aN)))) (wk_storage_Storage_Write V155 _ (⟨xs71, xs75, xs79, xs83, xs86⟩ : Tstorage_Storage) x139.t x139.at_ x139.val b45 z46 v70 v73 hs74 v77 hs78 v81 hs82 v85 ow165 _ hx167) (fun _ _ _ _ => nd) (fun v169 V170 le171 hp172 => ?_)
            obtain ⟨v174, v176, hs177, v179, hs180, v182, hs183, v185, rfl, ow173⟩ := hp172
            refine U.done (Nat.le_of_ble_eq_true rfl) ?_
            refine WP.ureg rfl ?_
            refine U.p rfl rfl (.inl rfl) (S.move rfl (L 16 rfl rfl)) ?_
            refine U.p (v := .pointer (some ⟨b150, 1, none⟩)) rfl rfl (.inl rfl) (S.fieldAddr rfl (L 13 rfl rfl) Try.underlying35 rfl ti3 rfl rfl) ?_
            refine U.k rfl rfl (.inl rfl) (S.load rfl (L 0 rfl rfl) Try.underlying3 rfl ((ow173.own (k := 6) rfl).cell rfl)) nd ?_
            refine U.p (v := .pointer (some ⟨b150, 3, none⟩)) rfl rfl (.inl rfl) (S.fieldAddr rfl (L 15 rfl rfl) Try.underlying35 rfl ti3 rfl rfl) ?_
            refine U.k rfl rfl (.inl rfl) (S.load rfl (L 0 rfl rfl) Try.underlying3 rfl ((ow173.own (k := 6) rfl).cell rfl)) nd ?_
            refine U.p (v := .pointer (some ⟨b150, 4, none⟩)) rfl rfl (.inl rfl) (S.fieldAddr rfl (L 17 rfl rfl) Try.underlying35 rfl ti3 rfl rfl) ?_
            refine U.k rfl rfl (.inl rfl) (S.load rfl (L 0 rfl rfl) Try.underlying3 rfl ((ow173.own (k := 6) rfl).cell rfl)) nd ?_
            refine U.p (v := .agg #[.int .i64 x139.t, .bool false, .int .i64 x139.at_, .int .i64 x139.val]) rfl rfl (.inl rfl) (S.build (vs := [.int .i64 x139.t, .int .i64 x139.at_, .int .i64 x139.val]) rfl ti39 rfl pl39 (aC (L 4 rfl rfl) (aC (L 2 rfl rfl) (aC (L 0 rfl rfl) aN))) (allC (by simp [topV]) (allC (by simp [topV]) (allC (by simp [topV]) allN))) rfl) ?_
            have ow187 := ow173.pick 9 rfl
            have ow188 := ow187.pick 9 rfl
            have ow189 := ow188.pick 9 rfl
            obtain ⟨x190, hx191, h192⟩ := bindS h168
            refine O.call (V := V170) rfl rfl (.inl rfl) rfl en16 (aC (L 7 rfl rfl) (aC (L 0 rfl rfl) aN)) (wk_ref16_Storage_Accept V170 _ (⟨x61, xs64, xs68⟩ : Tref16_Storage) (⟨x139.t, false, x139.at_, x139.val⟩ : Tref16_Event) b29 z30 v63 v66 hs67 ow189 _ hx191) (fun _ _ _ _ => nd) (fun v193 V194 le195 hp196 => ?_)
            obtain ⟨v198, v200, hs201, rfl, ow197⟩ := hp196
            refine U.done (Nat.le_of_ble_eq_true rfl) ?_
            refine blkN (blkN (sqN ?_))
            have ow203 := ow197.drop 9 rfl
            exact ⟨_, V194, rfl, ⟨x190.2.n, v198, x190.2.e, v200, hs201, x190.2.come, v174, x166.2.events, v176, hs177, x166.2.seen, v179, hs180, x166.2.has, v182, hs183, x166.2.now, v185, x166.2.last, rfl, (((le152.trans le156).trans le171).trans le195), ow203, h192⟩, (allCons (L 25 rfl rfl) (allCons (L 26 rfl rfl) (allCons (L 27 rfl rfl) (allCons (L 28 rfl rfl) (allCons (L 29 rfl rfl) allNil)))))⟩
          · have h204 := ifF c158 h141
            refine WP.usreg rfl ?_
            refine U.p rfl rfl (.inl rfl) (S.eqlI rfl (L 2 rfl rfl) K) ?_
            refine U.p rfl rfl (.inl rfl) (S.assign rfl (L 0 rfl rfl)) ?_
            refine U.done (Nat.le_of_ble_eq_true rfl) ?_
            refine WP.cond _ (L 0 rfl rfl) rfl (fun c205 => ?_) (fun c205 => ?_)
            · have h206 := ifT c205 h204
              refine WP.usreg rfl ?_
              refine U.p rfl rfl (.inl rfl) (S.move rfl (L 11 rfl rfl)) ?_
              refine U.p (v := .pointer (some ⟨b150, 1, none⟩)) rfl rfl (.inl rfl) (S.fieldAddr rfl (L 7 rfl rfl) Try.underlying35 rfl ti3 rfl rfl) ?_
              refine U.k rfl rfl (.inl rfl) (S.load rfl (L 0 rfl rfl) Try.underlying3 rfl ((ow157.own (k := 0) rfl).cell rfl)) nd ?_
              have ow207 := ow157.pick 9 rfl
              have ow208 := ow207.pick 9 rfl
              have ow209 := ow208.pick 9 rfl
              have ow210 := ow209.pick 9 rfl
              have ow211 := ow210.pick 9 rfl
              have ow212 := ow211.pick 9 rfl
              obtain ⟨x213, hx214, h215⟩ := bindS h206
              refine O.call (V := V155) rfl rfl (.inl rfl) rfl en17 (aC (L 2 rfl rfl) (aC (L 0 rfl rfl) aN)) (wk_storage_Storage_Barrier V155 _ (⟨xs71, xs75, xs79, xs83, xs86⟩ : Tstorage_Storage) x139.t b45 z46 v70 v73 hs74 v77 hs78 v81 hs82 v85 ow212 _ hx214) (fun _ _ _ _ => nd) (fun v216 V217 le218 hp219 => ?_)
              obtain ⟨v221, v223, hs224, v226, hs227, v229, hs230, v232, rfl, ow220⟩ := hp219
              refine U.done (Nat.le_of_ble_eq_true rfl) ?_
              refine WP.ureg rfl ?_
              refine U.p rfl rfl (.inl rfl) (S.move rfl (L 14 rfl rfl)) ?_
              refine U.p (v := .pointer (some ⟨b150, 1, none⟩)) rfl rfl (.inl rfl) (S.fieldAddr rfl (L 11 rfl rfl) Try.underlying35 rfl ti3 rfl rfl) ?_
              refine U.k rfl rfl (.inl rfl) (S.load rfl (L 0 rfl rfl) Try.underlying3 rfl ((ow220.own (k := 6) rfl).cell rfl)) nd ?_
              refine U.p (v := .agg #[.int .i64 x139.t, .bool true, .int .i64 0, .int .i64 0]) rfl rfl (.inl rfl) (S.build (vs := [.int .i64 x139.t, .bool true]) rfl ti39 rfl pl39 (aC (L 0 rfl rfl) (aC K aN)) (allC (by simp [topV]) (allC (by simp [topV]) allN)) rfl) ?_
              have ow234 := ow220.pick 9 rfl
              have ow235 := ow234.pick 9 rfl
              have ow236 := ow235.pick 9 rfl
              obtain ⟨x237, hx238, h239⟩ := bindS h215
              refine O.call (V := V217) rfl rfl (.inl rfl) rfl en16 (aC (L 3 rfl rfl) (aC (L 0 rfl rfl) aN)) (wk_ref16_Storage_Accept V217 _ (⟨x61, xs64, xs68⟩ : Tref16_Storage) (⟨x139.t, true, 0, 0⟩ : Tref16_Event) b29 z30 v63 v66 hs67 ow236 _ hx238) (fun _ _ _ _ => nd) (fun v240 V241 le242 hp243 => ?_)
              obtain ⟨v245, v247, hs248, rfl, ow244⟩ := hp243
              refine U.done (Nat.le_of_ble_eq_true rfl) ?_
              refine blkN (blkN (sqN ?_))
              have ow250 := ow244.drop 9 rfl
              exact ⟨_, V241, rfl, ⟨x237.2.n, v245, x237.2.e, v247, hs248, x237.2.come, v221, x213.2.events, v223, hs224, x213.2.seen, v226, hs227, x213.2.has, v229, hs230, x213.2.now, v232, x213.2.last, rfl, (((le152.trans le156).trans le218).trans le242), ow250, h239⟩, (allCons (L 19 rfl rfl) (allCons (L 20 rfl rfl) (allCons (L 21 rfl rfl) (allCons (L 22 rfl rfl) (allCons (L 23 rfl rfl) allNil)))))⟩
            · have h251 := ifF c205 h204
              refine WP.usreg rfl ?_
              refine U.p rfl rfl (.inl rfl) (S.eqlI rfl (L 4 rfl rfl) K) ?_
              refine U.p rfl rfl (.inl rfl) (S.assign rfl (L 0 rfl rfl)) ?_
              refine U.done (Nat.le_of_ble_eq_true rfl) ?_
              refine WP.cond _ (L 0 rfl rfl) rfl (fun c252 => ?_) (fun c252 => ?_)
              · have h253 := ifT c252 h251
                refine WP.usreg rfl ?_
                refine U.p rfl rfl (.inl rfl) (S.move rfl (L 13 rfl rfl)) ?_
                refine U.p (v := .pointer (some ⟨b150, 1, none⟩)) rfl rfl (.inl rfl) (S.fieldAddr rfl (L 9 rfl rfl) Try.underlying35 rfl ti3 rfl rfl) ?_
                refine U.k rfl rfl (.inl rfl) (S.load rfl (L 0 rfl rfl) Try.underlying3 rfl ((ow157.own (k := 0) rfl).cell rfl)) nd ?_
                refine U.p (v := .pointer (some ⟨b150, 2, none⟩)) rfl rfl (.inl rfl) (S.fieldAddr rfl (L 11 rfl rfl) Try.underlying35 rfl ti3 rfl rfl) ?_
                refine U.k rfl rfl (.inl rfl) (S.load rfl (L 0 rfl rfl) Try.underlying3 rfl ((ow157.own (k := 0) rfl).cell rfl)) nd ?_
                have ow254 := ow157.pick 9 rfl
                have ow255 := ow254.pick 9 rfl
                have ow256 := ow255.pick 9 rfl
                have ow257 := ow256.pick 9 rfl
                have ow258 := ow257.pick 9 rfl
                have ow259 := ow258.pick 9 rfl
                obtain ⟨x260, hx261, h262⟩ := bindS h253
                refine O.call (V := V155) rfl rfl (.inl rfl) rfl en18 (aC (L 4 rfl rfl) (aC (L 2 rfl rfl) (aC (L 0 rfl rfl) aN))) (wk_storage_Storage_Go V155 _ (⟨xs71, xs75, xs79, xs83, xs86⟩ : Tstorage_Storage) x139.t x139.n b45 z46 v70 v73 hs74 v77 hs78 v81 hs82 v85 ow259 _ hx261) (fun _ _ _ _ => nd) (fun v263 V264 le265 hp266 => ?_)
                obtain ⟨v268, v270, hs271, v273, hs274, v276, hs277, v279, rfl, ow267⟩ := hp266
                refine U.p rfl rfl (.inl rfl) (S.eqlI rfl (L 0 rfl rfl) K) ?_
                refine U.done (Nat.le_of_ble_eq_true rfl) ?_
                refine WP.cond _ (L 0 rfl rfl) rfl (fun c281 => ?_) (fun c281 => ?_)
                · have h282 := ifT c281 h262
                  refine WP.udreg rfl rfl rfl ?_
                  refine U.p rfl rfl (.inl rfl) (S.move rfl (L 19 rfl rfl)) ?_
                  refine U.p rfl rfl (.inl rfl) (S.nilCheck rfl (L 0 rfl rfl)) ?_
                  refine U.p (v := .pointer (some ⟨b29, 2, none⟩)) rfl rfl (.inl rfl) (S.fieldAddr rfl (L 0 rfl rfl) Try.underlying46 rfl ti44 rfl rfl) ?_
                  refine U.k rfl rfl (.inl rfl) (S.load rfl (L 0 rfl rfl) Try.underlying44 rfl ((ow267.own (k := 7) rfl).cell rfl)) (fun _ => (okH.nil (fun r h => by cases h; exact (ow267.own (k := 7) rfl).lt))) ?_
                  refine U.p (v := .pointer (some ⟨b150, 1, none⟩)) rfl rfl (.inl rfl) (S.fieldAddr rfl (L 19 rfl rfl) Try.underlying35 rfl ti3 rfl rfl) ?_
                  refine U.k rfl rfl (.inl rfl) (S.load rfl (L 0 rfl rfl) Try.underlying3 rfl ((ow267.own (k := 6) rfl).cell rfl)) (fun _ => (okH.cons trivial (okH.nil (fun r h => by cases h; exact (ow267.own (k := 6) rfl).lt)))) ?_
                  refine U.p rfl rfl (.inl rfl) (S.move rfl (L 25 rfl rfl)) ?_
                  refine U.p rfl rfl (.inl rfl) (S.nilCheck rfl (L 0 rfl rfl)) ?_
                  refine U.p (v := .pointer (some ⟨b29, 2, none⟩)) rfl rfl (.inl rfl) (S.fieldAddr rfl (L 0 rfl rfl) Try.underlying46 rfl ti44 rfl rfl) ?_
                  refine U.k rfl rfl (.inl rfl) (S.load rfl (L 0 rfl rfl) Try.underlying44 rfl ((ow267.own (k := 7) rfl).cell rfl)) (fun _ => (okH.cons trivial (okH.cons trivial (okH.nil (fun r h => by cases h; exact (ow267.own (k := 7) rfl).lt))))) ?_
                  refine U.p (v := .pointer (some ⟨b150, 1, none⟩)) rfl rfl (.inl rfl) (S.fieldAddr rfl (L 25 rfl rfl) Try.underlying35 rfl ti3 rfl rfl) ?_
                  refine U.k rfl rfl (.inl rfl) (S.load rfl (L 0 rfl rfl) Try.underlying3 rfl ((ow267.own (k := 6) rfl).cell rfl)) (fun _ => (okH.cons trivial (okH.cons trivial (okH.cons trivial (okH.nil (fun r h => by cases h; exact (ow267.own (k := 6) rfl).lt)))))) ?_
                  obtain ⟨x283, hx284, h285⟩ := bindS h282
                  obtain ⟨b286, o287, n288, c289, hv290⟩ := ow267.sspt (k := 9) rfl hx284
                  refine U.p rfl rfl (.inl rfl) (S.index rfl ((L 2 rfl rfl).trans (ow267.sslen' (k := 9) rfl hv290)) (L 0 rfl rfl) Try.underlying44 ti26 (ix_ge hx284) (ix_lt hx284)) ?_
                  obtain ⟨h291, hh292, ow293⟩ := ow267.ssopen (k := 9) rfl hx284
                  have hcl295 := ow293.shcell (k := 10) rfl hv290 hh292
                  refine U.k rfl rfl (.inl rfl) (S.load rfl (L 0 rfl rfl) Try.underlying26 rfl hcl295.2) (fun _ => (okH.cons trivial (okH.cons trivial (okH.cons trivial (okH.cons trivial (okH.nil (fun r h => by cases h; exact hcl295.1))))))) ?_
                  refine U.p (v := .pointer (some ⟨b150, 2, none⟩)) rfl rfl (.inl rfl) (S.fieldAddr rfl (L 29 rfl rfl) Try.underlying35 rfl ti3 rfl rfl) ?_
                  refine U.k rfl rfl (.inl rfl) (S.load rfl (L 0 rfl rfl) Try.underlying3 rfl ((ow293.own (k := 7) rfl).cell rfl)) (fun _ => (okH.cons trivial (okH.cons trivial (okH.cons trivial (okH.cons trivial (okH.cons trivial (okH.nil (fun r h => by cases h; exact (ow293.own (k := 7) rfl).lt)))))))) ?_
                  refine O.lit (R := (RT.int .i64)) ow293 rfl rfl (.inl rfl) rfl Try.underlying26 ti3 rfl rfl rfl (Nat.le_of_ble_eq_true rfl) rfl (aC (L 0 rfl rfl) aN) (.cons _ _ x139.n _ (by simp [topV]) rfl .nil) (fun _ => (fun _ => (okH.cons trivial (okH.cons trivial (okH.cons trivial (okH.cons trivial (okH.cons trivial (okH.cons trivial (okH.nil (fun r h => nomatch h)))))))))) (fun v296 V297 le298 ow299 => ?_)
                  obtain ⟨xs301, hx302, h303⟩ := bindS h285
                  refine O.append (k := 1) ow299 rfl rfl rfl (.inl rfl) rfl (L 3 rfl rfl) (L 0 rfl rfl) Try.underlying26 ti3 rfl rfl (Nat.le_of_ble_eq_true rfl) (ow299.src (k := 0) rfl Try.underlying26) hx302 (fun V1 hs => (fun _ => (okH.cons (Or.inl rfl) (okH.cons (Or.inl rfl) (okH.cons (Or.inl rfl) (okH.cons (Or.inl rfl) (okH.cons (Or.inl rfl) (okH.cons (Or.inr (hs _ (ow299.own (k := 8) rfl).lt (ow299.noos (j := 8) (k := 1) rfl rfl (by decide)))) (okH.cons (Or.inr (hs _ (ow299.own (k := 9) rfl).lt (ow299.noos (j := 9) (k := 1) rfl rfl (by decide)))) (okH.nil (fun r h => nomatch h))))))))))) (fun v304 V305 le306 ow307 => ?_)
                  obtain ⟨x309, hx310, h311⟩ := bindS h303
                  refine U.p rfl rfl (.inl rfl) (S.index rfl ((L 14 rfl rfl).trans (ow307.shlen' (k := 11) rfl hv290)) (L 12 rfl rfl) Try.underlying44 ti26 (ix_ge hx310) (ix_lt hx310)) ?_
                  refine O.storeH (k := 11) ow307 rfl hv290 rfl rfl (.inl rfl) rfl (L 0 rfl rfl) (L 1 rfl rfl) ti26 (ow307.osne (k := 1) rfl) (by rw [ow307.oscells (k := 1) rfl]) (ow307.osone (k := 1) rfl) (fun H1 hs => (fun _ => (okH.cons rfl (okH.cons (Or.inl rfl) (okH.cons (Or.inl rfl) (okH.cons (Or.inl rfl) (okH.cons (Or.inl rfl) (okH.cons (Or.inl rfl) (okH.cons (Or.inl rfl) (okH.cons (Or.inl rfl) (okH.nil (fun r h => nomatch h)))))))))))) (fun V312 le313 ow314 => ?_)
                  have hh315 := ow314.shset (k := 11) rfl
                  refine U.done (Nat.le_of_ble_eq_true rfl) ?_
                  refine blkN (blkN (sqN ?_))
                  have ow316 := ow314.ssclose (k := 11) (j := 1) rfl rfl (by decide) hh315
                  have ow317 := ow316.drop 0 rfl
                  have ow318 := ow317.drop 6 rfl
                  have ow319 := ow318.pick 5 rfl
                  have ow320 := ow319.pick 5 rfl
                  have ow321 := ow320.pick 5 rfl
                  have ow322 := ow321.pick 5 rfl
                  have ow323 := ow322.pick 5 rfl
                  have ow324 := ow323.pick 5 rfl
                  have ow325 := ow324.pick 8 rfl
                  have ow326 := ow325.pick 8 rfl
                  have ow327 := ow326.pick 8 rfl
                  exact ⟨_, V312, rfl, ⟨x61, v63, xs64, v66, hs67.set (Int.toNat x139.t) v304, xs68.set (Int.toNat x139.t) xs301, v268, x260.2.events, v270, hs271, x260.2.seen, v273, hs274, x260.2.has, v276, hs277, x260.2.now, v279, x260.2.last, rfl, (((((le152.trans le156).trans le265).trans le298).trans le306).trans le313), ow327, h311⟩, (allCons (L 38 rfl rfl) (allCons (L 39 rfl rfl) (allCons (L 40 rfl rfl) (allCons (L 41 rfl rfl) (allCons (L 42 rfl rfl) allNil)))))⟩
                · have h328 := ifF c281 h262
                  refine WP.skip ?_
                  refine blkN (blkN (sqN ?_))
                  have ow329 := ow267.drop 6 rfl
                  have ow330 := ow329.pick 5 rfl
                  have ow331 := ow330.pick 5 rfl
                  have ow332 := ow331.pick 5 rfl
                  have ow333 := ow332.pick 5 rfl
                  have ow334 := ow333.pick 5 rfl
                  have ow335 := ow334.pick 5 rfl
                  have ow336 := ow335.pick 8 rfl
                  have ow337 := ow336.pick 8 rfl
                  have ow338 := ow337.pick 8 rfl
                  exact ⟨_, V264, rfl, ⟨x61, v63, xs64, v66, hs67, xs68, v268, x260.2.events, v270, hs271, x260.2.seen, v273, hs274, x260.2.has, v276, hs277, x260.2.now, v279, x260.2.last, rfl, ((le152.trans le156).trans le265), ow338, h328⟩, (allCons (L 19 rfl rfl) (allCons (L 20 rfl rfl) (allCons (L 21 rfl rfl) (allCons (L 22 rfl rfl) (allCons (L 23 rfl rfl) allNil)))))⟩
              · have h339 := ifF c252 h251
                refine WP.skip ?_
                refine blkN (blkN (sqN ?_))
                have ow340 := ow157.drop 0 rfl
                exact ⟨_, V155, rfl, ⟨x61, v63, xs64, v66, hs67, xs68, v70, xs71, v73, hs74, xs75, v77, hs78, xs79, v81, hs82, xs83, v85, xs86, rfl, (le152.trans le156), ow340, h339⟩, (allCons (L 12 rfl rfl) (allCons (L 13 rfl rfl) (allCons (L 14 rfl rfl) (allCons (L 15 rfl rfl) (allCons (L 16 rfl rfl) allNil)))))⟩
      · have h341 := ifF c107 h106
        refine WP.exit ?_
        refine sqE (sqE (blkE (sqN ?_)))
        have h342 := exitS h341 e104
        refine WP.seq ?_
        refine WP.usreg rfl ?_
        refine U.p rfl rfl (.inl rfl) (S.move rfl (L 1 rfl rfl)) ?_
        refine U.p rfl rfl (.inl rfl) (S.nilCheck rfl (L 0 rfl rfl)) ?_
        refine U.p (v := .pointer (some ⟨b29, 1, none⟩)) rfl rfl (.inl rfl) (S.fieldAddr rfl (L 0 rfl rfl) Try.underlying46 rfl ti43 rfl rfl) ?_
        refine U.k rfl rfl (.inl rfl) (S.load rfl (L 0 rfl rfl) Try.underlying43 rfl ((ow101.own (k := 0) rfl).cell rfl)) nd ?_
        refine U.p rfl rfl (.inl rfl) (ow101.oslen (k := 1) rfl rfl (L 0 rfl rfl) Try.underlying43) ?_
        refine U.p rfl rfl (.inl rfl) (S.move rfl K) ?_
        refine U.done (Nat.le_of_ble_eq_true rfl) ?_
        refine WP.blk ?_
        unfold law16_StorageAcks_l2 at h342
        obtain ⟨n345, hn344⟩ := loopO_some.1 h342
        refine WP.loopI2 (fun n l V' => ∃ (x343 : Int), l = [(5, .pointer (some ⟨b29, 0, none⟩)), (6, .pointer (some ⟨b45, 0, none⟩)), (95, v63), (96, .int .i64 (xs64.length : Int)), (97, .int .i64 x343)] ∧ V99.le V' ∧ Ow V' (.pt b29 (.cells z30 [.int .i64 x61, v63, v66]) :: .os RT_Tref16_Event v63 xs64 :: .oss (RO.os (RT.int .i64)) v66 hs67 xs68 :: .pt b45 (.cells z46 [v70, v73, v77, v81, v85]) :: .os RT_Tref16_Event v70 xs71 :: .oss (RO.os (RT.int .i64)) v73 hs74 xs75 :: .oss (RO.om RT.bool false) v77 hs78 xs79 :: .oss (RO.om (RT.int .i64) false) v81 hs82 xs83 :: .om (RT.int .i64) false v85 xs86 :: Rs) ∧ itO (fun s => law16_StorageAcks_l2b x61 xs64 xs68 xs71 xs75 xs79 xs83 xs86 s) n x343 = some r) n345 _ ⟨0, rfl, .refl _, ow101, hn344⟩ (allCons (L 7 rfl rfl) (allCons (L 8 rfl rfl) (allCons (L 2 rfl rfl) (allCons (L 1 rfl rfl) (allCons (L 0 rfl rfl) allNil))))) ?_
        rintro _ _ V346 ⟨x343, rfl, le347, ow348, h352⟩
        obtain ⟨m349, q350, rfl, h353, e351⟩ := itS h352
        replace h353 : law16_StorageAcks_l2b x61 xs64 xs68 xs71 xs75 xs79 xs83 xs86 x343 = some q350 := h353
        unfold law16_StorageAcks_l2b at h353
        refine WP.usreg rfl ?_
        refine U.p rfl rfl (.inl rfl) (S.lss rfl (L 4 rfl rfl) (L 3 rfl rfl)) ?_
        refine U.done (Nat.le_of_ble_eq_true rfl) ?_
        refine WP.seq ?_
        refine WP.cond _ (L 0 rfl rfl) rfl (fun c354 => ?_) (fun c354 => ?_)
        · have h355 := ifT c354 h353
          refine WP.skip ?_
          refine sqN ?_
          refine WP.seqI (fun l V' => l = [(5, .pointer (some ⟨b29, 0, none⟩)), (6, .pointer (some ⟨b45, 0, none⟩)), (95, v63), (96, .int .i64 (xs64.length : Int)), (97, .int .i64 x343)] ∧ V346.le V' ∧ Ow V' (.pt b29 (.cells z30 [.int .i64 x61, v63, v66]) :: .os RT_Tref16_Event v63 xs64 :: .oss (RO.os (RT.int .i64)) v66 hs67 xs68 :: .pt b45 (.cells z46 [v70, v73, v77, v81, v85]) :: .os RT_Tref16_Event v70 xs71 :: .oss (RO.os (RT.int .i64)) v73 hs74 xs75 :: .oss (RO.om RT.bool false) v77 hs78 xs79 :: .oss (RO.om (RT.int .i64) false) v81 hs82 xs83 :: .om (RT.int .i64) false v85 xs86 :: Rs) ∧ law16_StorageAcks_k2 x343  = some q350) ?_ ?_
          · rintro _ V356 ⟨rfl, le357, ow358, h359⟩
            unfold law16_StorageAcks_k2 at h359
            refine WP.ureg rfl ?_
            refine U.p rfl rfl (.inl rfl) (S.add rfl (L 4 rfl rfl) K) ?_
            refine U.p rfl rfl (.inl rfl) (S.move rfl (L 0 rfl rfl)) ?_
            refine U.done (Nat.le_of_ble_eq_true rfl) ?_
            refine sqN ?_
            exact ⟨_, V356, rfl, ⟨m349, Nat.lt_succ_self _, w64 (x343 + 1), rfl, (le347.trans le357), ow358, backS h359 e351⟩, (allCons (L 2 rfl rfl) (allCons (L 3 rfl rfl) (allCons (L 4 rfl rfl) (allCons (L 5 rfl rfl) (allCons (L 0 rfl rfl) allNil)))))⟩
          · skip
            refine WP.blk ?_
            refine WP.usreg rfl ?_
            refine U.p rfl rfl (.inl rfl) (S.move rfl (L 5 rfl rfl)) ?_
            obtain ⟨x360, hx361, h362⟩ := bindS h355
            obtain ⟨b363, o364, n365, c366, hv367⟩ := ow348.ospt (k := 1) rfl hx361
            obtain ⟨_, hv368, _⟩ := ow348.osel (k := 1) rfl hv367 hx361
            refine U.p rfl rfl (.inl rfl) (S.index rfl ((L 4 rfl rfl).trans hv368) (L 6 rfl rfl) Try.underlying43 ti39 (ix_ge hx361) (ix_lt hx361)) ?_
            obtain ⟨cs369, hv370, hlt371, hr372, hc373⟩ := ow348.osel (k := 1) rfl hv367 hx361
            obtain rfl : cs369 = [.int .i64 x360.thread, .bool x360.bar, .int .i64 x360.at_, .int .i64 x360.val] := hr372
            refine U.k rfl rfl (.inl rfl) (S.loadN (cs := [.int .i64 x360.thread, .bool x360.bar, .int .i64 x360.at_, .int .i64 x360.val]) rfl (L 0 rfl rfl) Try.underlying39 rfl ti39 rfl hc373) nd ?_
            refine O.alloc ow348 rfl rfl (.inl rfl) rfl ti39 rfl rfl nd (fun b374 V375 le376 ow377 => ?_)
            refine U.p rfl rfl (.inl rfl) (S.assign rfl (L 3 rfl rfl)) ?_
            refine O.store (k := 0) (cs := [.int .i64 x360.thread, .bool x360.bar, .int .i64 x360.at_, .int .i64 x360.val]) (c' := [.int .i64 x360.thread, .bool x360.bar, .int .i64 x360.at_, .int .i64 x360.val]) ow377 rfl rfl rfl (.inl rfl) rfl (L 1 rfl rfl) (L 2 rfl rfl) ti39 (by simp [topV]) rfl rfl (Nat.le_of_ble_eq_true rfl) rfl rfl nd (fun V379 le380 ow381 => ?_)
            refine U.done (Nat.le_of_ble_eq_true rfl) ?_
            refine WP.seq ?_
            refine WP.usreg rfl ?_
            refine U.p rfl rfl (.inl rfl) (S.move rfl (L 7 rfl rfl)) ?_
            refine U.p rfl rfl (.inl rfl) (S.move rfl (L 1 rfl rfl)) ?_
            refine U.p rfl rfl (.inl rfl) (S.add rfl (L 0 rfl rfl) K) ?_
            have ow382 := ow381.pick 9 rfl
            have ow383 := ow382.pick 9 rfl
            have ow384 := ow383.pick 9 rfl
            have ow385 := ow384.pick 9 rfl
            have ow386 := ow385.pick 9 rfl
            have ow387 := ow386.pick 9 rfl
            obtain ⟨x388, hx389, h390⟩ := bindS h362
            refine O.call (V := V379) rfl rfl (.inl rfl) rfl en22 (aC (L 2 rfl rfl) (aC (L 0 rfl rfl) aN)) (wk_storage_Storage_Acked V379 _ (⟨xs71, xs75, xs79, xs83, xs86⟩ : Tstorage_Storage) (w64 (x343 + 1)) b45 z46 v70 v73 hs74 v77 hs78 v81 hs82 v85 ow387 _ hx389) (fun _ _ _ _ => nd) (fun v391 V392 le393 hp394 => ?_)
            obtain ⟨rfl, ow395⟩ := hp394
            refine U.p rfl rfl (.inl rfl) (S.not rfl (L 0 rfl rfl)) ?_
            refine U.done (Nat.le_of_ble_eq_true rfl) ?_
            refine WP.cond _ (L 0 rfl rfl) rfl (fun c396 => ?_) (fun c396 => ?_)
            · have h397 := ifT c396 h390
              have k398 : x388 = false := by simpa using c396
              refine WP.exit ?_
              refine sqE (blkE (sqN ?_))
              have ow399 := ow395.drop 6 rfl
              have ow400 := ow399.pick 5 rfl
              have ow401 := ow400.pick 5 rfl
              have ow402 := ow401.pick 5 rfl
              have ow403 := ow402.pick 5 rfl
              have ow404 := ow403.pick 5 rfl
              have ow405 := ow404.pick 5 rfl
              have ow406 := ow405.pick 8 rfl
              have ow407 := ow406.pick 8 rfl
              have ow408 := ow407.pick 8 rfl
              exact ⟨_, V392, rfl, ⟨rfl, ((le376.trans le380).trans le393), ow408, h397⟩, (allCons (L 11 rfl rfl) (allCons (L 12 rfl rfl) (allCons (L 13 rfl rfl) (allCons (L 14 rfl rfl) (allCons (L 15 rfl rfl) allNil)))))⟩
            · have h409 := ifF c396 h390
              have k410 : x388 = true := by simpa using c396
              refine WP.skip ?_
              refine sqN ?_
              refine WP.usreg rfl ?_
              refine U.p rfl rfl (.inl rfl) (S.assign rfl K) ?_
              refine U.done (Nat.le_of_ble_eq_true rfl) ?_
              refine WP.blk ?_
              have ow412 := ow395.pick 6 rfl
              have ow413 := ow412.pick 6 rfl
              have ow414 := ow413.pick 6 rfl
              have ow415 := ow414.pick 6 rfl
              have ow416 := ow415.pick 6 rfl
              have ow417 := ow416.pick 6 rfl
              have ow418 := ow417.pick 6 rfl
              have ow419 := ow418.pick 9 rfl
              have ow420 := ow419.pick 9 rfl
              have ow421 := ow420.pick 9 rfl
              unfold law16_StorageAcks_l3 at h409
              obtain ⟨n423, hn422⟩ := loopO_some.1 h409
              refine WP.loopI2 (fun n l V' => ∃ (x411 : Int), l = [(5, .pointer (some ⟨b29, 0, none⟩)), (6, .pointer (some ⟨b45, 0, none⟩)), (9, .int .i64 x343), (10, .pointer (some ⟨b374, 0, none⟩)), (11, .int .i64 x411), (95, v63), (96, .int .i64 (xs64.length : Int)), (97, .int .i64 x343)] ∧ V392.le V' ∧ Ow V' (.pt b29 (.cells z30 [.int .i64 x61, v63, v66]) :: .os RT_Tref16_Event v63 xs64 :: .oss (RO.os (RT.int .i64)) v66 hs67 xs68 :: .pt b45 (.cells z46 [v70, v73, v77, v81, v85]) :: .os RT_Tref16_Event v70 xs71 :: .oss (RO.os (RT.int .i64)) v73 hs74 xs75 :: .oss (RO.om RT.bool false) v77 hs78 xs79 :: .oss (RO.om (RT.int .i64) false) v81 hs82 xs83 :: .om (RT.int .i64) false v85 xs86 :: .pt b374 (.cells 4 [.int .i64 x360.thread, .bool x360.bar, .int .i64 x360.at_, .int .i64 x360.val]) :: Rs) ∧ itO (fun s => law16_StorageAcks_l3b x61 xs64 xs68 xs71 xs75 xs79 xs83 xs86 x343 x360 s) n x411 = some q350) n423 _ ⟨0, rfl, .refl _, ow421, hn422⟩ (allCons (L 12 rfl rfl) (allCons (L 13 rfl rfl) (allCons (L 6 rfl rfl) (allCons (L 7 rfl rfl) (allCons (L 0 rfl rfl) (allCons (L 14 rfl rfl) (allCons (L 15 rfl rfl) (allCons (L 16 rfl rfl) allNil)))))))) ?_
              rintro _ _ V424 ⟨x411, rfl, le425, ow426, h430⟩
              obtain ⟨m427, q428, rfl, h431, e429⟩ := itS h430
              replace h431 : law16_StorageAcks_l3b x61 xs64 xs68 xs71 xs75 xs79 xs83 xs86 x343 x360 x411 = some q428 := h431
              unfold law16_StorageAcks_l3b at h431
              refine WP.seq ?_
              refine WP.usreg rfl ?_
              refine U.p rfl rfl (.inl rfl) (S.move rfl (L 4 rfl rfl)) ?_
              refine U.p rfl rfl (.inl rfl) (S.move rfl (L 2 rfl rfl)) ?_
              have ow432 := ow426.pick 8 rfl
              have ow433 := ow432.pick 8 rfl
              have ow434 := ow433.pick 8 rfl
              have ow435 := ow434.pick 8 rfl
              have ow436 := ow435.pick 8 rfl
              have ow437 := ow436.pick 8 rfl
              obtain ⟨x438, hx439, h440⟩ := bindS h431
              refine O.call (V := V424) rfl rfl (.inl rfl) rfl en11 (aC (L 0 rfl rfl) aN) (wk_storage_Storage_Threads V424 _ (⟨xs71, xs75, xs79, xs83, xs86⟩ : Tstorage_Storage) b45 z46 v70 v73 hs74 v77 hs78 v81 hs82 v85 ow437 _ hx439) (fun _ _ _ _ => nd) (fun v441 V442 le443 hp444 => ?_)
              obtain ⟨rfl, ow445⟩ := hp444
              refine U.p rfl rfl (.inl rfl) (S.lss rfl (L 2 rfl rfl) (L 0 rfl rfl)) ?_
              refine U.done (Nat.le_of_ble_eq_true rfl) ?_
              refine WP.cond _ (L 0 rfl rfl) rfl (fun c446 => ?_) (fun c446 => ?_)
              · have h447 := ifT c446 h440
                refine WP.skip ?_
                refine sqN ?_
                refine WP.seq ?_
                refine WP.blk ?_
                refine WP.seq ?_
                refine WP.usreg rfl ?_
                refine U.p rfl rfl (.inl rfl) (S.move rfl (L 5 rfl rfl)) ?_
                refine U.p rfl rfl (.inl rfl) (S.move rfl (L 9 rfl rfl)) ?_
                refine U.p rfl rfl (.inl rfl) (S.move rfl (L 8 rfl rfl)) ?_
                refine U.p rfl rfl (.inl rfl) (S.add rfl (L 0 rfl rfl) K) ?_
                have ow448 := ow445.pick 5 rfl
                have ow449 := ow448.pick 5 rfl
                have ow450 := ow449.pick 5 rfl
                have ow451 := ow450.pick 5 rfl
                have ow452 := ow451.pick 5 rfl
                have ow453 := ow452.pick 5 rfl
                obtain ⟨x454, hx455, h456⟩ := bindS h447
                refine O.call (V := V442) rfl rfl (.inl rfl) rfl en20 (aC (L 3 rfl rfl) (aC (L 2 rfl rfl) (aC (L 0 rfl rfl) aN))) (wk_storage_Storage_Seen V442 _ (⟨xs71, xs75, xs79, xs83, xs86⟩ : Tstorage_Storage) x411 (w64 (x343 + 1)) b45 z46 v70 v73 hs74 v77 hs78 v81 hs82 v85 ow453 _ hx455) (fun _ _ _ _ => nd) (fun v457 V458 le459 hp460 => ?_)
                obtain ⟨rfl, ow461⟩ := hp460
                refine U.p rfl rfl (.inl rfl) (S.not rfl (L 0 rfl rfl)) ?_
                refine U.done (Nat.le_of_ble_eq_true rfl) ?_
                refine WP.cond _ (L 0 rfl rfl) rfl (fun c462 => ?_) (fun c462 => ?_)
                · have h463 := ifT c462 h456
                  have k464 : x454 = false := by simpa using c462
                  refine WP.usreg rfl ?_
                  refine U.p rfl rfl (.inl rfl) (S.assign rfl K) ?_
                  refine U.done (Nat.le_of_ble_eq_true rfl) ?_
                  refine WP.ret ?_
                  refine sqR (blkR (sqR (sqR (blkR (blkR (sqR (sqR (blkR (sqR ?_)))))))))
                  have h465 := exitS h463 e429
                  have h466 := exitS h465 e351
                  refine fin.slot (.inr rfl) rfl (L 0 rfl rfl) ⟨V458, rfl, ((((((((((le8.trans le26).trans le42).trans le100).trans le347).trans le376).trans le380).trans le393).trans le425).trans le443).trans le459), ?_⟩
                  have ow467 := ow461.drop 0 rfl
                  have ow468 := ow467.drop 0 rfl
                  have ow469 := ow468.drop 0 rfl
                  have ow470 := ow469.drop 0 rfl
                  have ow471 := ow470.drop 0 rfl
                  have ow472 := ow471.drop 0 rfl
                  have ow473 := ow472.drop 0 rfl
                  have ow474 := ow473.drop 0 rfl
                  have ow475 := ow474.drop 0 rfl
                  have ow476 := ow475.drop 0 rfl
                  have e477 := Option.some.inj h466
                  subst e477
                  exact ⟨rfl, ow476⟩
                · have h478 := ifF c462 h456
                  have k479 : x454 = true := by simpa using c462
                  refine WP.skip ?_
                  refine sqN ?_
                  refine WP.usreg rfl ?_
                  refine U.p rfl rfl (.inl rfl) (S.move rfl (L 10 rfl rfl)) ?_
                  refine U.p (v := .pointer (some ⟨b374, 0, none⟩)) rfl rfl (.inl rfl) (S.fieldAddr rfl (L 14 rfl rfl) Try.underlying39 rfl ti3 rfl rfl) ?_
                  refine U.k rfl rfl (.inl rfl) (S.load rfl (L 0 rfl rfl) Try.underlying3 rfl ((ow461.own (k := 9) rfl).cell rfl)) nd ?_
                  refine U.p rfl rfl (.inl rfl) (S.move rfl (L 15 rfl rfl)) ?_
                  refine U.p rfl rfl (.inl rfl) (S.add rfl (L 0 rfl rfl) K) ?_
                  have ow480 := ow461.pick 8 rfl
                  have ow481 := ow480.pick 8 rfl
                  have ow482 := ow481.pick 8 rfl
                  obtain ⟨x483, hx484, h485⟩ := bindS h478
                  refine O.call (V := V458) rfl rfl (.inl rfl) rfl en19 (aC (L 4 rfl rfl) (aC (L 2 rfl rfl) (aC (L 0 rfl rfl) aN))) (wk_law16_ahead V458 _ (⟨x61, xs64, xs68⟩ : Tref16_Storage) x360.thread (w64 (x343 + 1)) b29 z30 v63 v66 hs67 ow482 _ hx484) (fun _ _ _ _ => nd) (fun v486 V487 le488 hp489 => ?_)
                  obtain ⟨_, rfl, f492, ow490⟩ := hp489
                  refine U.p rfl rfl (.inl rfl) (f492.len rfl (L 0 rfl rfl) Try.underlying26) ?_
                  refine U.p rfl rfl (.inl rfl) (S.move rfl K) ?_
                  refine U.done (Nat.le_of_ble_eq_true rfl) ?_
                  refine WP.blk ?_
                  unfold law16_StorageAcks_l4 at h485
                  obtain ⟨n495, hn494⟩ := loopO_some.1 h485
                  refine WP.loopI2 (fun n l V' => ∃ (x493 : Int), l = [(5, .pointer (some ⟨b29, 0, none⟩)), (6, .pointer (some ⟨b45, 0, none⟩)), (9, .int .i64 x343), (10, .pointer (some ⟨b374, 0, none⟩)), (11, .int .i64 x411), (95, v63), (96, .int .i64 (xs64.length : Int)), (97, .int .i64 x343), (124, v486), (125, .int .i64 (x483.length : Int)), (126, .int .i64 x493)] ∧ V487.le V' ∧ Ow V' (.pt b29 (.cells z30 [.int .i64 x61, v63, v66]) :: .os RT_Tref16_Event v63 xs64 :: .oss (RO.os (RT.int .i64)) v66 hs67 xs68 :: .pt b45 (.cells z46 [v70, v73, v77, v81, v85]) :: .os RT_Tref16_Event v70 xs71 :: .oss (RO.os (RT.int .i64)) v73 hs74 xs75 :: .oss (RO.om RT.bool false) v77 hs78 xs79 :: .oss (RO.om (RT.int .i64) false) v81 hs82 xs83 :: .om (RT.int .i64) false v85 xs86 :: .pt b374 (.cells 4 [.int .i64 x360.thread, .bool x360.bar, .int .i64 x360.at_, .int .i64 x360.val]) :: Rs) ∧ itO (fun s => law16_StorageAcks_l4b xs64 xs71 xs75 xs79 xs83 xs86 x411 x483 s) n x493 = some q428) n495 _ ⟨0, rfl, .refl _, ow490, hn494⟩ (allCons (L 18 rfl rfl) (allCons (L 19 rfl rfl) (allCons (L 20 rfl rfl) (allCons (L 21 rfl rfl) (allCons (L 22 rfl rfl) (allCons (L 23 rfl rfl) (allCons (L 24 rfl rfl) (allCons (L 25 rfl rfl) (allCons (L 2 rfl rfl) (allCons (L 1 rfl rfl) (allCons (L 0 rfl rfl) allNil))))))))))) ?_
                  rintro _ _ V496 ⟨x493, rfl, le497, ow498, h502⟩
                  obtain ⟨m499, q500, rfl, h503, e501⟩ := itS h502
                  replace h503 : law16_StorageAcks_l4b xs64 xs71 xs75 xs79 xs83 xs86 x411 x483 x493 = some q500 := h503
                  unfold law16_StorageAcks_l4b at h503
                  refine WP.usreg rfl ?_
                  refine U.p rfl rfl (.inl rfl) (S.lss rfl (L 10 rfl rfl) (L 9 rfl rfl)) ?_
                  refine U.done (Nat.le_of_ble_eq_true rfl) ?_
                  refine WP.seq ?_
                  refine WP.cond _ (L 0 rfl rfl) rfl (fun c504 => ?_) (fun c504 => ?_)
                  · have h505 := ifT c504 h503
                    refine WP.skip ?_
                    refine sqN ?_
                    refine WP.seq ?_
                    refine WP.blk ?_
                    refine WP.usreg rfl ?_
                    obtain ⟨x506, hx507, h508⟩ := bindS h505
                    obtain ⟨i509, h510, xs511, b512, o513, n514, hh515, hx516, hv517, hv518, hx519⟩ := f492.at hx507
                    refine U.p rfl rfl (.inl rfl) (S.index rfl ((L 9 rfl rfl).trans hv518) (L 11 rfl rfl) Try.underlying26 ti3 (ix_ge hx507) (ix_lt hx507)) ?_
                    obtain ⟨h520, hh521, ow522⟩ := ow498.ssopen (k := 2) rfl hx516
                    obtain rfl : h520 = h510 := Option.some.inj (hh521.symm.trans hh515)
                    obtain ⟨cs524, hv525, hlt526, hr527, hc528⟩ := ow522.osel (k := 0) rfl hv517 hx519
                    obtain rfl : cs524 = [.int .i64 x506] := hr527
                    refine U.k rfl rfl (.inl rfl) (S.load rfl (L 0 rfl rfl) Try.underlying3 rfl (hc528 0 _ rfl)) nd ?_
                    refine U.p rfl rfl (.inl rfl) (S.assign rfl (L 0 rfl rfl)) ?_
                    refine U.done (Nat.le_of_ble_eq_true rfl) ?_
                    refine WP.usreg rfl ?_
                    refine U.p rfl rfl (.inl rfl) (S.move rfl (L 5 rfl rfl)) ?_
                    refine U.p rfl rfl (.inl rfl) (S.move rfl (L 9 rfl rfl)) ?_
                    refine U.p rfl rfl (.inl rfl) (S.move rfl (L 6 rfl rfl)) ?_
                    refine U.p rfl rfl (.inl rfl) (S.nilCheck rfl (L 0 rfl rfl)) ?_
                    refine U.p (v := .pointer (some ⟨b29, 1, none⟩)) rfl rfl (.inl rfl) (S.fieldAddr rfl (L 0 rfl rfl) Try.underlying46 rfl ti43 rfl rfl) ?_
                    refine U.k rfl rfl (.inl rfl) (S.load rfl (L 0 rfl rfl) Try.underlying43 rfl ((ow522.own (k := 1) rfl).cell rfl)) nd ?_
                    refine U.p rfl rfl (.inl rfl) (S.move rfl (L 6 rfl rfl)) ?_
                    refine U.p rfl rfl (.inl rfl) (S.sub rfl (L 0 rfl rfl) K) ?_
                    obtain ⟨x529, hx530, h531⟩ := bindS h508
                    obtain ⟨_, hv532, _⟩ := ow522.osel (k := 2) rfl hv367 hx530
                    refine U.p rfl rfl (.inl rfl) (S.index rfl ((L 2 rfl rfl).trans hv532) (L 0 rfl rfl) Try.underlying43 ti39 (ix_ge hx530) (ix_lt hx530)) ?_
                    refine U.p (v := .pointer (some ⟨b363, o364 + Int.toNat (w64 (x506 - 1)) * 4 + 2, none⟩)) rfl rfl (.inl rfl) (S.fieldAddr rfl (L 0 rfl rfl) Try.underlying39 rfl ti3 rfl rfl) ?_
                    obtain ⟨cs533, hv534, hlt535, hr536, hc537⟩ := ow522.osel (k := 2) rfl hv367 hx530
                    obtain rfl : cs533 = [.int .i64 x529.thread, .bool x529.bar, .int .i64 x529.at_, .int .i64 x529.val] := hr536
                    refine U.k rfl rfl (.inl rfl) (S.load rfl (L 0 rfl rfl) Try.underlying3 rfl (hc537 2 _ rfl)) nd ?_
                    have ow538 := ow522.ssclose' (k := 3) (j := 0) rfl rfl (by decide) hh515 hx516
                    have ow539 := ow538.pick 8 rfl
                    have ow540 := ow539.pick 8 rfl
                    have ow541 := ow540.pick 8 rfl
                    have ow542 := ow541.pick 8 rfl
                    have ow543 := ow542.pick 8 rfl
                    have ow544 := ow543.pick 8 rfl
                    obtain ⟨x545, hx546, h547⟩ := bindS h531
                    refine O.call (V := V496) rfl rfl (.inl rfl) rfl en13 (aC (L 10 rfl rfl) (aC (L 9 rfl rfl) (aC (L 0 rfl rfl) aN))) (wk_storage_Storage_Read V496 _ (⟨xs71, xs75, xs79, xs83, xs86⟩ : Tstorage_Storage) x411 x529.at_ b45 z46 v70 v73 hs74 v77 hs78 v81 hs82 v85 ow544 _ hx546) (fun _ _ _ _ => nd) (fun v548 V549 le550 hp551 => ?_)
                    obtain ⟨rfl, ow552⟩ := hp551
                    refine U.p rfl rfl (.inl rfl) (S.move rfl (L 0 rfl rfl)) ?_
                    refine U.p rfl rfl (.inl rfl) (S.extract rfl (L 0 rfl rfl) rfl (Nat.le_of_ble_eq_true rfl)) ?_
                    refine U.p rfl rfl (.inl rfl) (S.extract rfl (L 1 rfl rfl) rfl (Nat.le_of_ble_eq_true rfl)) ?_
                    refine U.p rfl rfl (.inl rfl) (S.assign rfl (L 1 rfl rfl)) ?_
                    refine U.p rfl rfl (.inl rfl) (S.assign rfl (L 1 rfl rfl)) ?_
                    refine U.done (Nat.le_of_ble_eq_true rfl) ?_
                    refine WP.usreg rfl ?_
                    refine U.p rfl rfl (.inl rfl) (S.move rfl (L 21 rfl rfl)) ?_
                    refine U.p rfl rfl (.inl rfl) (S.nilCheck rfl (L 0 rfl rfl)) ?_
                    refine U.p (v := .pointer (some ⟨b29, 1, none⟩)) rfl rfl (.inl rfl) (S.fieldAddr rfl (L 0 rfl rfl) Try.underlying46 rfl ti43 rfl rfl) ?_
                    refine U.k rfl rfl (.inl rfl) (S.load rfl (L 0 rfl rfl) Try.underlying43 rfl ((ow552.own (k := 6) rfl).cell rfl)) nd ?_
                    refine U.p rfl rfl (.inl rfl) (S.move rfl (L 21 rfl rfl)) ?_
                    refine U.p rfl rfl (.inl rfl) (S.sub rfl (L 0 rfl rfl) K) ?_
                    obtain ⟨x553, hx554, h555⟩ := bindS h547
                    obtain ⟨_, hv556, _⟩ := ow552.osel (k := 7) rfl hv367 hx554
                    refine U.p rfl rfl (.inl rfl) (S.index rfl ((L 2 rfl rfl).trans hv556) (L 0 rfl rfl) Try.underlying43 ti39 (ix_ge hx554) (ix_lt hx554)) ?_
                    refine U.p (v := .pointer (some ⟨b363, o364 + Int.toNat (w64 (x506 - 1)) * 4 + 1, none⟩)) rfl rfl (.inl rfl) (S.fieldAddr rfl (L 0 rfl rfl) Try.underlying39 rfl ti4 rfl rfl) ?_
                    obtain ⟨cs557, hv558, hlt559, hr560, hc561⟩ := ow552.osel (k := 7) rfl hv367 hx554
                    obtain rfl : cs557 = [.int .i64 x553.thread, .bool x553.bar, .int .i64 x553.at_, .int .i64 x553.val] := hr560
                    refine U.k rfl rfl (.inl rfl) (S.load rfl (L 0 rfl rfl) Try.underlying4 rfl (hc561 1 _ rfl)) nd ?_
                    refine U.p rfl rfl (.inl rfl) (S.not rfl (L 0 rfl rfl)) ?_
                    refine U.p rfl rfl (.inl rfl) (S.move rfl (L 0 rfl rfl)) ?_
                    refine U.joinX 15 (fun e H => ∃ (u562 u563 u564 : Value), H = V549.H ∧ e = [(159, .bool ((!x553.bar) && (decide (x545.2 < x506)))), (158, u562), (157, u563), (156, u564)]) ?_ ?_
                    · rintro _ _ ⟨u562, u563, u564, rfl, rfl⟩
                      refine U.done (Nat.le_of_ble_eq_true rfl) ?_
                      refine WP.cond _ (L 0 rfl rfl) rfl (fun c568 => ?_) (fun c568 => ?_)
                      · have h569 := ifT c568 h555
                        refine WP.usreg rfl ?_
                        refine U.p rfl rfl (.inl rfl) (S.assign rfl K) ?_
                        refine U.done (Nat.le_of_ble_eq_true rfl) ?_
                        refine WP.ret ?_
                        refine blkR (sqR (sqR (blkR (blkR (sqR (sqR (blkR (blkR (sqR (sqR (blkR (sqR ?_))))))))))))
                        have h570 := exitS h569 e501
                        have h571 := exitS h570 e429
                        have h572 := exitS h571 e351
                        refine fin.slot (.inr rfl) rfl (L 0 rfl rfl) ⟨V549, rfl, (((((((((((((le8.trans le26).trans le42).trans le100).trans le347).trans le376).trans le380).trans le393).trans le425).trans le443).trans le459).trans le488).trans le497).trans le550), ?_⟩
                        have ow573 := ow552.drop 0 rfl
                        have ow574 := ow573.drop 0 rfl
                        have ow575 := ow574.drop 0 rfl
                        have ow576 := ow575.drop 0 rfl
                        have ow577 := ow576.drop 0 rfl
                        have ow578 := ow577.drop 0 rfl
                        have ow579 := ow578.drop 0 rfl
                        have ow580 := ow579.drop 0 rfl
                        have ow581 := ow580.drop 0 rfl
                        have ow582 := ow581.drop 0 rfl
                        have e583 := Option.some.inj h572
                        subst e583
                        exact ⟨rfl, ow582⟩
                      · have h584 := ifF c568 h555
                        refine WP.skip ?_
                        refine blkN (sqN ?_)
                        refine WP.ureg rfl ?_
                        refine U.p rfl rfl (.inl rfl) (S.add rfl (L 46 rfl rfl) K) ?_
                        refine U.p rfl rfl (.inl rfl) (S.move rfl (L 0 rfl rfl)) ?_
                        refine U.done (Nat.le_of_ble_eq_true rfl) ?_
                        refine sqN ?_
                        have ow585 := ow552.pick 9 rfl
                        have ow586 := ow585.pick 6 rfl
                        have ow587 := ow586.pick 6 rfl
                        have ow588 := ow587.pick 6 rfl
                        have ow589 := ow588.pick 6 rfl
                        have ow590 := ow589.pick 6 rfl
                        have ow591 := ow590.pick 6 rfl
                        have ow592 := ow591.pick 9 rfl
                        have ow593 := ow592.pick 9 rfl
                        have ow594 := ow593.pick 9 rfl
                        exact ⟨_, V549, rfl, ⟨m499, Nat.lt_succ_self _, w64 (x493 + 1), rfl, (le497.trans le550), ow594, backS h584 e501⟩, (allCons (L 38 rfl rfl) (allCons (L 39 rfl rfl) (allCons (L 40 rfl rfl) (allCons (L 41 rfl rfl) (allCons (L 42 rfl rfl) (allCons (L 43 rfl rfl) (allCons (L 44 rfl rfl) (allCons (L 45 rfl rfl) (allCons (L 46 rfl rfl) (allCons (L 47 rfl rfl) (allCons (L 0 rfl rfl) allNil)))))))))))⟩
                    · intro kk
                      refine bcase (b := !x553.bar) (fun g595 => ?_) (fun g595 => ?_)
                      · skip
                        have k596 : x553.bar = false := by simpa using g595
                        refine U.p rfl rfl (.inr ⟨_, _, _, rfl, rfl, ((L 0 rfl rfl).trans (congrArg Value.bool g595))⟩) (S.move rfl (L 11 rfl rfl)) ?_
                        refine U.p rfl rfl (.inr ⟨_, _, _, rfl, rfl, ((L 1 rfl rfl).trans (congrArg Value.bool g595))⟩) (S.move rfl (L 29 rfl rfl)) ?_
                        refine U.p rfl rfl (.inr ⟨_, _, _, rfl, rfl, ((L 2 rfl rfl).trans (congrArg Value.bool g595))⟩) (S.lss rfl (L 1 rfl rfl) (L 0 rfl rfl)) ?_
                        refine U.p rfl rfl (.inl rfl) (S.pickT rfl ((L 3 rfl rfl).trans (congrArg Value.bool g595)) (L 0 rfl rfl)) ?_
                        exact kk [(159, .bool (decide (x545.2 < x506))), (158, .bool (decide (x545.2 < x506))), (157, .int .i64 x506), (156, .int .i64 x545.2)] _ ⟨.bool (decide (x545.2 < x506)), .int .i64 x506, .int .i64 x545.2, rfl, (by rw [g595, Bool.true_and])⟩
                      · skip
                        have k597 : x553.bar = true := by simpa using g595
                        refine U.x rfl rfl rfl rfl ((L 0 rfl rfl).trans (congrArg Value.bool g595)) (by decide) ?_
                        refine U.x rfl rfl rfl rfl ((L 1 rfl rfl).trans (congrArg Value.bool g595)) (by decide) ?_
                        refine U.x rfl rfl rfl rfl ((L 2 rfl rfl).trans (congrArg Value.bool g595)) (by decide) ?_
                        refine U.p rfl rfl (.inl rfl) (S.pickF rfl ((L 3 rfl rfl).trans (congrArg Value.bool g595)) K) ?_
                        exact kk [(159, .bool false), (158, .tuple #[]), (157, .tuple #[]), (156, .tuple #[])] _ ⟨.tuple #[], .tuple #[], .tuple #[], rfl, (by rw [g595, Bool.false_and])⟩
                  · have h598 := ifF c504 h503
                    refine WP.exit ?_
                    refine sqE (sqE (blkE (blkN (sqN ?_))))
                    have h599 := exitS h598 e501
                    refine WP.ureg rfl ?_
                    refine U.p rfl rfl (.inl rfl) (S.move rfl (L 5 rfl rfl)) ?_
                    refine U.p rfl rfl (.inl rfl) (S.add rfl (L 0 rfl rfl) K) ?_
                    refine U.p rfl rfl (.inl rfl) (S.assign rfl (L 0 rfl rfl)) ?_
                    refine U.done (Nat.le_of_ble_eq_true rfl) ?_
                    refine sqN ?_
                    exact ⟨_, V496, rfl, ⟨m427, Nat.lt_succ_self _, w64 (x411 + 1), rfl, ((((le425.trans le443).trans le459).trans le488).trans le497), ow498, backS h599 e429⟩, (allCons (L 4 rfl rfl) (allCons (L 5 rfl rfl) (allCons (L 6 rfl rfl) (allCons (L 7 rfl rfl) (allCons (L 0 rfl rfl) (allCons (L 9 rfl rfl) (allCons (L 10 rfl rfl) (allCons (L 11 rfl rfl) allNil))))))))⟩
              · have h600 := ifF c446 h440
                refine WP.exit ?_
                refine sqE (sqE (blkE (blkN (sqN ?_))))
                have h601 := exitS h600 e429
                have ow602 := ow445.drop 9 rfl
                have ow603 := ow602.pick 5 rfl
                have ow604 := ow603.pick 5 rfl
                have ow605 := ow604.pick 5 rfl
                have ow606 := ow605.pick 5 rfl
                have ow607 := ow606.pick 5 rfl
                have ow608 := ow607.pick 5 rfl
                have ow609 := ow608.pick 8 rfl
                have ow610 := ow609.pick 8 rfl
                have ow611 := ow610.pick 8 rfl
                exact ⟨_, V442, rfl, ⟨rfl, ((((le376.trans le380).trans le393).trans le425).trans le443), ow611, h601⟩, (allCons (L 4 rfl rfl) (allCons (L 5 rfl rfl) (allCons (L 9 rfl rfl) (allCons (L 10 rfl rfl) (allCons (L 11 rfl rfl) allNil)))))⟩
        · have h612 := ifF c354 h353
          refine WP.exit ?_
          refine sqE (sqE (blkE (sqN ?_)))
          have h613 := exitS h612 e351
          refine WP.usreg rfl ?_
          refine U.p rfl rfl (.inl rfl) (S.assign rfl K) ?_
          refine U.done (Nat.le_of_ble_eq_true rfl) ?_
          refine WP.ret ?_
          refine fin.slot (.inr rfl) rfl (L 0 rfl rfl) ⟨V346, rfl, ((((le8.trans le26).trans le42).trans le100).trans le347), ?_⟩
          have ow614 := ow348.drop 0 rfl
          have ow615 := ow614.drop 0 rfl
          have ow616 := ow615.drop 0 rfl
          have ow617 := ow616.drop 0 rfl
          have ow618 := ow617.drop 0 rfl
          have ow619 := ow618.drop 0 rfl
          have ow620 := ow619.drop 0 rfl
          have ow621 := ow620.drop 0 rfl
          have ow622 := ow621.drop 0 rfl
          have e623 := Option.some.inj h613
          subst e623
          exact ⟨rfl, ow622⟩

set_option maxHeartbeats 4000000 in
set_option maxRecDepth 10000 in
theorem wk_storage_Storage_Settle (V : Vw) (Rs : List At) (p0 : Tstorage_Storage) (b1 : Nat) (z2 : Nat) (v4 : Value) (v6 : Value) (hs7 : List Value) (v9 : Value) (hs10 : List Value) (v12 : Value) (hs13 : List Value) (v15 : Value) (ow : Ow V (.pt b1 (.cells z2 [v4, v6, v9, v12, v15]) :: .os RT_Tref16_Event v4 p0.events :: .oss (RO.os (RT.int .i64)) v6 hs7 p0.seen :: .oss (RO.om RT.bool false) v9 hs10 p0.has :: .oss (RO.om (RT.int .i64) false) v12 hs13 p0.now :: .om (RT.int .i64) false v15 p0.last :: Rs)) (r : Tstorage_Storage) (h : storage_Storage_Settle p0 = some r) : ∃ v V', Cl Try.prog 0 23 #[.pointer (some ⟨b1, 0, none⟩)] V.H v V'.H ∧ V.le V' ∧ (∃ (v17 : Value) (v19 : Value) (hs20 : List Value) (v22 : Value) (hs23 : List Value) (v25 : Value) (hs26 : List Value) (v28 : Value), Ow V' (.pt b1 (.cells z2 [v17, v19, v22, v25, v28]) :: .os RT_Tref16_Event v17 r.events :: .oss (RO.os (RT.int .i64)) v19 hs20 r.seen :: .oss (RO.om RT.bool false) v22 hs23 r.has :: .oss (RO.om (RT.int .i64) false) v25 hs26 r.now :: .om (RT.int .i64) false v28 r.last :: Rs)) := by
  refine Ct.of (Nat.zero_le _) Try.func23 rfl (Nat.le_of_ble_eq_true rfl) ?_
  unfold storage_Storage_Settle at h
  refine WP.usreg rfl ?_
  refine U.p rfl rfl (.inl rfl) (S.move rfl (L 0 rfl rfl)) ?_
  have ow30 := ow.pick 5 rfl
  have ow31 := ow30.pick 5 rfl
  have ow32 := ow31.pick 5 rfl
  have ow33 := ow32.pick 5 rfl
  have ow34 := ow33.pick 5 rfl
  have ow35 := ow34.pick 5 rfl
  obtain ⟨x36, hx37, h38⟩ := bindS h
  refine O.call (V := V) rfl rfl (.inl rfl) rfl en11 (aC (L 0 rfl rfl) aN) (wk_storage_Storage_Threads V _ p0 b1 z2 v4 v6 hs7 v9 hs10 v12 hs13 v15 ow35 _ hx37) (fun _ _ _ _ => nd) (fun v39 V40 le41 hp42 => ?_)
  obtain ⟨rfl, ow43⟩ := hp42
  refine U.p rfl rfl (.inl rfl) (S.move rfl K) ?_
  refine U.done (Nat.le_of_ble_eq_true rfl) ?_
  refine WP.blk ?_
  unfold storage_Storage_Settle_l1 at h38
  obtain ⟨n64, hn63⟩ := loopO_some.1 h38
  refine WP.loopI2 (fun n l V' => ∃ (v45 : Value) (xs46 : List Tref16_Event) (v48 : Value) (hs49 : List Value) (xs50 : List (List Int)) (v52 : Value) (hs53 : List Value) (xs54 : List (List (Int × Bool))) (v56 : Value) (hs57 : List Value) (xs58 : List (List (Int × Int))) (v60 : Value) (xs61 : List (Int × Int)) (x62 : Int), l = [(0, .pointer (some ⟨b1, 0, none⟩)), (5, .int .i64 x36), (6, .int .i64 x62)] ∧ V40.le V' ∧ Ow V' (.pt b1 (.cells z2 [v45, v48, v52, v56, v60]) :: .os RT_Tref16_Event v45 xs46 :: .oss (RO.os (RT.int .i64)) v48 hs49 xs50 :: .oss (RO.om RT.bool false) v52 hs53 xs54 :: .oss (RO.om (RT.int .i64) false) v56 hs57 xs58 :: .om (RT.int .i64) false v60 xs61 :: Rs) ∧ itO (fun s => storage_Storage_Settle_l1b x36 s.1 s.2.1 s.2.2.1 s.2.2.2.1 s.2.2.2.2.1 s.2.2.2.2.2) n (xs46, xs50, xs54, xs58, xs61, x62) = some r) n64 _ ⟨v4, p0.events, v6, hs7, p0.seen, v9, hs10, p0.has, v12, hs13, p0.now, v15, p0.last, 0, rfl, .refl _, ow43, hn63⟩ (allCons (L 3 rfl rfl) (allCons (L 1 rfl rfl) (allCons (L 0 rfl rfl) allNil))) ?_
  rintro _ _ V65 ⟨v45, xs46, v48, hs49, xs50, v52, hs53, xs54, v56, hs57, xs58, v60, xs61, x62, rfl, le66, ow67, h71⟩
  obtain ⟨m68, q69, rfl, h72, e70⟩ := itS h71
  replace h72 : storage_Storage_Settle_l1b x36 xs46 xs50 xs54 xs58 xs61 x62 = some q69 := h72
  unfold storage_Storage_Settle_l1b at h72
  refine WP.usreg rfl ?_
  refine U.p rfl rfl (.inl rfl) (S.lss rfl (L 2 rfl rfl) (L 1 rfl rfl)) ?_
  refine U.done (Nat.le_of_ble_eq_true rfl) ?_
  refine WP.seq ?_
  refine WP.cond _ (L 0 rfl rfl) rfl (fun c73 => ?_) (fun c73 => ?_)
  · have h74 := ifT c73 h72
    refine WP.skip ?_
    refine sqN ?_
    refine WP.seq ?_
    refine WP.blk ?_
    refine WP.usreg rfl ?_
    refine U.p rfl rfl (.inl rfl) (S.move rfl (L 3 rfl rfl)) ?_
    refine U.p rfl rfl (.inl rfl) (S.assign rfl (L 0 rfl rfl)) ?_
    refine U.done (Nat.le_of_ble_eq_true rfl) ?_
    refine WP.usreg rfl ?_
    refine U.p rfl rfl (.inl rfl) (S.move rfl (L 3 rfl rfl)) ?_
    refine U.p rfl rfl (.inl rfl) (S.nilCheck rfl (L 0 rfl rfl)) ?_
    refine U.p (v := .pointer (some ⟨b1, 0, none⟩)) rfl rfl (.inl rfl) (S.fieldAddr rfl (L 0 rfl rfl) Try.underlying62 rfl ti53 rfl rfl) ?_
    refine U.k rfl rfl (.inl rfl) (S.load rfl (L 0 rfl rfl) Try.underlying53 rfl ((ow67.own (k := 0) rfl).cell rfl)) nd ?_
    refine U.p rfl rfl (.inl rfl) (ow67.oslen (k := 1) rfl rfl (L 0 rfl rfl) Try.underlying53) ?_
    refine U.p rfl rfl (.inl rfl) (S.move rfl K) ?_
    refine U.done (Nat.le_of_ble_eq_true rfl) ?_
    refine WP.blk ?_
    unfold storage_Storage_Settle_l2 at h74
    obtain ⟨n95, hn94⟩ := loopO_some.1 h74
    refine WP.loopI2 (fun n l V' => ∃ (v76 : Value) (xs77 : List Tref16_Event) (v79 : Value) (hs80 : List Value) (xs81 : List (List Int)) (v83 : Value) (hs84 : List Value) (xs85 : List (List (Int × Bool))) (v87 : Value) (hs88 : List Value) (xs89 : List (List (Int × Int))) (v91 : Value) (xs92 : List (Int × Int)) (x93 : Int), l = [(0, .pointer (some ⟨b1, 0, none⟩)), (2, .int .i64 x62), (5, .int .i64 x36), (6, .int .i64 x62), (13, .int .i64 (xs46.length : Int)), (14, .int .i64 x93)] ∧ V65.le V' ∧ Ow V' (.pt b1 (.cells z2 [v76, v79, v83, v87, v91]) :: .os RT_Tref16_Event v76 xs77 :: .oss (RO.os (RT.int .i64)) v79 hs80 xs81 :: .oss (RO.om RT.bool false) v83 hs84 xs85 :: .oss (RO.om (RT.int .i64) false) v87 hs88 xs89 :: .om (RT.int .i64) false v91 xs92 :: Rs) ∧ itO (fun s => storage_Storage_Settle_l2b xs46 x62 s.1 s.2.1 s.2.2.1 s.2.2.2.1 s.2.2.2.2.1 s.2.2.2.2.2) n (xs77, xs81, xs85, xs89, xs92, x93) = some q69) n95 _ ⟨v45, xs46, v48, hs49, xs50, v52, hs53, xs54, v56, hs57, xs58, v60, xs61, 0, rfl, .refl _, ow67, hn94⟩ (allCons (L 9 rfl rfl) (allCons (L 6 rfl rfl) (allCons (L 10 rfl rfl) (allCons (L 11 rfl rfl) (allCons (L 1 rfl rfl) (allCons (L 0 rfl rfl) allNil)))))) ?_
    rintro _ _ V96 ⟨v76, xs77, v79, hs80, xs81, v83, hs84, xs85, v87, hs88, xs89, v91, xs92, x93, rfl, le97, ow98, h102⟩
    obtain ⟨m99, q100, rfl, h103, e101⟩ := itS h102
    replace h103 : storage_Storage_Settle_l2b xs46 x62 xs77 xs81 xs85 xs89 xs92 x93 = some q100 := h103
    unfold storage_Storage_Settle_l2b at h103
    refine WP.usreg rfl ?_
    refine U.p rfl rfl (.inl rfl) (S.lss rfl (L 5 rfl rfl) (L 4 rfl rfl)) ?_
    refine U.done (Nat.le_of_ble_eq_true rfl) ?_
    refine WP.seq ?_
    refine WP.cond _ (L 0 rfl rfl) rfl (fun c104 => ?_) (fun c104 => ?_)
    · have h105 := ifT c104 h103
      refine WP.skip ?_
      refine sqN ?_
      refine WP.seqI (fun l V' => ∃ (v107 : Value) (xs108 : List Tref16_Event) (v110 : Value) (hs111 : List Value) (xs112 : List (List Int)) (v114 : Value) (hs115 : List Value) (xs116 : List (List (Int × Bool))) (v118 : Value) (hs119 : List Value) (xs120 : List (List (Int × Int))) (v122 : Value) (xs123 : List (Int × Int)), l = [(0, .pointer (some ⟨b1, 0, none⟩)), (2, .int .i64 x62), (5, .int .i64 x36), (6, .int .i64 x62), (13, .int .i64 (xs46.length : Int)), (14, .int .i64 x93)] ∧ V96.le V' ∧ Ow V' (.pt b1 (.cells z2 [v107, v110, v114, v118, v122]) :: .os RT_Tref16_Event v107 xs108 :: .oss (RO.os (RT.int .i64)) v110 hs111 xs112 :: .oss (RO.om RT.bool false) v114 hs115 xs116 :: .oss (RO.om (RT.int .i64) false) v118 hs119 xs120 :: .om (RT.int .i64) false v122 xs123 :: Rs) ∧ storage_Storage_Settle_k1 x93 xs108 xs112 xs116 xs120 xs123 = some q100) ?_ ?_
      · rintro _ V124 ⟨v107, xs108, v110, hs111, xs112, v114, hs115, xs116, v118, hs119, xs120, v122, xs123, rfl, le125, ow126, h127⟩
        unfold storage_Storage_Settle_k1 at h127
        refine WP.ureg rfl ?_
        refine U.p rfl rfl (.inl rfl) (S.add rfl (L 5 rfl rfl) K) ?_
        refine U.p rfl rfl (.inl rfl) (S.move rfl (L 0 rfl rfl)) ?_
        refine U.done (Nat.le_of_ble_eq_true rfl) ?_
        refine sqN ?_
        exact ⟨_, V124, rfl, ⟨m99, Nat.lt_succ_self _, v107, xs108, v110, hs111, xs112, v114, hs115, xs116, v118, hs119, xs120, v122, xs123, w64 (x93 + 1), rfl, (le97.trans le125), ow126, backS h127 e101⟩, (allCons (L 2 rfl rfl) (allCons (L 3 rfl rfl) (allCons (L 4 rfl rfl) (allCons (L 5 rfl rfl) (allCons (L 6 rfl rfl) (allCons (L 0 rfl rfl) allNil))))))⟩
      · skip
        refine WP.blk ?_
        refine WP.usreg rfl ?_
        refine U.p rfl rfl (.inl rfl) (S.move rfl (L 6 rfl rfl)) ?_
        refine U.p rfl rfl (.inl rfl) (S.assign rfl (L 0 rfl rfl)) ?_
        refine U.done (Nat.le_of_ble_eq_true rfl) ?_
        refine WP.usreg rfl ?_
        refine U.p rfl rfl (.inl rfl) (S.move rfl (L 3 rfl rfl)) ?_
        refine U.p rfl rfl (.inl rfl) (S.move rfl (L 5 rfl rfl)) ?_
        refine U.p rfl rfl (.inl rfl) (S.move rfl (L 2 rfl rfl)) ?_
        refine U.p rfl rfl (.inl rfl) (S.add rfl (L 0 rfl rfl) K) ?_
        have ow128 := ow98.pick 5 rfl
        have ow129 := ow128.pick 5 rfl
        have ow130 := ow129.pick 5 rfl
        have ow131 := ow130.pick 5 rfl
        have ow132 := ow131.pick 5 rfl
        have ow133 := ow132.pick 5 rfl
        obtain ⟨x134, hx135, h136⟩ := bindS h105
        refine O.call (V := V96) rfl rfl (.inl rfl) rfl en25 (aC (L 3 rfl rfl) (aC (L 2 rfl rfl) (aC (L 0 rfl rfl) aN))) (wk_storage_Storage_May V96 _ (⟨xs77, xs81, xs85, xs89, xs92⟩ : Tstorage_Storage) x62 (w64 (x93 + 1)) b1 z2 v76 v79 hs80 v83 hs84 v87 hs88 v91 ow133 _ hx135) (fun _ _ _ _ => nd) (fun v137 V138 le139 hp140 => ?_)
        obtain ⟨rfl, ow141⟩ := hp140
        refine U.done (Nat.le_of_ble_eq_true rfl) ?_
        refine WP.cond _ (L 0 rfl rfl) rfl (fun c142 => ?_) (fun c142 => ?_)
        · have h143 := ifT c142 h136
          refine WP.ureg rfl ?_
          refine U.p rfl rfl (.inl rfl) (S.move rfl (L 8 rfl rfl)) ?_
          refine U.p rfl rfl (.inl rfl) (S.move rfl (L 10 rfl rfl)) ?_
          refine U.p rfl rfl (.inl rfl) (S.move rfl (L 7 rfl rfl)) ?_
          refine U.p rfl rfl (.inl rfl) (S.add rfl (L 0 rfl rfl) K) ?_
          have ow144 := ow141.pick 5 rfl
          have ow145 := ow144.pick 5 rfl
          have ow146 := ow145.pick 5 rfl
          have ow147 := ow146.pick 5 rfl
          have ow148 := ow147.pick 5 rfl
          have ow149 := ow148.pick 5 rfl
          obtain ⟨x150, hx151, h152⟩ := bindS h143
          refine O.call (V := V138) rfl rfl (.inl rfl) rfl en18 (aC (L 3 rfl rfl) (aC (L 2 rfl rfl) (aC (L 0 rfl rfl) aN))) (wk_storage_Storage_Go V138 _ (⟨xs77, xs81, xs85, xs89, xs92⟩ : Tstorage_Storage) x62 (w64 (x93 + 1)) b1 z2 v76 v79 hs80 v83 hs84 v87 hs88 v91 ow149 _ hx151) (fun _ _ _ _ => nd) (fun v153 V154 le155 hp156 => ?_)
          obtain ⟨v158, v160, hs161, v163, hs164, v166, hs167, v169, rfl, ow157⟩ := hp156
          refine U.done (Nat.le_of_ble_eq_true rfl) ?_
          refine blkN (sqN ?_)
          exact ⟨_, V154, rfl, ⟨v158, x150.2.events, v160, hs161, x150.2.seen, v163, hs164, x150.2.has, v166, hs167, x150.2.now, v169, x150.2.last, rfl, (le139.trans le155), ow157, h152⟩, (allCons (L 13 rfl rfl) (allCons (L 14 rfl rfl) (allCons (L 15 rfl rfl) (allCons (L 16 rfl rfl) (allCons (L 17 rfl rfl) (allCons (L 18 rfl rfl) allNil))))))⟩
        · have h171 := ifF c142 h136
          refine WP.skip ?_
          refine blkN (sqN ?_)
          exact ⟨_, V138, rfl, ⟨v76, xs77, v79, hs80, xs81, v83, hs84, xs85, v87, hs88, xs89, v91, xs92, rfl, le139, ow141, h171⟩, (allCons (L 8 rfl rfl) (allCons (L 9 rfl rfl) (allCons (L 10 rfl rfl) (allCons (L 11 rfl rfl) (allCons (L 12 rfl rfl) (allCons (L 13 rfl rfl) allNil))))))⟩
    · have h172 := ifF c104 h103
      refine WP.exit ?_
      refine sqE (sqE (blkE (blkN (sqN ?_))))
      have h173 := exitS h172 e101
      refine WP.ureg rfl ?_
      refine U.p rfl rfl (.inl rfl) (S.add rfl (L 4 rfl rfl) K) ?_
      refine U.p rfl rfl (.inl rfl) (S.move rfl (L 0 rfl rfl)) ?_
      refine U.done (Nat.le_of_ble_eq_true rfl) ?_
      refine sqN ?_
      exact ⟨_, V96, rfl, ⟨m68, Nat.lt_succ_self _, v76, xs77, v79, hs80, xs81, v83, hs84, xs85, v87, hs88, xs89, v91, xs92, w64 (x62 + 1), rfl, (le66.trans le97), ow98, backS h173 e70⟩, (allCons (L 3 rfl rfl) (allCons (L 5 rfl rfl) (allCons (L 0 rfl rfl) allNil)))⟩
  · have h174 := ifF c73 h72
    refine WP.exit ?_
    refine sqE (sqE (blkE ?_))
    have h175 := exitS h174 e70
    refine fin.slots' (.inl rfl) fsN rfl ⟨V65, rfl, (le41.trans le66), ?_⟩
    have e176 := Option.some.inj h175
    subst e176
    exact ⟨v45, v48, hs49, v52, hs53, v56, hs57, v60, ow67⟩

set_option maxHeartbeats 4000000 in
set_option maxRecDepth 10000 in
theorem wk_slices_Clone (V : Vw) (Rs : List At) (p0 : List Tref16_Event) (v1 : Value) (ow : Ow V (.os RT_Tref16_Event v1 p0 :: Rs)) (r : List Tref16_Event) (h : slices_Clone p0 = some r) : ∃ v V', Cl Try.prog 0 32 #[v1] V.H v V'.H ∧ V.le V' ∧ (∃ (v3 : Value), v = v3 ∧ Ow V' (.os RT_Tref16_Event v3 r :: .os RT_Tref16_Event v1 p0 :: Rs)) := by
  refine Ct.of (Nat.zero_le _) Try.func32 rfl (Nat.le_of_ble_eq_true rfl) ?_
  unfold slices_Clone at h
  refine WP.usreg rfl ?_
  refine U.p rfl rfl (.inl rfl) (S.assign rfl K) ?_
  refine U.done (Nat.le_of_ble_eq_true rfl) ?_
  refine WP.seq ?_
  refine WP.usreg rfl ?_
  refine U.p rfl rfl (.inl rfl) (S.move rfl (L 1 rfl rfl)) ?_
  refine U.p rfl rfl (.inl rfl) (ow.oseqNil (k := 0) rfl rfl (L 0 rfl rfl) K Try.underlying53) ?_
  refine U.done (Nat.le_of_ble_eq_true rfl) ?_
  refine WP.cond _ (L 0 rfl rfl) rfl (fun c5 => ?_) (fun c5 => ?_)
  · have hz := (ow.osnil_of (k := 0) rfl c5)
    have h6 : (some [] : Option _) = some r := by simpa [hz, ap] using h
    refine WP.usreg rfl ?_
    refine U.p rfl rfl (.inl rfl) (S.assign rfl K) ?_
    refine U.done (Nat.le_of_ble_eq_true rfl) ?_
    refine WP.ret ?_
    refine sqR ?_
    have ow7 := ow.nil RT_Tref16_Event
    refine fin.slot (.inr rfl) rfl (L 0 rfl rfl) ⟨V, rfl, (.refl _), ?_⟩
    have e9 := Option.some.inj h6
    subst e9
    exact ⟨(.slice none 0 0), rfl, ow7⟩
  · skip
    refine WP.skip ?_
    refine sqN ?_
    refine WP.usreg rfl ?_
    refine O.lit (R := RT_Tref16_Event) ow rfl rfl (.inl rfl) rfl Try.underlying53 ti55 rfl rfl rfl (Nat.le_of_ble_eq_true rfl) rfl aN .nil (fun _ => nd) (fun v10 V11 le12 ow13 => ?_)
    refine U.p rfl rfl (.inl rfl) (S.move rfl (L 4 rfl rfl)) ?_
    obtain ⟨xs15, hx16, h17⟩ := bindS h
    refine O.append (k := 0) ow13 rfl rfl rfl (.inl rfl) rfl (L 1 rfl rfl) (L 0 rfl rfl) Try.underlying53 ti55 rfl rfl (Nat.le_of_ble_eq_true rfl) (ow13.src (k := 1) rfl Try.underlying53) hx16 (fun _ _ => nd) (fun v18 V19 le20 ow21 => ?_)
    refine U.p rfl rfl (.inl rfl) (S.assign rfl (L 0 rfl rfl)) ?_
    refine U.done (Nat.le_of_ble_eq_true rfl) ?_
    refine WP.ret ?_
    refine fin.slot (.inr rfl) rfl (L 0 rfl rfl) ⟨V19, rfl, (le12.trans le20), ?_⟩
    have e23 := Option.some.inj h17
    subst e23
    exact ⟨v18, rfl, ow21⟩

set_option maxHeartbeats 4000000 in
set_option maxRecDepth 10000 in
theorem wk_storage_Storage_Events (V : Vw) (Rs : List At) (p0 : Tstorage_Storage) (b1 : Nat) (z2 : Nat) (v4 : Value) (v6 : Value) (hs7 : List Value) (v9 : Value) (hs10 : List Value) (v12 : Value) (hs13 : List Value) (v15 : Value) (ow : Ow V (.pt b1 (.cells z2 [v4, v6, v9, v12, v15]) :: .os RT_Tref16_Event v4 p0.events :: .oss (RO.os (RT.int .i64)) v6 hs7 p0.seen :: .oss (RO.om RT.bool false) v9 hs10 p0.has :: .oss (RO.om (RT.int .i64) false) v12 hs13 p0.now :: .om (RT.int .i64) false v15 p0.last :: Rs)) (r : List Tref16_Event) (h : storage_Storage_Events p0 = some r) : ∃ v V', Cl Try.prog 0 24 #[.pointer (some ⟨b1, 0, none⟩)] V.H v V'.H ∧ V.le V' ∧ (∃ (v17 : Value), v = v17 ∧ Ow V' (.os RT_Tref16_Event v17 r :: .pt b1 (.cells z2 [v4, v6, v9, v12, v15]) :: .os RT_Tref16_Event v4 p0.events :: .oss (RO.os (RT.int .i64)) v6 hs7 p0.seen :: .oss (RO.om RT.bool false) v9 hs10 p0.has :: .oss (RO.om (RT.int .i64) false) v12 hs13 p0.now :: .om (RT.int .i64) false v15 p0.last :: Rs)) := by
  refine Ct.of (Nat.zero_le _) Try.func24 rfl (Nat.le_of_ble_eq_true rfl) ?_
  unfold storage_Storage_Events at h
  refine WP.usreg rfl ?_
  refine U.p rfl rfl (.inl rfl) (S.assign rfl K) ?_
  refine U.done (Nat.le_of_ble_eq_true rfl) ?_
  refine WP.seq ?_
  refine WP.usreg rfl ?_
  refine U.p rfl rfl (.inl rfl) (S.move rfl (L 1 rfl rfl)) ?_
  refine U.p rfl rfl (.inl rfl) (S.nilP rfl (.inl rfl) (L 0 rfl rfl) K Try.underlying24) ?_
  refine U.done (Nat.le_of_ble_eq_true rfl) ?_
  refine WP.cond false (L 0 rfl rfl) rfl (fun h => by cases h) (fun _ => ?_)
  refine WP.skip ?_
  refine sqN ?_
  refine WP.usreg rfl ?_
  refine U.p rfl rfl (.inl rfl) (S.move rfl (L 3 rfl rfl)) ?_
  refine U.p rfl rfl (.inl rfl) (S.nilCheck rfl (L 0 rfl rfl)) ?_
  refine U.p (v := .pointer (some ⟨b1, 0, none⟩)) rfl rfl (.inl rfl) (S.fieldAddr rfl (L 0 rfl rfl) Try.underlying62 rfl ti53 rfl rfl) ?_
  refine U.k rfl rfl (.inl rfl) (S.load rfl (L 0 rfl rfl) Try.underlying53 rfl ((ow.own (k := 0) rfl).cell rfl)) nd ?_
  have ow19 := ow.pick 1 rfl
  obtain ⟨x20, hx21, h22⟩ := bindS h
  refine O.call (V := V) rfl rfl (.inl rfl) rfl en32 (aC (L 0 rfl rfl) aN) (wk_slices_Clone V _ p0.events v4 ow19 _ hx21) (fun _ _ _ _ => nd) (fun v23 V24 le25 hp26 => ?_)
  obtain ⟨_, rfl, ow27⟩ := hp26
  refine U.p rfl rfl (.inl rfl) (S.assign rfl (L 0 rfl rfl)) ?_
  refine U.done (Nat.le_of_ble_eq_true rfl) ?_
  refine WP.ret ?_
  refine fin.slot (.inr rfl) rfl (L 0 rfl rfl) ⟨V24, rfl, le25, ?_⟩
  have ow30 := ow27.pick 6 rfl
  have ow31 := ow30.pick 6 rfl
  have ow32 := ow31.pick 6 rfl
  have ow33 := ow32.pick 6 rfl
  have ow34 := ow33.pick 5 rfl
  have ow35 := ow34.pick 6 rfl
  have ow36 := ow35.pick 6 rfl
  have e37 := Option.some.inj h22
  subst e37
  exact ⟨v23, rfl, ow36⟩

set_option maxHeartbeats 4000000 in
set_option maxRecDepth 10000 in
theorem wk_law16_StorageSettles (V : Vw) (Rs : List At) (p0 : Int) (p1 : List Tlaw16_Call) (v1 : Value) (f2 : Fz RT_Tlaw16_Call V v1 p1) (ow : Ow V (Rs)) (r : Bool) (h : law16_StorageSettles p0 p1 = some r) : ∃ v V', Cl Try.prog 0 7 #[.int .i64 p0, v1] V.H v V'.H ∧ V.le V' ∧ (v = .bool r ∧ Ow V' (Rs)) := by
  refine Ct.of (Nat.zero_le _) Try.func7 rfl (Nat.le_of_ble_eq_true rfl) ?_
  unfold law16_StorageSettles at h
  refine WP.usreg rfl ?_
  refine U.p rfl rfl (.inl rfl) (S.assign rfl K) ?_
  refine U.done (Nat.le_of_ble_eq_true rfl) ?_
  refine WP.seq ?_
  refine WP.usreg rfl ?_
  obtain ⟨x3, hx4, h5⟩ := bindS h
  refine O.call (V := V) rfl rfl (.inl rfl) rfl en9 aN (wk_law16_alive V _ ow _ hx4) (fun _ _ _ _ => nd) (fun v6 V7 le8 hp9 => ?_)
  obtain ⟨rfl, ow10⟩ := hp9
  refine U.p rfl rfl (.inl rfl) (S.not rfl (L 0 rfl rfl)) ?_
  refine U.done (Nat.le_of_ble_eq_true rfl) ?_
  refine WP.cond _ (L 0 rfl rfl) rfl (fun c11 => ?_) (fun c11 => ?_)
  · have h12 := ifT c11 h5
    have k13 : x3 = false := by simpa using c11
    refine WP.usreg rfl ?_
    refine U.p rfl rfl (.inl rfl) (S.assign rfl K) ?_
    refine U.done (Nat.le_of_ble_eq_true rfl) ?_
    refine WP.ret ?_
    refine sqR ?_
    refine fin.slot (.inr rfl) rfl (L 0 rfl rfl) ⟨V7, rfl, le8, ?_⟩
    have e14 := Option.some.inj h12
    subst e14
    exact ⟨rfl, ow10⟩
  · have h15 := ifF c11 h5
    have k16 : x3 = true := by simpa using c11
    refine WP.skip ?_
    refine sqN ?_
    refine WP.seq ?_
    refine WP.usreg rfl ?_
    refine U.p rfl rfl (.inl rfl) (S.move rfl (L 4 rfl rfl)) ?_
    refine U.p rfl rfl (.inl rfl) (f2.1.len rfl (L 0 rfl rfl) Try.underlying22) ?_
    refine U.p rfl rfl (.inl rfl) (S.gtr rfl (L 0 rfl rfl) K) ?_
    refine U.done (Nat.le_of_ble_eq_true rfl) ?_
    refine WP.cond _ (L 0 rfl rfl) rfl (fun c17 => ?_) (fun c17 => ?_)
    · have h18 := ifT c17 h15
      refine WP.usreg rfl ?_
      refine U.p rfl rfl (.inl rfl) (S.assign rfl K) ?_
      refine U.done (Nat.le_of_ble_eq_true rfl) ?_
      refine WP.ret ?_
      refine sqR ?_
      refine fin.slot (.inr rfl) rfl (L 0 rfl rfl) ⟨V7, rfl, le8, ?_⟩
      have e19 := Option.some.inj h18
      subst e19
      exact ⟨rfl, ow10⟩
    · have h20 := ifF c17 h15
      refine WP.skip ?_
      refine sqN ?_
      refine WP.usreg rfl ?_
      refine U.p rfl rfl (.inl rfl) (S.move rfl (L 6 rfl rfl)) ?_
      refine U.p rfl rfl (.inl rfl) (S.move rfl (L 8 rfl rfl)) ?_
      have f21 := f2.up le8
      obtain ⟨x22, hx23, h24⟩ := bindS h20
      refine O.call (V := V7) rfl rfl (.inl rfl) rfl en12 (aC (L 1 rfl rfl) (aC (L 0 rfl rfl) aN)) (wk_law16_made V7 _ p0 p1 v1 f21 ow10 _ hx23) (fun _ _ _ _ => nd) (fun v25 V26 le27 hp28 => ?_)
      obtain ⟨b30, z31, v33, v35, hs36, v38, hs39, v41, hs42, v44, rfl, ow29⟩ := hp28
      refine U.p rfl rfl (.inl rfl) (S.assign rfl (L 0 rfl rfl)) ?_
      refine U.done (Nat.le_of_ble_eq_true rfl) ?_
      refine WP.usreg rfl ?_
      refine U.p rfl rfl (.inl rfl) (S.move rfl (L 0 rfl rfl)) ?_
      have ow46 := ow29.pick 5 rfl
      have ow47 := ow46.pick 5 rfl
      have ow48 := ow47.pick 5 rfl
      have ow49 := ow48.pick 5 rfl
      have ow50 := ow49.pick 5 rfl
      have ow51 := ow50.pick 5 rfl
      obtain ⟨x52, hx53, h54⟩ := bindS h24
      refine O.call (V := V26) rfl rfl (.inl rfl) rfl en23 (aC (L 0 rfl rfl) aN) (wk_storage_Storage_Settle V26 _ x22 b30 z31 v33 v35 hs36 v38 hs39 v41 hs42 v44 ow51 _ hx53) (fun _ _ _ _ => nd) (fun v55 V56 le57 hp58 => ?_)
      obtain ⟨v60, v62, hs63, v65, hs66, v68, hs69, v71, ow59⟩ := hp58
      refine U.done (Nat.le_of_ble_eq_true rfl) ?_
      refine WP.seq ?_
      refine WP.usreg rfl ?_
      refine U.p rfl rfl (.inl rfl) (S.move rfl (L 2 rfl rfl)) ?_
      have ow73 := ow59.pick 5 rfl
      have ow74 := ow73.pick 5 rfl
      have ow75 := ow74.pick 5 rfl
      have ow76 := ow75.pick 5 rfl
      have ow77 := ow76.pick 5 rfl
      have ow78 := ow77.pick 5 rfl
      obtain ⟨x79, hx80, h81⟩ := bindS h54
      refine O.call (V := V56) rfl rfl (.inl rfl) rfl en24 (aC (L 0 rfl rfl) aN) (wk_storage_Storage_Events V56 _ x52 b30 z31 v60 v62 hs63 v65 hs66 v68 hs69 v71 ow78 _ hx80) (fun _ _ _ _ => nd) (fun v82 V83 le84 hp85 => ?_)
      obtain ⟨_, rfl, ow86⟩ := hp85
      refine U.p rfl rfl (.inl rfl) (ow86.oslen (k := 0) rfl rfl (L 0 rfl rfl) Try.underlying53) ?_
      refine U.p rfl rfl (.inl rfl) (S.move rfl K) ?_
      refine U.done (Nat.le_of_ble_eq_true rfl) ?_
      refine WP.blk ?_
      have ow90 := ow86.pick 0 rfl
      have ow91 := ow90.pick 6 rfl
      have ow92 := ow91.pick 6 rfl
      have ow93 := ow92.pick 6 rfl
      have ow94 := ow93.pick 6 rfl
      have ow95 := ow94.pick 6 rfl
      have ow96 := ow95.pick 6 rfl
      unfold law16_StorageSettles_l1 at h81
      obtain ⟨n98, hn97⟩ := loopO_some.1 h81
      refine WP.loopI2 (fun n l V' => ∃ (x89 : Int), l = [(5, .pointer (some ⟨b30, 0, none⟩)), (22, v82), (23, .int .i64 (x79.length : Int)), (24, .int .i64 x89)] ∧ V83.le V' ∧ Ow V' (.pt b30 (.cells z31 [v60, v62, v65, v68, v71]) :: .os RT_Tref16_Event v60 x52.events :: .oss (RO.os (RT.int .i64)) v62 hs63 x52.seen :: .oss (RO.om RT.bool false) v65 hs66 x52.has :: .oss (RO.om (RT.int .i64) false) v68 hs69 x52.now :: .om (RT.int .i64) false v71 x52.last :: .os RT_Tref16_Event v82 x79 :: Rs) ∧ itO (fun s => law16_StorageSettles_l1b x52 x79 s) n x89 = some r) n98 _ ⟨0, rfl, .refl _, ow96, hn97⟩ (allCons (L 6 rfl rfl) (allCons (L 2 rfl rfl) (allCons (L 1 rfl rfl) (allCons (L 0 rfl rfl) allNil)))) ?_
      rintro _ _ V99 ⟨x89, rfl, le100, ow101, h105⟩
      obtain ⟨m102, q103, rfl, h106, e104⟩ := itS h105
      replace h106 : law16_StorageSettles_l1b x52 x79 x89 = some q103 := h106
      unfold law16_StorageSettles_l1b at h106
      refine WP.usreg rfl ?_
      refine U.p rfl rfl (.inl rfl) (S.lss rfl (L 3 rfl rfl) (L 2 rfl rfl)) ?_
      refine U.done (Nat.le_of_ble_eq_true rfl) ?_
      refine WP.seq ?_
      refine WP.cond _ (L 0 rfl rfl) rfl (fun c107 => ?_) (fun c107 => ?_)
      · have h108 := ifT c107 h106
        refine WP.skip ?_
        refine sqN ?_
        refine WP.seq ?_
        refine WP.blk ?_
        refine WP.usreg rfl ?_
        refine U.p rfl rfl (.inl rfl) (S.move rfl (L 4 rfl rfl)) ?_
        obtain ⟨x109, hx110, h111⟩ := bindS h108
        obtain ⟨b112, o113, n114, c115, hv116⟩ := ow101.ospt (k := 6) rfl hx110
        obtain ⟨_, hv117, _⟩ := ow101.osel (k := 6) rfl hv116 hx110
        refine U.p rfl rfl (.inl rfl) (S.index rfl ((L 3 rfl rfl).trans hv117) (L 5 rfl rfl) Try.underlying53 ti55 (ix_ge hx110) (ix_lt hx110)) ?_
        obtain ⟨cs118, hv119, hlt120, hr121, hc122⟩ := ow101.osel (k := 6) rfl hv116 hx110
        obtain rfl : cs118 = [.int .i64 x109.thread, .bool x109.bar, .int .i64 x109.at_, .int .i64 x109.val] := hr121
        refine U.k rfl rfl (.inl rfl) (S.loadN (cs := [.int .i64 x109.thread, .bool x109.bar, .int .i64 x109.at_, .int .i64 x109.val]) rfl (L 0 rfl rfl) Try.underlying55 rfl ti55 rfl hc122) nd ?_
        refine O.alloc ow101 rfl rfl (.inl rfl) rfl ti55 rfl rfl nd (fun b123 V124 le125 ow126 => ?_)
        refine U.p rfl rfl (.inl rfl) (S.assign rfl (L 3 rfl rfl)) ?_
        refine O.store (k := 0) (cs := [.int .i64 x109.thread, .bool x109.bar, .int .i64 x109.at_, .int .i64 x109.val]) (c' := [.int .i64 x109.thread, .bool x109.bar, .int .i64 x109.at_, .int .i64 x109.val]) ow126 rfl rfl rfl (.inl rfl) rfl (L 1 rfl rfl) (L 2 rfl rfl) ti55 (by simp [topV]) rfl rfl (Nat.le_of_ble_eq_true rfl) rfl rfl nd (fun V128 le129 ow130 => ?_)
        refine U.done (Nat.le_of_ble_eq_true rfl) ?_
        refine WP.seq ?_
        refine WP.usreg rfl ?_
        refine U.p (v := .pointer (some ⟨b123, 1, none⟩)) rfl rfl (.inl rfl) (S.fieldAddr rfl (L 1 rfl rfl) Try.underlying55 rfl ti4 rfl rfl) ?_
        refine U.k rfl rfl (.inl rfl) (S.load rfl (L 0 rfl rfl) Try.underlying4 rfl ((ow130.own (k := 0) rfl).cell rfl)) nd ?_
        refine U.p rfl rfl (.inl rfl) (S.move rfl (L 0 rfl rfl)) ?_
        obtain ⟨y131, hy132, h133⟩ := bindS h111
        refine U.joinX 9 (fun e H => ∃ (u134 u135 u136 u137 u138 : Value), ∃ V' : Vw, H = V'.H ∧ V128.le V' ∧ e = [(37, .bool y131), (36, u134), (35, u135), (34, u136), (33, u137), (32, u138)] ∧ Ow V' (.pt b123 (.cells 4 [.int .i64 x109.thread, .bool x109.bar, .int .i64 x109.at_, .int .i64 x109.val]) :: .pt b30 (.cells z31 [v60, v62, v65, v68, v71]) :: .os RT_Tref16_Event v60 x52.events :: .oss (RO.os (RT.int .i64)) v62 hs63 x52.seen :: .oss (RO.om RT.bool false) v65 hs66 x52.has :: .oss (RO.om (RT.int .i64) false) v68 hs69 x52.now :: .om (RT.int .i64) false v71 x52.last :: .os RT_Tref16_Event v82 x79 :: Rs)) ?_ ?_
        · rintro _ _ ⟨u134, u135, u136, u137, u138, V139, rfl, le140, rfl, ow141⟩
          refine U.done (Nat.le_of_ble_eq_true rfl) ?_
          refine WP.cond _ (L 0 rfl rfl) rfl (fun c142 => ?_) (fun c142 => ?_)
          · have h143 := ifT c142 h133
            refine WP.usreg rfl ?_
            refine U.p rfl rfl (.inl rfl) (S.assign rfl K) ?_
            refine U.done (Nat.le_of_ble_eq_true rfl) ?_
            refine WP.ret ?_
            refine sqR (blkR (sqR (sqR (blkR (sqR ?_)))))
            have h144 := exitS h143 e104
            refine fin.slot (.inr rfl) rfl (L 0 rfl rfl) ⟨V139, rfl, (((((((le8.trans le27).trans le57).trans le84).trans le100).trans le125).trans le129).trans le140), ?_⟩
            have ow145 := ow141.drop 0 rfl
            have ow146 := ow145.drop 0 rfl
            have ow147 := ow146.drop 0 rfl
            have ow148 := ow147.drop 0 rfl
            have ow149 := ow148.drop 0 rfl
            have ow150 := ow149.drop 0 rfl
            have ow151 := ow150.drop 0 rfl
            have ow152 := ow151.drop 0 rfl
            have e153 := Option.some.inj h144
            subst e153
            exact ⟨rfl, ow152⟩
          · have h154 := ifF c142 h133
            refine WP.skip ?_
            refine sqN ?_
            refine WP.usreg rfl ?_
            refine U.p rfl rfl (.inl rfl) (S.assign rfl K) ?_
            refine U.done (Nat.le_of_ble_eq_true rfl) ?_
            refine WP.blk ?_
            have ow156 := ow141.pick 7 rfl
            have ow157 := ow156.pick 1 rfl
            have ow158 := ow157.pick 7 rfl
            have ow159 := ow158.pick 7 rfl
            have ow160 := ow159.pick 7 rfl
            have ow161 := ow160.pick 7 rfl
            have ow162 := ow161.pick 7 rfl
            have ow163 := ow162.pick 7 rfl
            unfold law16_StorageSettles_l2 at h154
            obtain ⟨n165, hn164⟩ := loopO_some.1 h154
            refine WP.loopI2 (fun n l V' => ∃ (x155 : Int), l = [(5, .pointer (some ⟨b30, 0, none⟩)), (6, .int .i64 x89), (7, .pointer (some ⟨b123, 0, none⟩)), (8, .int .i64 x155), (22, v82), (23, .int .i64 (x79.length : Int)), (24, .int .i64 x89)] ∧ V139.le V' ∧ Ow V' (.pt b30 (.cells z31 [v60, v62, v65, v68, v71]) :: .os RT_Tref16_Event v60 x52.events :: .oss (RO.os (RT.int .i64)) v62 hs63 x52.seen :: .oss (RO.om RT.bool false) v65 hs66 x52.has :: .oss (RO.om (RT.int .i64) false) v68 hs69 x52.now :: .om (RT.int .i64) false v71 x52.last :: .pt b123 (.cells 4 [.int .i64 x109.thread, .bool x109.bar, .int .i64 x109.at_, .int .i64 x109.val]) :: .os RT_Tref16_Event v82 x79 :: Rs) ∧ itO (fun s => law16_StorageSettles_l2b x52 x89 x109 s) n x155 = some q103) n165 _ ⟨0, rfl, .refl _, ow163, hn164⟩ (allCons (L 16 rfl rfl) (allCons (L 10 rfl rfl) (allCons (L 11 rfl rfl) (allCons (L 0 rfl rfl) (allCons (L 17 rfl rfl) (allCons (L 18 rfl rfl) (allCons (L 19 rfl rfl) allNil))))))) ?_
            rintro _ _ V166 ⟨x155, rfl, le167, ow168, h172⟩
            obtain ⟨m169, q170, rfl, h173, e171⟩ := itS h172
            replace h173 : law16_StorageSettles_l2b x52 x89 x109 x155 = some q170 := h173
            unfold law16_StorageSettles_l2b at h173
            refine WP.seq ?_
            refine WP.usreg rfl ?_
            refine U.p rfl rfl (.inl rfl) (S.move rfl (L 3 rfl rfl)) ?_
            refine U.p rfl rfl (.inl rfl) (S.move rfl (L 1 rfl rfl)) ?_
            have ow174 := ow168.pick 5 rfl
            have ow175 := ow174.pick 5 rfl
            have ow176 := ow175.pick 5 rfl
            have ow177 := ow176.pick 5 rfl
            have ow178 := ow177.pick 5 rfl
            have ow179 := ow178.pick 5 rfl
            obtain ⟨x180, hx181, h182⟩ := bindS h173
            refine O.call (V := V166) rfl rfl (.inl rfl) rfl en11 (aC (L 0 rfl rfl) aN) (wk_storage_Storage_Threads V166 _ x52 b30 z31 v60 v62 hs63 v65 hs66 v68 hs69 v71 ow179 _ hx181) (fun _ _ _ _ => nd) (fun v183 V184 le185 hp186 => ?_)
            obtain ⟨rfl, ow187⟩ := hp186
            refine U.p rfl rfl (.inl rfl) (S.lss rfl (L 2 rfl rfl) (L 0 rfl rfl)) ?_
            refine U.done (Nat.le_of_ble_eq_true rfl) ?_
            refine WP.cond _ (L 0 rfl rfl) rfl (fun c188 => ?_) (fun c188 => ?_)
            · have h189 := ifT c188 h182
              refine WP.skip ?_
              refine sqN ?_
              refine WP.seq ?_
              refine WP.blk ?_
              refine WP.usreg rfl ?_
              refine U.p rfl rfl (.inl rfl) (S.move rfl (L 4 rfl rfl)) ?_
              refine U.p rfl rfl (.inl rfl) (S.move rfl (L 8 rfl rfl)) ?_
              refine U.p (v := .pointer (some ⟨b123, 2, none⟩)) rfl rfl (.inl rfl) (S.fieldAddr rfl (L 8 rfl rfl) Try.underlying55 rfl ti3 rfl rfl) ?_
              refine U.k rfl rfl (.inl rfl) (S.load rfl (L 0 rfl rfl) Try.underlying3 rfl ((ow187.own (k := 6) rfl).cell rfl)) nd ?_
              have ow190 := ow187.pick 5 rfl
              have ow191 := ow190.pick 5 rfl
              have ow192 := ow191.pick 5 rfl
              have ow193 := ow192.pick 5 rfl
              have ow194 := ow193.pick 5 rfl
              have ow195 := ow194.pick 5 rfl
              obtain ⟨x196, hx197, h198⟩ := bindS h189
              refine O.call (V := V184) rfl rfl (.inl rfl) rfl en13 (aC (L 3 rfl rfl) (aC (L 2 rfl rfl) (aC (L 0 rfl rfl) aN))) (wk_storage_Storage_Read V184 _ x52 x155 x109.at_ b30 z31 v60 v62 hs63 v65 hs66 v68 hs69 v71 ow195 _ hx197) (fun _ _ _ _ => nd) (fun v199 V200 le201 hp202 => ?_)
              obtain ⟨rfl, ow203⟩ := hp202
              refine U.p rfl rfl (.inl rfl) (S.move rfl (L 0 rfl rfl)) ?_
              refine U.p rfl rfl (.inl rfl) (S.extract rfl (L 0 rfl rfl) rfl (Nat.le_of_ble_eq_true rfl)) ?_
              refine U.p rfl rfl (.inl rfl) (S.extract rfl (L 1 rfl rfl) rfl (Nat.le_of_ble_eq_true rfl)) ?_
              refine U.p rfl rfl (.inl rfl) (S.assign rfl (L 1 rfl rfl)) ?_
              refine U.p rfl rfl (.inl rfl) (S.assign rfl (L 1 rfl rfl)) ?_
              refine U.done (Nat.le_of_ble_eq_true rfl) ?_
              refine WP.usreg rfl ?_
              refine U.p rfl rfl (.inl rfl) (S.move rfl (L 14 rfl rfl)) ?_
              refine U.p rfl rfl (.inl rfl) (S.move rfl (L 18 rfl rfl)) ?_
              refine U.p rfl rfl (.inl rfl) (S.move rfl (L 17 rfl rfl)) ?_
              refine U.p rfl rfl (.inl rfl) (S.add rfl (L 0 rfl rfl) K) ?_
              have ow204 := ow203.pick 5 rfl
              have ow205 := ow204.pick 5 rfl
              have ow206 := ow205.pick 5 rfl
              have ow207 := ow206.pick 5 rfl
              have ow208 := ow207.pick 5 rfl
              have ow209 := ow208.pick 5 rfl
              obtain ⟨x210, hx211, h212⟩ := bindS h198
              refine O.call (V := V200) rfl rfl (.inl rfl) rfl en25 (aC (L 3 rfl rfl) (aC (L 2 rfl rfl) (aC (L 0 rfl rfl) aN))) (wk_storage_Storage_May V200 _ x52 x155 (w64 (x89 + 1)) b30 z31 v60 v62 hs63 v65 hs66 v68 hs69 v71 ow209 _ hx211) (fun _ _ _ _ => nd) (fun v213 V214 le215 hp216 => ?_)
              obtain ⟨rfl, ow217⟩ := hp216
              refine U.p rfl rfl (.inl rfl) (S.move rfl (L 0 rfl rfl)) ?_
              obtain ⟨y218, hy219, h220⟩ := bindS h212
              refine U.joinX 18 (fun e H => ∃ (u221 u222 u223 u224 u225 u226 u227 u228 u229 u230 u231 : Value), ∃ V' : Vw, H = V'.H ∧ V214.le V' ∧ e = [(69, .bool y218), (68, u221), (67, u222), (66, u223), (65, u224), (64, u225), (63, u226), (62, u227), (61, u228), (60, u229), (59, u230), (58, u231)] ∧ Ow V' (.pt b30 (.cells z31 [v60, v62, v65, v68, v71]) :: .os RT_Tref16_Event v60 x52.events :: .oss (RO.os (RT.int .i64)) v62 hs63 x52.seen :: .oss (RO.om RT.bool false) v65 hs66 x52.has :: .oss (RO.om (RT.int .i64) false) v68 hs69 x52.now :: .om (RT.int .i64) false v71 x52.last :: .pt b123 (.cells 4 [.int .i64 x109.thread, .bool x109.bar, .int .i64 x109.at_, .int .i64 x109.val]) :: .os RT_Tref16_Event v82 x79 :: Rs)) ?_ ?_
              · rintro _ _ ⟨u221, u222, u223, u224, u225, u226, u227, u228, u229, u230, u231, V232, rfl, le233, rfl, ow234⟩
                refine U.done (Nat.le_of_ble_eq_true rfl) ?_
                refine WP.cond _ (L 0 rfl rfl) rfl (fun c235 => ?_) (fun c235 => ?_)
                · have h236 := ifT c235 h220
                  refine WP.usreg rfl ?_
                  refine U.p rfl rfl (.inl rfl) (S.assign rfl K) ?_
                  refine U.done (Nat.le_of_ble_eq_true rfl) ?_
                  refine WP.ret ?_
                  refine blkR (sqR (sqR (blkR (blkR (sqR (sqR (blkR (sqR ?_))))))))
                  have h237 := exitS h236 e171
                  have h238 := exitS h237 e104
                  refine fin.slot (.inr rfl) rfl (L 0 rfl rfl) ⟨V232, rfl, ((((((((((((le8.trans le27).trans le57).trans le84).trans le100).trans le125).trans le129).trans le140).trans le167).trans le185).trans le201).trans le215).trans le233), ?_⟩
                  have ow239 := ow234.drop 0 rfl
                  have ow240 := ow239.drop 0 rfl
                  have ow241 := ow240.drop 0 rfl
                  have ow242 := ow241.drop 0 rfl
                  have ow243 := ow242.drop 0 rfl
                  have ow244 := ow243.drop 0 rfl
                  have ow245 := ow244.drop 0 rfl
                  have ow246 := ow245.drop 0 rfl
                  have e247 := Option.some.inj h238
                  subst e247
                  exact ⟨rfl, ow246⟩
                · have h248 := ifF c235 h220
                  refine WP.skip ?_
                  refine blkN (sqN ?_)
                  refine WP.ureg rfl ?_
                  refine U.p rfl rfl (.inl rfl) (S.move rfl (L 35 rfl rfl)) ?_
                  refine U.p rfl rfl (.inl rfl) (S.add rfl (L 0 rfl rfl) K) ?_
                  refine U.p rfl rfl (.inl rfl) (S.assign rfl (L 0 rfl rfl)) ?_
                  refine U.done (Nat.le_of_ble_eq_true rfl) ?_
                  refine sqN ?_
                  exact ⟨_, V232, rfl, ⟨m169, Nat.lt_succ_self _, w64 (x155 + 1), rfl, ((((le167.trans le185).trans le201).trans le215).trans le233), ow234, backS h248 e171⟩, (allCons (L 35 rfl rfl) (allCons (L 36 rfl rfl) (allCons (L 37 rfl rfl) (allCons (L 0 rfl rfl) (allCons (L 39 rfl rfl) (allCons (L 40 rfl rfl) (allCons (L 41 rfl rfl) allNil)))))))⟩
              · intro kk
                refine bcase (b := x210) (fun g249 => ?_) (fun g249 => ?_)
                · have h250 := ifT g249 hy219
                  refine U.x rfl rfl rfl rfl ((L 0 rfl rfl).trans (congrArg Value.bool g249)) (by decide) ?_
                  refine U.x rfl rfl rfl rfl ((L 1 rfl rfl).trans (congrArg Value.bool g249)) (by decide) ?_
                  refine U.x rfl rfl rfl rfl ((L 2 rfl rfl).trans (congrArg Value.bool g249)) (by decide) ?_
                  refine U.x rfl rfl rfl rfl ((L 3 rfl rfl).trans (congrArg Value.bool g249)) (by decide) ?_
                  refine U.z rfl rfl rfl rfl (L 0 rfl rfl) ?_
                  refine U.z rfl rfl rfl rfl (L 1 rfl rfl) ?_
                  refine U.z rfl rfl rfl rfl (L 2 rfl rfl) ?_
                  refine U.z rfl rfl rfl rfl (L 3 rfl rfl) ?_
                  refine U.z rfl rfl rfl rfl (L 4 rfl rfl) ?_
                  refine U.z rfl rfl rfl rfl (L 5 rfl rfl) ?_
                  refine U.x rfl rfl rfl rfl ((L 10 rfl rfl).trans (congrArg Value.bool g249)) (by decide) ?_
                  refine U.p rfl rfl (.inl rfl) (S.pickT rfl ((L 11 rfl rfl).trans (congrArg Value.bool g249)) K) ?_
                  have e251 := Option.some.inj h250
                  subst e251
                  exact kk [(69, .bool true), (68, .tuple #[]), (67, .tuple #[]), (66, .tuple #[]), (65, .tuple #[]), (64, .tuple #[]), (63, .tuple #[]), (62, .tuple #[]), (61, .tuple #[]), (60, .tuple #[]), (59, .tuple #[]), (58, .tuple #[])] _ ⟨.tuple #[], .tuple #[], .tuple #[], .tuple #[], .tuple #[], .tuple #[], .tuple #[], .tuple #[], .tuple #[], .tuple #[], .tuple #[], V214, rfl, (.refl _), rfl, ow217⟩
                · have h252 := ifF g249 hy219
                  refine U.p (v := .pointer (some ⟨b123, 1, none⟩)) rfl rfl (.inr ⟨_, _, _, rfl, rfl, ((L 0 rfl rfl).trans (congrArg Value.bool g249))⟩) (S.fieldAddr rfl (L 22 rfl rfl) Try.underlying55 rfl ti4 rfl rfl) ?_
                  refine U.k rfl rfl (.inr ⟨_, _, _, rfl, rfl, ((L 1 rfl rfl).trans (congrArg Value.bool g249))⟩) (S.load rfl (L 0 rfl rfl) Try.underlying4 rfl ((ow217.own (k := 6) rfl).cell rfl)) nd ?_
                  refine U.p rfl rfl (.inr ⟨_, _, _, rfl, rfl, ((L 2 rfl rfl).trans (congrArg Value.bool g249))⟩) (S.not rfl (L 0 rfl rfl)) ?_
                  refine U.p rfl rfl (.inr ⟨_, _, _, rfl, rfl, ((L 3 rfl rfl).trans (congrArg Value.bool g249))⟩) (S.move rfl (L 0 rfl rfl)) ?_
                  obtain ⟨y253, hy254, h255⟩ := bindS h252
                  refine U.joinX 17 (fun e H => ∃ (u256 u257 u258 u259 u260 u261 : Value), ∃ V' : Vw, H = V'.H ∧ V214.le V' ∧ e = [(68, .bool y253), (67, u256), (66, u257), (65, u258), (64, u259), (63, u260), (62, u261)] ∧ Ow V' (.pt b30 (.cells z31 [v60, v62, v65, v68, v71]) :: .os RT_Tref16_Event v60 x52.events :: .oss (RO.os (RT.int .i64)) v62 hs63 x52.seen :: .oss (RO.om RT.bool false) v65 hs66 x52.has :: .oss (RO.om (RT.int .i64) false) v68 hs69 x52.now :: .om (RT.int .i64) false v71 x52.last :: .pt b123 (.cells 4 [.int .i64 x109.thread, .bool x109.bar, .int .i64 x109.at_, .int .i64 x109.val]) :: .os RT_Tref16_Event v82 x79 :: Rs)) ?_ ?_
                  · rintro _ _ ⟨u256, u257, u258, u259, u260, u261, V262, rfl, le263, rfl, ow264⟩
                    refine U.p rfl rfl (.inl rfl) (S.pickF rfl ((L 11 rfl rfl).trans (congrArg Value.bool g249)) (L 0 rfl rfl)) ?_
                    have e265 := Option.some.inj h255
                    subst e265
                    exact kk [(69, .bool y253), (68, .bool y253), (67, u256), (66, u257), (65, u258), (64, u259), (63, u260), (62, u261), (61, .bool (!x109.bar)), (60, .bool (!x109.bar)), (59, .bool x109.bar), (58, .pointer (some ⟨b123, 1, none⟩))] _ ⟨.bool y253, u256, u257, u258, u259, u260, u261, .bool (!x109.bar), .bool (!x109.bar), .bool x109.bar, .pointer (some ⟨b123, 1, none⟩), V262, rfl, le263, rfl, ow264⟩
                  · intro kk
                    refine bcase (b := !x109.bar) (fun g266 => ?_) (fun g266 => ?_)
                    · have h267 := ifT g266 hy254
                      have k268 : x109.bar = false := by simpa using g266
                      refine U.p rfl rfl (.inr ⟨_, _, _, rfl, rfl, ((L 0 rfl rfl).trans (congrArg Value.bool g266))⟩) (S.move rfl (L 10 rfl rfl)) ?_
                      refine U.p rfl rfl (.inr ⟨_, _, _, rfl, rfl, ((L 1 rfl rfl).trans (congrArg Value.bool g266))⟩) (S.move rfl (L 25 rfl rfl)) ?_
                      refine U.p (v := .pointer (some ⟨b123, 2, none⟩)) rfl rfl (.inr ⟨_, _, _, rfl, rfl, ((L 2 rfl rfl).trans (congrArg Value.bool g266))⟩) (S.fieldAddr rfl (L 28 rfl rfl) Try.underlying55 rfl ti3 rfl rfl) ?_
                      refine U.k rfl rfl (.inr ⟨_, _, _, rfl, rfl, ((L 3 rfl rfl).trans (congrArg Value.bool g266))⟩) (S.load rfl (L 0 rfl rfl) Try.underlying3 rfl ((ow217.own (k := 6) rfl).cell rfl)) nd ?_
                      have ow269 := ow217.pick 5 rfl
                      have ow270 := ow269.pick 5 rfl
                      have ow271 := ow270.pick 5 rfl
                      have ow272 := ow271.pick 5 rfl
                      have ow273 := ow272.pick 5 rfl
                      have ow274 := ow273.pick 5 rfl
                      obtain ⟨x275, hx276, h277⟩ := bindS h267
                      refine O.call (V := V214) rfl rfl (.inr ⟨_, _, _, rfl, rfl, ((L 4 rfl rfl).trans (congrArg Value.bool g266))⟩) rfl en21 (aC (L 2 rfl rfl) (aC (L 0 rfl rfl) aN)) (wk_storage_Storage_Last V214 _ x52 x109.at_ b30 z31 v60 v62 hs63 v65 hs66 v68 hs69 v71 ow274 _ hx276) (fun _ _ _ _ => nd) (fun v278 V279 le280 hp281 => ?_)
                      obtain ⟨rfl, ow282⟩ := hp281
                      refine U.p rfl rfl (.inr ⟨_, _, _, rfl, rfl, ((L 5 rfl rfl).trans (congrArg Value.bool g266))⟩) (S.neqI rfl (L 4 rfl rfl) (L 0 rfl rfl)) ?_
                      refine U.p rfl rfl (.inr ⟨_, _, _, rfl, rfl, ((L 10 rfl rfl).trans (congrArg Value.bool g249))⟩) (S.pickT rfl ((L 6 rfl rfl).trans (congrArg Value.bool g266)) (L 0 rfl rfl)) ?_
                      have e283 := Option.some.inj h277
                      subst e283
                      exact kk [(68, .bool (decide (x196.2 ≠ x275))), (67, .bool (decide (x196.2 ≠ x275))), (66, .int .i64 x275), (65, .int .i64 x109.at_), (64, .pointer (some ⟨b123, 2, none⟩)), (63, .pointer (some ⟨b30, 0, none⟩)), (62, .int .i64 x196.2)] _ ⟨.bool (decide (x196.2 ≠ x275)), .int .i64 x275, .int .i64 x109.at_, .pointer (some ⟨b123, 2, none⟩), .pointer (some ⟨b30, 0, none⟩), .int .i64 x196.2, V279, rfl, le280, rfl, ow282⟩
                    · have h284 := ifF g266 hy254
                      have k285 : x109.bar = true := by simpa using g266
                      refine U.x rfl rfl rfl rfl ((L 0 rfl rfl).trans (congrArg Value.bool g266)) (by decide) ?_
                      refine U.x rfl rfl rfl rfl ((L 1 rfl rfl).trans (congrArg Value.bool g266)) (by decide) ?_
                      refine U.x rfl rfl rfl rfl ((L 2 rfl rfl).trans (congrArg Value.bool g266)) (by decide) ?_
                      refine U.x rfl rfl rfl rfl ((L 3 rfl rfl).trans (congrArg Value.bool g266)) (by decide) ?_
                      refine U.x rfl rfl rfl rfl ((L 4 rfl rfl).trans (congrArg Value.bool g266)) (by decide) ?_
                      refine U.x rfl rfl rfl rfl ((L 5 rfl rfl).trans (congrArg Value.bool g266)) (by decide) ?_
                      refine U.p rfl rfl (.inr ⟨_, _, _, rfl, rfl, ((L 10 rfl rfl).trans (congrArg Value.bool g249))⟩) (S.pickF rfl ((L 6 rfl rfl).trans (congrArg Value.bool g266)) K) ?_
                      have e286 := Option.some.inj h284
                      subst e286
                      exact kk [(68, .bool false), (67, .tuple #[]), (66, .tuple #[]), (65, .tuple #[]), (64, .tuple #[]), (63, .tuple #[]), (62, .tuple #[])] _ ⟨.tuple #[], .tuple #[], .tuple #[], .tuple #[], .tuple #[], .tuple #[], V214, rfl, (.refl _), rfl, ow217⟩
            · have h287 := ifF c188 h182
              refine WP.exit ?_
              refine sqE (sqE (blkE (blkN (sqN ?_))))
              have h288 := exitS h287 e171
              refine WP.ureg rfl ?_
              refine U.p rfl rfl (.inl rfl) (S.add rfl (L 10 rfl rfl) K) ?_
              refine U.p rfl rfl (.inl rfl) (S.move rfl (L 0 rfl rfl)) ?_
              refine U.done (Nat.le_of_ble_eq_true rfl) ?_
              refine sqN ?_
              have ow289 := ow187.drop 6 rfl
              exact ⟨_, V184, rfl, ⟨m102, Nat.lt_succ_self _, w64 (x89 + 1), rfl, (((((le100.trans le125).trans le129).trans le140).trans le167).trans le185), ow289, backS h288 e104⟩, (allCons (L 6 rfl rfl) (allCons (L 10 rfl rfl) (allCons (L 11 rfl rfl) (allCons (L 0 rfl rfl) allNil))))⟩
        · intro kk
          refine bcase (b := x109.bar) (fun g290 => ?_) (fun g290 => ?_)
          · have h291 := ifT g290 hy132
            refine U.p rfl rfl (.inr ⟨_, _, _, rfl, rfl, ((L 0 rfl rfl).trans (congrArg Value.bool g290))⟩) (S.move rfl (L 9 rfl rfl)) ?_
            refine U.p rfl rfl (.inr ⟨_, _, _, rfl, rfl, ((L 1 rfl rfl).trans (congrArg Value.bool g290))⟩) (S.move rfl (L 4 rfl rfl)) ?_
            refine U.p rfl rfl (.inr ⟨_, _, _, rfl, rfl, ((L 2 rfl rfl).trans (congrArg Value.bool g290))⟩) (S.add rfl (L 0 rfl rfl) K) ?_
            have ow292 := ow130.pick 6 rfl
            have ow293 := ow292.pick 6 rfl
            have ow294 := ow293.pick 6 rfl
            have ow295 := ow294.pick 6 rfl
            have ow296 := ow295.pick 6 rfl
            have ow297 := ow296.pick 6 rfl
            obtain ⟨x298, hx299, h300⟩ := bindS h291
            refine O.call (V := V128) rfl rfl (.inr ⟨_, _, _, rfl, rfl, ((L 3 rfl rfl).trans (congrArg Value.bool g290))⟩) rfl en22 (aC (L 2 rfl rfl) (aC (L 0 rfl rfl) aN)) (wk_storage_Storage_Acked V128 _ x52 (w64 (x89 + 1)) b30 z31 v60 v62 hs63 v65 hs66 v68 hs69 v71 ow297 _ hx299) (fun _ _ _ _ => nd) (fun v301 V302 le303 hp304 => ?_)
            obtain ⟨rfl, ow305⟩ := hp304
            refine U.p rfl rfl (.inr ⟨_, _, _, rfl, rfl, ((L 4 rfl rfl).trans (congrArg Value.bool g290))⟩) (S.not rfl (L 0 rfl rfl)) ?_
            refine U.p rfl rfl (.inl rfl) (S.pickT rfl ((L 5 rfl rfl).trans (congrArg Value.bool g290)) (L 0 rfl rfl)) ?_
            have e306 := Option.some.inj h300
            subst e306
            have ow307 := ow305.pick 7 rfl
            have ow308 := ow307.pick 6 rfl
            have ow309 := ow308.pick 6 rfl
            have ow310 := ow309.pick 6 rfl
            have ow311 := ow310.pick 6 rfl
            have ow312 := ow311.pick 6 rfl
            have ow313 := ow312.pick 6 rfl
            have ow314 := ow313.pick 7 rfl
            exact kk [(37, .bool (!x298)), (36, .bool (!x298)), (35, .bool x298), (34, .int .i64 (w64 (x89 + 1))), (33, .int .i64 x89), (32, .pointer (some ⟨b30, 0, none⟩))] _ ⟨.bool (!x298), .bool x298, .int .i64 (w64 (x89 + 1)), .int .i64 x89, .pointer (some ⟨b30, 0, none⟩), V302, rfl, le303, rfl, ow314⟩
          · have h315 := ifF g290 hy132
            refine U.x rfl rfl rfl rfl ((L 0 rfl rfl).trans (congrArg Value.bool g290)) (by decide) ?_
            refine U.x rfl rfl rfl rfl ((L 1 rfl rfl).trans (congrArg Value.bool g290)) (by decide) ?_
            refine U.x rfl rfl rfl rfl ((L 2 rfl rfl).trans (congrArg Value.bool g290)) (by decide) ?_
            refine U.x rfl rfl rfl rfl ((L 3 rfl rfl).trans (congrArg Value.bool g290)) (by decide) ?_
            refine U.x rfl rfl rfl rfl ((L 4 rfl rfl).trans (congrArg Value.bool g290)) (by decide) ?_
            refine U.p rfl rfl (.inl rfl) (S.pickF rfl ((L 5 rfl rfl).trans (congrArg Value.bool g290)) K) ?_
            have e316 := Option.some.inj h315
            subst e316
            exact kk [(37, .bool false), (36, .tuple #[]), (35, .tuple #[]), (34, .tuple #[]), (33, .tuple #[]), (32, .tuple #[])] _ ⟨.tuple #[], .tuple #[], .tuple #[], .tuple #[], .tuple #[], V128, rfl, (.refl _), rfl, ow130⟩
      · have h317 := ifF c107 h106
        refine WP.exit ?_
        refine sqE (sqE (blkE (sqN ?_)))
        have h318 := exitS h317 e104
        refine WP.usreg rfl ?_
        refine U.p rfl rfl (.inl rfl) (S.assign rfl K) ?_
        refine U.done (Nat.le_of_ble_eq_true rfl) ?_
        refine WP.ret ?_
        refine fin.slot (.inr rfl) rfl (L 0 rfl rfl) ⟨V99, rfl, ((((le8.trans le27).trans le57).trans le84).trans le100), ?_⟩
        have ow319 := ow101.drop 0 rfl
        have ow320 := ow319.drop 0 rfl
        have ow321 := ow320.drop 0 rfl
        have ow322 := ow321.drop 0 rfl
        have ow323 := ow322.drop 0 rfl
        have ow324 := ow323.drop 0 rfl
        have ow325 := ow324.drop 0 rfl
        have e326 := Option.some.inj h318
        subst e326
        exact ⟨rfl, ow325⟩

end Go.Vm.G16
