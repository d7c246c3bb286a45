/-
  What the functions compute is what the plain ones say, for all inputs at which those answer.
-/
import Derived.Test.YtbmkccjfldmgiaaEWG21b
set_option linter.unusedSimpArgs false
set_option linter.unusedVariables false
namespace Go.Vm.G21
open Go Go.Proofs

set_option maxHeartbeats 4000000 in
set_option maxRecDepth 10000 in
theorem wk_law21_OrderWays (V : Vw) (Rs : List At) (p0 : List (List TEvent)) (v1 : Value) (f2 : Fz (RT.sl RT_TEvent) V v1 p0) (ow : Ow V (Rs)) (r : Bool) (h : law21_OrderWays p0 = some r) : ∃ v V', Cl Try.prog 0 3 #[v1] V.H v V'.H ∧ V.le V' ∧ (v = .bool r ∧ Ow V' (Rs)) := by
  refine Ct.of (Nat.zero_le _) Try.func3 rfl (Nat.le_of_ble_eq_true rfl) ?_
  unfold law21_OrderWays at h
  refine WP.usreg rfl ?_
  refine U.p rfl rfl (.inl rfl) (S.assign rfl K) ?_
  refine U.done (Nat.le_of_ble_eq_true rfl) ?_
  refine WP.seq ?_
  refine WP.usreg rfl ?_
  obtain ⟨x3, hx4, h5⟩ := bindS h
  refine O.call (V := V) rfl rfl (.inl rfl) rfl en8 aN (wk_law21_alive V _ ow _ hx4) (fun _ _ _ _ => nd) (fun v6 V7 le8 hp9 => ?_)
  obtain ⟨rfl, ow10⟩ := hp9
  refine U.p rfl rfl (.inl rfl) (S.not rfl (L 0 rfl rfl)) ?_
  refine U.done (Nat.le_of_ble_eq_true rfl) ?_
  refine WP.cond _ (L 0 rfl rfl) rfl (fun c11 => ?_) (fun c11 => ?_)
  · have h12 := ifT c11 h5
    have k13 : x3 = false := by simpa using c11
    refine WP.usreg rfl ?_
    refine U.p rfl rfl (.inl rfl) (S.assign rfl K) ?_
    refine U.done (Nat.le_of_ble_eq_true rfl) ?_
    refine WP.ret ?_
    refine sqR ?_
    refine fin.slot (.inr rfl) rfl (L 0 rfl rfl) ⟨V7, rfl, le8, ?_⟩
    have e14 := Option.some.inj h12
    subst e14
    exact ⟨rfl, ow10⟩
  · have h15 := ifF c11 h5
    have k16 : x3 = true := by simpa using c11
    refine WP.skip ?_
    refine sqN ?_
    refine WP.seq ?_
    refine WP.usreg rfl ?_
    refine U.p rfl rfl (.inl rfl) (S.move rfl (L 3 rfl rfl)) ?_
    have f17 := f2.up le8
    obtain ⟨x18, hx19, h20⟩ := bindS h15
    refine O.call (V := V7) rfl rfl (.inl rfl) rfl en9 (aC (L 0 rfl rfl) aN) (wk_law21_great V7 _ p0 v1 f17 ow10 _ hx19) (fun _ _ _ _ => nd) (fun v21 V22 le23 hp24 => ?_)
    obtain ⟨rfl, ow25⟩ := hp24
    refine U.p rfl rfl (.inl rfl) (S.move rfl (L 0 rfl rfl)) ?_
    obtain ⟨y26, hy27, h28⟩ := bindS h20
    refine U.joinX 7 (fun e H => ∃ (u29 u30 u31 : Value), ∃ V' : Vw, H = V'.H ∧ V22.le V' ∧ e = [(12, .bool y26), (11, u29), (10, u30), (9, u31)] ∧ Ow V' (Rs)) ?_ ?_
    · rintro _ _ ⟨u29, u30, u31, V32, rfl, le33, rfl, ow34⟩
      refine U.done (Nat.le_of_ble_eq_true rfl) ?_
      refine WP.cond _ (L 0 rfl rfl) rfl (fun c35 => ?_) (fun c35 => ?_)
      · have h36 := ifT c35 h28
        refine WP.usreg rfl ?_
        refine U.p rfl rfl (.inl rfl) (S.assign rfl K) ?_
        refine U.done (Nat.le_of_ble_eq_true rfl) ?_
        refine WP.ret ?_
        refine sqR ?_
        refine fin.slot (.inr rfl) rfl (L 0 rfl rfl) ⟨V32, rfl, ((le8.trans le23).trans le33), ?_⟩
        have e37 := Option.some.inj h36
        subst e37
        exact ⟨rfl, ow34⟩
      · have h38 := ifF c35 h28
        refine WP.skip ?_
        refine sqN ?_
        refine WP.usreg rfl ?_
        refine U.p rfl rfl (.inl rfl) (S.move rfl (L 10 rfl rfl)) ?_
        refine U.p rfl rfl (.inl rfl) (S.assign rfl (L 0 rfl rfl)) ?_
        refine U.done (Nat.le_of_ble_eq_true rfl) ?_
        refine WP.usreg rfl ?_
        refine U.p rfl rfl (.inl rfl) (S.move rfl (L 0 rfl rfl)) ?_
        have f39 := f17.up (le23.trans le33)
        obtain ⟨x40, hx41, h42⟩ := bindS h38
        refine O.call (V := V32) rfl rfl (.inl rfl) rfl en11 (aC (L 0 rfl rfl) aN) (wk_order_Run_Coherent_2 V32 _ p0 v1 f39 ow34 _ hx41) (fun _ _ _ _ => nd) (fun v43 V44 le45 hp46 => ?_)
        obtain ⟨rfl, ow47⟩ := hp46
        refine U.p rfl rfl (.inl rfl) (S.move rfl (L 14 rfl rfl)) ?_
        have f48 := f39.up le45
        obtain ⟨x49, hx50, h51⟩ := bindS h42
        refine O.call (V := V44) rfl rfl (.inl rfl) rfl en12 (aC (L 0 rfl rfl) (aC K (aC K aN))) (wk_ref21_Acyclic V44 _ p0 false true v1 f48 ow47 _ hx50) (fun _ _ _ _ => nd) (fun v52 V53 le54 hp55 => ?_)
        obtain ⟨rfl, ow56⟩ := hp55
        refine U.p rfl rfl (.inl rfl) (S.eqlB rfl (L 2 rfl rfl) (L 0 rfl rfl) Try.underlying4) ?_
        refine U.p rfl rfl (.inl rfl) (S.move rfl (L 0 rfl rfl)) ?_
        obtain ⟨y57, hy58, h59⟩ := bindS h51
        refine U.joinX 12 (fun e H => ∃ (u60 u61 u62 u63 u64 : Value), ∃ V' : Vw, H = V'.H ∧ V53.le V' ∧ e = [(25, .bool y57), (24, u60), (23, u61), (22, u62), (21, u63), (20, u64)] ∧ Ow V' (Rs)) ?_ ?_
        · rintro _ _ ⟨u60, u61, u62, u63, u64, V65, rfl, le66, rfl, ow67⟩
          refine U.p rfl rfl (.inl rfl) (S.move rfl (L 0 rfl rfl)) ?_
          obtain ⟨y68, hy69, h70⟩ := bindS h59
          refine U.joinX 19 (fun e H => ∃ (u71 u72 u73 u74 u75 : Value), ∃ V' : Vw, H = V'.H ∧ V65.le V' ∧ e = [(32, .bool y68), (31, u71), (30, u72), (29, u73), (28, u74), (27, u75)] ∧ Ow V' (Rs)) ?_ ?_
          · rintro _ _ ⟨u71, u72, u73, u74, u75, V76, rfl, le77, rfl, ow78⟩
            refine U.p rfl rfl (.inl rfl) (S.assign rfl (L 0 rfl rfl)) ?_
            refine U.done (Nat.le_of_ble_eq_true rfl) ?_
            refine WP.ret ?_
            refine fin.slot (.inr rfl) rfl (L 0 rfl rfl) ⟨V76, rfl, ((((((le8.trans le23).trans le33).trans le45).trans le54).trans le66).trans le77), ?_⟩
            have e79 := Option.some.inj h70
            subst e79
            exact ⟨rfl, ow78⟩
          · intro kk
            refine bcase (b := y57) (fun g80 => ?_) (fun g80 => ?_)
            · have h81 := ifT g80 hy69
              refine U.p rfl rfl (.inr ⟨_, _, _, rfl, rfl, ((L 0 rfl rfl).trans (congrArg Value.bool g80))⟩) (S.move rfl (L 13 rfl rfl)) ?_
              have f82 := f48.up (le54.trans le66)
              obtain ⟨x83, hx84, h85⟩ := bindS h81
              refine O.call (V := V65) rfl rfl (.inr ⟨_, _, _, rfl, rfl, ((L 1 rfl rfl).trans (congrArg Value.bool g80))⟩) rfl en14 (aC (L 0 rfl rfl) aN) (wk_order_Run_Serial_2 V65 _ p0 v1 f82 ow67 _ hx84) (fun _ _ _ _ => nd) (fun v86 V87 le88 hp89 => ?_)
              obtain ⟨rfl, ow90⟩ := hp89
              refine U.p rfl rfl (.inr ⟨_, _, _, rfl, rfl, ((L 2 rfl rfl).trans (congrArg Value.bool g80))⟩) (S.move rfl (L 27 rfl rfl)) ?_
              have f91 := f82.up le88
              obtain ⟨x92, hx93, h94⟩ := bindS h85
              refine O.call (V := V87) rfl rfl (.inr ⟨_, _, _, rfl, rfl, ((L 3 rfl rfl).trans (congrArg Value.bool g80))⟩) rfl en12 (aC (L 0 rfl rfl) (aC K (aC K aN))) (wk_ref21_Acyclic V87 _ p0 false false v1 f91 ow90 _ hx93) (fun _ _ _ _ => nd) (fun v95 V96 le97 hp98 => ?_)
              obtain ⟨rfl, ow99⟩ := hp98
              refine U.p rfl rfl (.inr ⟨_, _, _, rfl, rfl, ((L 4 rfl rfl).trans (congrArg Value.bool g80))⟩) (S.eqlB rfl (L 2 rfl rfl) (L 0 rfl rfl) Try.underlying4) ?_
              refine U.p rfl rfl (.inl rfl) (S.pickT rfl ((L 5 rfl rfl).trans (congrArg Value.bool g80)) (L 0 rfl rfl)) ?_
              have e100 := Option.some.inj h94
              subst e100
              exact kk [(32, .bool (x83 == x92)), (31, .bool (x83 == x92)), (30, .bool x92), (29, v1), (28, .bool x83), (27, v1)] _ ⟨.bool (x83 == x92), .bool x92, v1, .bool x83, v1, V96, rfl, (le88.trans le97), rfl, ow99⟩
            · have h101 := ifF g80 hy69
              refine U.x rfl rfl rfl rfl ((L 0 rfl rfl).trans (congrArg Value.bool g80)) (by decide) ?_
              refine U.x rfl rfl rfl rfl ((L 1 rfl rfl).trans (congrArg Value.bool g80)) (by decide) ?_
              refine U.x rfl rfl rfl rfl ((L 2 rfl rfl).trans (congrArg Value.bool g80)) (by decide) ?_
              refine U.x rfl rfl rfl rfl ((L 3 rfl rfl).trans (congrArg Value.bool g80)) (by decide) ?_
              refine U.x rfl rfl rfl rfl ((L 4 rfl rfl).trans (congrArg Value.bool g80)) (by decide) ?_
              refine U.p rfl rfl (.inl rfl) (S.pickF rfl ((L 5 rfl rfl).trans (congrArg Value.bool g80)) K) ?_
              have e102 := Option.some.inj h101
              subst e102
              exact kk [(32, .bool false), (31, .tuple #[]), (30, .tuple #[]), (29, .tuple #[]), (28, .tuple #[]), (27, .tuple #[])] _ ⟨.tuple #[], .tuple #[], .tuple #[], .tuple #[], .tuple #[], V65, rfl, (.refl _), rfl, ow67⟩
        · intro kk
          refine bcase (b := x40 == x49) (fun g103 => ?_) (fun g103 => ?_)
          · have h104 := ifT g103 hy58
            refine U.p rfl rfl (.inr ⟨_, _, _, rfl, rfl, ((L 0 rfl rfl).trans (congrArg Value.bool g103))⟩) (S.move rfl (L 6 rfl rfl)) ?_
            have f105 := f48.up le54
            obtain ⟨x106, hx107, h108⟩ := bindS h104
            refine O.call (V := V53) rfl rfl (.inr ⟨_, _, _, rfl, rfl, ((L 1 rfl rfl).trans (congrArg Value.bool g103))⟩) rfl en13 (aC (L 0 rfl rfl) aN) (wk_order_Run_Synced V53 _ p0 v1 f105 ow56 _ hx107) (fun _ _ _ _ => nd) (fun v109 V110 le111 hp112 => ?_)
            obtain ⟨rfl, ow113⟩ := hp112
            refine U.p rfl rfl (.inr ⟨_, _, _, rfl, rfl, ((L 2 rfl rfl).trans (congrArg Value.bool g103))⟩) (S.move rfl (L 20 rfl rfl)) ?_
            have f114 := f105.up le111
            obtain ⟨x115, hx116, h117⟩ := bindS h108
            refine O.call (V := V110) rfl rfl (.inr ⟨_, _, _, rfl, rfl, ((L 3 rfl rfl).trans (congrArg Value.bool g103))⟩) rfl en12 (aC (L 0 rfl rfl) (aC K (aC K aN))) (wk_ref21_Acyclic V110 _ p0 true false v1 f114 ow113 _ hx116) (fun _ _ _ _ => nd) (fun v118 V119 le120 hp121 => ?_)
            obtain ⟨rfl, ow122⟩ := hp121
            refine U.p rfl rfl (.inr ⟨_, _, _, rfl, rfl, ((L 4 rfl rfl).trans (congrArg Value.bool g103))⟩) (S.eqlB rfl (L 2 rfl rfl) (L 0 rfl rfl) Try.underlying4) ?_
            refine U.p rfl rfl (.inl rfl) (S.pickT rfl ((L 5 rfl rfl).trans (congrArg Value.bool g103)) (L 0 rfl rfl)) ?_
            have e123 := Option.some.inj h117
            subst e123
            exact kk [(25, .bool (x106 == x115)), (24, .bool (x106 == x115)), (23, .bool x115), (22, v1), (21, .bool x106), (20, v1)] _ ⟨.bool (x106 == x115), .bool x115, v1, .bool x106, v1, V119, rfl, (le111.trans le120), rfl, ow122⟩
          · have h124 := ifF g103 hy58
            refine U.x rfl rfl rfl rfl ((L 0 rfl rfl).trans (congrArg Value.bool g103)) (by decide) ?_
            refine U.x rfl rfl rfl rfl ((L 1 rfl rfl).trans (congrArg Value.bool g103)) (by decide) ?_
            refine U.x rfl rfl rfl rfl ((L 2 rfl rfl).trans (congrArg Value.bool g103)) (by decide) ?_
            refine U.x rfl rfl rfl rfl ((L 3 rfl rfl).trans (congrArg Value.bool g103)) (by decide) ?_
            refine U.x rfl rfl rfl rfl ((L 4 rfl rfl).trans (congrArg Value.bool g103)) (by decide) ?_
            refine U.p rfl rfl (.inl rfl) (S.pickF rfl ((L 5 rfl rfl).trans (congrArg Value.bool g103)) K) ?_
            have e125 := Option.some.inj h124
            subst e125
            exact kk [(25, .bool false), (24, .tuple #[]), (23, .tuple #[]), (22, .tuple #[]), (21, .tuple #[]), (20, .tuple #[])] _ ⟨.tuple #[], .tuple #[], .tuple #[], .tuple #[], .tuple #[], V53, rfl, (.refl _), rfl, ow56⟩
    · intro kk
      refine bcase (b := x18) (fun g126 => ?_) (fun g126 => ?_)
      · have h127 := ifT g126 hy27
        refine U.x rfl rfl rfl rfl ((L 0 rfl rfl).trans (congrArg Value.bool g126)) (by decide) ?_
        refine U.x rfl rfl rfl rfl ((L 1 rfl rfl).trans (congrArg Value.bool g126)) (by decide) ?_
        refine U.x rfl rfl rfl rfl ((L 2 rfl rfl).trans (congrArg Value.bool g126)) (by decide) ?_
        refine U.p rfl rfl (.inl rfl) (S.pickT rfl ((L 3 rfl rfl).trans (congrArg Value.bool g126)) K) ?_
        have e128 := Option.some.inj h127
        subst e128
        exact kk [(12, .bool true), (11, .tuple #[]), (10, .tuple #[]), (9, .tuple #[])] _ ⟨.tuple #[], .tuple #[], .tuple #[], V22, rfl, (.refl _), rfl, ow25⟩
      · have h129 := ifF g126 hy27
        refine U.p rfl rfl (.inr ⟨_, _, _, rfl, rfl, ((L 0 rfl rfl).trans (congrArg Value.bool g126))⟩) (S.move rfl (L 6 rfl rfl)) ?_
        have f130 := f17.up le23
        obtain ⟨x131, hx132, h133⟩ := bindS h129
        refine O.call (V := V22) rfl rfl (.inr ⟨_, _, _, rfl, rfl, ((L 1 rfl rfl).trans (congrArg Value.bool g126))⟩) rfl en10 (aC (L 0 rfl rfl) aN) (wk_ref21_Good V22 _ p0 v1 f130 ow25 _ hx132) (fun _ _ _ _ => nd) (fun v134 V135 le136 hp137 => ?_)
        obtain ⟨rfl, ow138⟩ := hp137
        refine U.p rfl rfl (.inr ⟨_, _, _, rfl, rfl, ((L 2 rfl rfl).trans (congrArg Value.bool g126))⟩) (S.not rfl (L 0 rfl rfl)) ?_
        refine U.p rfl rfl (.inl rfl) (S.pickF rfl ((L 3 rfl rfl).trans (congrArg Value.bool g126)) (L 0 rfl rfl)) ?_
        have e139 := Option.some.inj h133
        subst e139
        exact kk [(12, .bool (!x131)), (11, .bool (!x131)), (10, .bool x131), (9, v1)] _ ⟨.bool (!x131), .bool x131, v1, V135, rfl, le136, rfl, ow138⟩

set_option maxHeartbeats 4000000 in
set_option maxRecDepth 10000 in
theorem wk_law21_OrderSerial (V : Vw) (Rs : List At) (p0 : List (List TEvent)) (v1 : Value) (f2 : Fz (RT.sl RT_TEvent) V v1 p0) (ow : Ow V (Rs)) (r : Bool) (h : law21_OrderSerial p0 = some r) : ∃ v V', Cl Try.prog 0 4 #[v1] V.H v V'.H ∧ V.le V' ∧ (v = .bool r ∧ Ow V' (Rs)) := by
  refine Ct.of (Nat.zero_le _) Try.func4 rfl (Nat.le_of_ble_eq_true rfl) ?_
  unfold law21_OrderSerial at h
  refine WP.usreg rfl ?_
  refine U.p rfl rfl (.inl rfl) (S.assign rfl K) ?_
  refine U.done (Nat.le_of_ble_eq_true rfl) ?_
  refine WP.seq ?_
  refine WP.usreg rfl ?_
  obtain ⟨x3, hx4, h5⟩ := bindS h
  refine O.call (V := V) rfl rfl (.inl rfl) rfl en8 aN (wk_law21_alive V _ ow _ hx4) (fun _ _ _ _ => nd) (fun v6 V7 le8 hp9 => ?_)
  obtain ⟨rfl, ow10⟩ := hp9
  refine U.p rfl rfl (.inl rfl) (S.not rfl (L 0 rfl rfl)) ?_
  refine U.done (Nat.le_of_ble_eq_true rfl) ?_
  refine WP.cond _ (L 0 rfl rfl) rfl (fun c11 => ?_) (fun c11 => ?_)
  · have h12 := ifT c11 h5
    have k13 : x3 = false := by simpa using c11
    refine WP.usreg rfl ?_
    refine U.p rfl rfl (.inl rfl) (S.assign rfl K) ?_
    refine U.done (Nat.le_of_ble_eq_true rfl) ?_
    refine WP.ret ?_
    refine sqR ?_
    refine fin.slot (.inr rfl) rfl (L 0 rfl rfl) ⟨V7, rfl, le8, ?_⟩
    have e14 := Option.some.inj h12
    subst e14
    exact ⟨rfl, ow10⟩
  · have h15 := ifF c11 h5
    have k16 : x3 = true := by simpa using c11
    refine WP.skip ?_
    refine sqN ?_
    refine WP.seq ?_
    refine WP.usreg rfl ?_
    refine U.p rfl rfl (.inl rfl) (S.move rfl (L 3 rfl rfl)) ?_
    have f17 := f2.up le8
    obtain ⟨x18, hx19, h20⟩ := bindS h15
    refine O.call (V := V7) rfl rfl (.inl rfl) rfl en9 (aC (L 0 rfl rfl) aN) (wk_law21_great V7 _ p0 v1 f17 ow10 _ hx19) (fun _ _ _ _ => nd) (fun v21 V22 le23 hp24 => ?_)
    obtain ⟨rfl, ow25⟩ := hp24
    refine U.p rfl rfl (.inl rfl) (S.move rfl (L 0 rfl rfl)) ?_
    obtain ⟨y26, hy27, h28⟩ := bindS h20
    refine U.joinX 7 (fun e H => ∃ (u29 u30 u31 : Value), ∃ V' : Vw, H = V'.H ∧ V22.le V' ∧ e = [(12, .bool y26), (11, u29), (10, u30), (9, u31)] ∧ Ow V' (Rs)) ?_ ?_
    · rintro _ _ ⟨u29, u30, u31, V32, rfl, le33, rfl, ow34⟩
      refine U.done (Nat.le_of_ble_eq_true rfl) ?_
      refine WP.cond _ (L 0 rfl rfl) rfl (fun c35 => ?_) (fun c35 => ?_)
      · have h36 := ifT c35 h28
        refine WP.usreg rfl ?_
        refine U.p rfl rfl (.inl rfl) (S.assign rfl K) ?_
        refine U.done (Nat.le_of_ble_eq_true rfl) ?_
        refine WP.ret ?_
        refine sqR ?_
        refine fin.slot (.inr rfl) rfl (L 0 rfl rfl) ⟨V32, rfl, ((le8.trans le23).trans le33), ?_⟩
        have e37 := Option.some.inj h36
        subst e37
        exact ⟨rfl, ow34⟩
      · have h38 := ifF c35 h28
        refine WP.skip ?_
        refine sqN ?_
        refine WP.usreg rfl ?_
        refine U.p rfl rfl (.inl rfl) (S.move rfl (L 10 rfl rfl)) ?_
        refine U.p rfl rfl (.inl rfl) (S.assign rfl (L 0 rfl rfl)) ?_
        refine U.done (Nat.le_of_ble_eq_true rfl) ?_
        refine WP.usreg rfl ?_
        refine U.p rfl rfl (.inl rfl) (S.move rfl (L 0 rfl rfl)) ?_
        have f39 := f17.up (le23.trans le33)
        obtain ⟨x40, hx41, h42⟩ := bindS h38
        refine O.call (V := V32) rfl rfl (.inl rfl) rfl en14 (aC (L 0 rfl rfl) aN) (wk_order_Run_Serial_2 V32 _ p0 v1 f39 ow34 _ hx41) (fun _ _ _ _ => nd) (fun v43 V44 le45 hp46 => ?_)
        obtain ⟨rfl, ow47⟩ := hp46
        refine U.p rfl rfl (.inl rfl) (S.not rfl (L 0 rfl rfl)) ?_
        refine U.p rfl rfl (.inl rfl) (S.move rfl (L 0 rfl rfl)) ?_
        obtain ⟨y48, hy49, h50⟩ := bindS h42
        refine U.joinX 11 (fun e H => ∃ (u51 u52 u53 u54 u55 u56 : Value), ∃ V' : Vw, H = V'.H ∧ V44.le V' ∧ e = [(24, .bool y48), (23, u51), (22, u52), (21, u53), (20, u54), (19, u55), (18, u56)] ∧ Ow V' (Rs)) ?_ ?_
        · rintro _ _ ⟨u51, u52, u53, u54, u55, u56, V57, rfl, le58, rfl, ow59⟩
          refine U.p rfl rfl (.inl rfl) (S.assign rfl (L 0 rfl rfl)) ?_
          refine U.done (Nat.le_of_ble_eq_true rfl) ?_
          refine WP.ret ?_
          refine fin.slot (.inr rfl) rfl (L 0 rfl rfl) ⟨V57, rfl, ((((le8.trans le23).trans le33).trans le45).trans le58), ?_⟩
          have e60 := Option.some.inj h50
          subst e60
          exact ⟨rfl, ow59⟩
        · intro kk
          refine bcase (b := !x40) (fun g61 => ?_) (fun g61 => ?_)
          · have h62 := ifT g61 hy49
            have k63 : x40 = false := by simpa using g61
            refine U.x rfl rfl rfl rfl ((L 0 rfl rfl).trans (congrArg Value.bool g61)) (by decide) ?_
            refine U.x rfl rfl rfl rfl ((L 1 rfl rfl).trans (congrArg Value.bool g61)) (by decide) ?_
            refine U.x rfl rfl rfl rfl ((L 2 rfl rfl).trans (congrArg Value.bool g61)) (by decide) ?_
            refine U.z rfl rfl rfl rfl (L 0 rfl rfl) ?_
            refine U.z rfl rfl rfl rfl (L 1 rfl rfl) ?_
            refine U.x rfl rfl rfl rfl ((L 5 rfl rfl).trans (congrArg Value.bool g61)) (by decide) ?_
            refine U.p rfl rfl (.inl rfl) (S.pickT rfl ((L 6 rfl rfl).trans (congrArg Value.bool g61)) K) ?_
            have e64 := Option.some.inj h62
            subst e64
            exact kk [(24, .bool true), (23, .tuple #[]), (22, .tuple #[]), (21, .tuple #[]), (20, .tuple #[]), (19, .tuple #[]), (18, .tuple #[])] _ ⟨.tuple #[], .tuple #[], .tuple #[], .tuple #[], .tuple #[], .tuple #[], V44, rfl, (.refl _), rfl, ow47⟩
          · have h65 := ifF g61 hy49
            have k66 : x40 = true := by simpa using g61
            refine U.p rfl rfl (.inr ⟨_, _, _, rfl, rfl, ((L 0 rfl rfl).trans (congrArg Value.bool g61))⟩) (S.move rfl (L 4 rfl rfl)) ?_
            have f67 := f39.up le45
            obtain ⟨x68, hx69, h70⟩ := bindS h65
            refine O.call (V := V44) rfl rfl (.inr ⟨_, _, _, rfl, rfl, ((L 1 rfl rfl).trans (congrArg Value.bool g61))⟩) rfl en11 (aC (L 0 rfl rfl) aN) (wk_order_Run_Coherent_2 V44 _ p0 v1 f67 ow47 _ hx69) (fun _ _ _ _ => nd) (fun v71 V72 le73 hp74 => ?_)
            obtain ⟨rfl, ow75⟩ := hp74
            refine U.p rfl rfl (.inr ⟨_, _, _, rfl, rfl, ((L 2 rfl rfl).trans (congrArg Value.bool g61))⟩) (S.move rfl (L 0 rfl rfl)) ?_
            obtain ⟨y76, hy77, h78⟩ := bindS h70
            refine U.joinX 10 (fun e H => ∃ (u79 u80 : Value), ∃ V' : Vw, H = V'.H ∧ V72.le V' ∧ e = [(23, .bool y76), (22, u79), (21, u80)] ∧ Ow V' (Rs)) ?_ ?_
            · rintro _ _ ⟨u79, u80, V81, rfl, le82, rfl, ow83⟩
              refine U.p rfl rfl (.inl rfl) (S.pickF rfl ((L 6 rfl rfl).trans (congrArg Value.bool g61)) (L 0 rfl rfl)) ?_
              have e84 := Option.some.inj h78
              subst e84
              exact kk [(24, .bool y76), (23, .bool y76), (22, u79), (21, u80), (20, .bool x68), (19, .bool x68), (18, v1)] _ ⟨.bool y76, u79, u80, .bool x68, .bool x68, v1, V81, rfl, (le73.trans le82), rfl, ow83⟩
            · intro kk
              refine bcase (b := x68) (fun g85 => ?_) (fun g85 => ?_)
              · have h86 := ifT g85 hy77
                refine U.p rfl rfl (.inr ⟨_, _, _, rfl, rfl, ((L 0 rfl rfl).trans (congrArg Value.bool g85))⟩) (S.move rfl (L 7 rfl rfl)) ?_
                have f87 := f67.up le73
                obtain ⟨x88, hx89, h90⟩ := bindS h86
                refine O.call (V := V72) rfl rfl (.inr ⟨_, _, _, rfl, rfl, ((L 1 rfl rfl).trans (congrArg Value.bool g85))⟩) rfl en13 (aC (L 0 rfl rfl) aN) (wk_order_Run_Synced V72 _ p0 v1 f87 ow75 _ hx89) (fun _ _ _ _ => nd) (fun v91 V92 le93 hp94 => ?_)
                obtain ⟨rfl, ow95⟩ := hp94
                refine U.p rfl rfl (.inr ⟨_, _, _, rfl, rfl, ((L 5 rfl rfl).trans (congrArg Value.bool g61))⟩) (S.pickT rfl ((L 2 rfl rfl).trans (congrArg Value.bool g85)) (L 0 rfl rfl)) ?_
                have e96 := Option.some.inj h90
                subst e96
                exact kk [(23, .bool x88), (22, .bool x88), (21, v1)] _ ⟨.bool x88, v1, V92, rfl, le93, rfl, ow95⟩
              · have h97 := ifF g85 hy77
                refine U.x rfl rfl rfl rfl ((L 0 rfl rfl).trans (congrArg Value.bool g85)) (by decide) ?_
                refine U.x rfl rfl rfl rfl ((L 1 rfl rfl).trans (congrArg Value.bool g85)) (by decide) ?_
                refine U.p rfl rfl (.inr ⟨_, _, _, rfl, rfl, ((L 5 rfl rfl).trans (congrArg Value.bool g61))⟩) (S.pickF rfl ((L 2 rfl rfl).trans (congrArg Value.bool g85)) K) ?_
                have e98 := Option.some.inj h97
                subst e98
                exact kk [(23, .bool false), (22, .tuple #[]), (21, .tuple #[])] _ ⟨.tuple #[], .tuple #[], V72, rfl, (.refl _), rfl, ow75⟩
    · intro kk
      refine bcase (b := x18) (fun g99 => ?_) (fun g99 => ?_)
      · have h100 := ifT g99 hy27
        refine U.x rfl rfl rfl rfl ((L 0 rfl rfl).trans (congrArg Value.bool g99)) (by decide) ?_
        refine U.x rfl rfl rfl rfl ((L 1 rfl rfl).trans (congrArg Value.bool g99)) (by decide) ?_
        refine U.x rfl rfl rfl rfl ((L 2 rfl rfl).trans (congrArg Value.bool g99)) (by decide) ?_
        refine U.p rfl rfl (.inl rfl) (S.pickT rfl ((L 3 rfl rfl).trans (congrArg Value.bool g99)) K) ?_
        have e101 := Option.some.inj h100
        subst e101
        exact kk [(12, .bool true), (11, .tuple #[]), (10, .tuple #[]), (9, .tuple #[])] _ ⟨.tuple #[], .tuple #[], .tuple #[], V22, rfl, (.refl _), rfl, ow25⟩
      · have h102 := ifF g99 hy27
        refine U.p rfl rfl (.inr ⟨_, _, _, rfl, rfl, ((L 0 rfl rfl).trans (congrArg Value.bool g99))⟩) (S.move rfl (L 6 rfl rfl)) ?_
        have f103 := f17.up le23
        obtain ⟨x104, hx105, h106⟩ := bindS h102
        refine O.call (V := V22) rfl rfl (.inr ⟨_, _, _, rfl, rfl, ((L 1 rfl rfl).trans (congrArg Value.bool g99))⟩) rfl en10 (aC (L 0 rfl rfl) aN) (wk_ref21_Good V22 _ p0 v1 f103 ow25 _ hx105) (fun _ _ _ _ => nd) (fun v107 V108 le109 hp110 => ?_)
        obtain ⟨rfl, ow111⟩ := hp110
        refine U.p rfl rfl (.inr ⟨_, _, _, rfl, rfl, ((L 2 rfl rfl).trans (congrArg Value.bool g99))⟩) (S.not rfl (L 0 rfl rfl)) ?_
        refine U.p rfl rfl (.inl rfl) (S.pickF rfl ((L 3 rfl rfl).trans (congrArg Value.bool g99)) (L 0 rfl rfl)) ?_
        have e112 := Option.some.inj h106
        subst e112
        exact kk [(12, .bool (!x104)), (11, .bool (!x104)), (10, .bool x104), (9, v1)] _ ⟨.bool (!x104), .bool x104, v1, V108, rfl, le109, rfl, ow111⟩

end Go.Vm.G21
