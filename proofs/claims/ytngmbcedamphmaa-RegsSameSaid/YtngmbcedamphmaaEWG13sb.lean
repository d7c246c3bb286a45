/-
  What the functions compute is what the plain ones say, for all inputs at which those answer.
-/
import Derived.Test.YtngmbcedamphmaaEWG13s
set_option linter.unusedSimpArgs false
set_option linter.unusedVariables false
namespace Go.Vm.G13s
open Go Go.Proofs
set_option maxHeartbeats 4000000
set_option maxRecDepth 10000
theorem wk_s_partitionEqual (V : Vw) (Rs : List At) (p0 : List Tflow_Span) (p1 : Int) (p2 : Int) (p3 : Int) (v1 : Value) (ow : Ow V (.os RT_Tflow_Span v1 p0 :: Rs)) (r : Int × (List Tflow_Span)) (h : s_partitionEqual p0 p1 p2 p3 = some r) : ∃ v V', Cl Try.prog 0 55 #[v1, .int .i64 p1, .int .i64 p2, .int .i64 p3, .func (.func 31) #[] #[]] V.H v V'.H ∧ V.le V' ∧ (v = .int .i64 r.1 ∧ Ow V' (.os RT_Tflow_Span v1 r.2 :: Rs)) := by
 refine Ct.of (Nat.zero_le _) Try.func55 Z (nr Z) ?_
 unfold s_partitionEqual at h
 refine WP.usreg Z ?_
 refine U.p Z Z (.inl Z) (S.assign Z K) ?_
 refine U.done (nr Z) ?_
 refine WP.usdreg Z Z Z ?_
 refine U.p Z Z (.inl Z) (S.move Z (L 1 Z Z)) ?_
 refine U.p Z Z (.inl Z) (S.move Z (L 3 Z Z)) ?_
 refine U.p Z Z (.inl Z) (S.move Z (L 3 Z Z)) ?_
 refine U.p Z Z (.inl Z) (S.move Z (L 7 Z Z)) ?_
 refine U.p Z Z (.inl Z) (S.move Z (L 5 Z Z)) ?_
 refine U.p Z Z (.inl Z) (S.move Z (L 9 Z Z)) ?_
 obtain ⟨x3, hx4, h5⟩ := bindS h
 obtain ⟨b6, o7, n8, c9, hv10⟩ := ow.ospt (k := 0) Z hx4
 obtain ⟨_, hv11, _⟩ := ow.osel (k := 0) Z hv10 hx4
 refine U.p Z Z (.inl Z) (S.index Z ((L 1 Z Z).trans hv11) (L 0 Z Z) Try.underlying44 ti49 (ix_ge hx4) (ix_lt hx4)) ?_
 obtain ⟨cs12, hv13, hlt14, hr15, hc16⟩ := ow.osel (k := 0) Z hv10 hx4
 obtain rfl : cs12 = [.int .i64 x3.reg, .int .i64 x3.from_, .int .i64 x3.to_] := hr15
 refine U.k Z Z (.inl Z) (S.loadN (cs := [.int .i64 x3.reg, .int .i64 x3.from_, .int .i64 x3.to_]) Z (L 0 Z Z) Try.underlying49 Z ti49 Z hc16) (fun _ => (okH.nil (fun r h => by cases h; exact hlt14))) ?_
 refine U.p Z Z (.inl Z) (S.move Z (L 9 Z Z)) ?_
 refine U.p Z Z (.inl Z) (S.move Z (L 11 Z Z)) ?_
 obtain ⟨x17, hx18, h19⟩ := bindS h5
 obtain ⟨_, hv20, _⟩ := ow.osel (k := 0) Z hv10 hx18
 refine U.p Z Z (.inl Z) (S.index Z ((L 1 Z Z).trans hv20) (L 0 Z Z) Try.underlying44 ti49 (ix_ge hx18) (ix_lt hx18)) ?_
 obtain ⟨cs21, hv22, hlt23, hr24, hc25⟩ := ow.osel (k := 0) Z hv10 hx18
 obtain rfl : cs21 = [.int .i64 x17.reg, .int .i64 x17.from_, .int .i64 x17.to_] := hr24
 refine U.k Z Z (.inl Z) (S.loadN (cs := [.int .i64 x17.reg, .int .i64 x17.from_, .int .i64 x17.to_]) Z (L 0 Z Z) Try.underlying49 Z ti49 Z hc25) (fun _ => (okH.cons trivial (okH.nil (fun r h => by cases h; exact hlt23)))) ?_
 obtain ⟨x26, hx27, h28⟩ := bindS h19
 obtain ⟨_, hv29, _⟩ := ow.osel (k := 0) Z hv10 hx27
 refine U.p Z Z (.inl Z) (S.index Z ((L 11 Z Z).trans hv29) (L 10 Z Z) Try.underlying44 ti49 (ix_ge hx27) (ix_lt hx27)) ?_
 obtain ⟨cs30, hv31, hlt32, hr33, hc34⟩ := ow.osel (k := 0) Z hv10 hx27
 obtain rfl : cs30 = [.int .i64 x26.reg, .int .i64 x26.from_, .int .i64 x26.to_] := hr33
 refine O.storeE (k := 0) (R := RT_Tflow_Span) (j := 0) (y := x3) (cs := [.int .i64 x3.reg, .int .i64 x3.from_, .int .i64 x3.to_]) ow Z hv31 Z Z (.inl Z) Z (L 0 Z Z) (L 5 Z Z) ti49 hx27 (by simp [topV]) Z Z Z (full Z) (fun H1 hs => (fun _ => (okH.cons (Or.inl Z) (okH.cons (Or.inl Z) (okH.nil (fun r h => nomatch h)))))) (fun V35 le36 ow37 => ?_)
 obtain ⟨x38, hx39, h40⟩ := bindS h28
 obtain ⟨_, hv41, _⟩ := ow37.osel (k := 0) Z hv10 hx39
 refine U.p Z Z (.inl Z) (S.index Z ((L 10 Z Z).trans hv41) (L 9 Z Z) Try.underlying44 ti49 (ix_ge hx39) (ix_lt hx39)) ?_
 obtain ⟨cs42, hv43, hlt44, hr45, hc46⟩ := ow37.osel (k := 0) Z hv10 hx39
 obtain rfl : cs42 = [.int .i64 x38.reg, .int .i64 x38.from_, .int .i64 x38.to_] := hr45
 refine O.storeE (k := 0) (R := RT_Tflow_Span) (j := 0) (y := x17) (cs := [.int .i64 x17.reg, .int .i64 x17.from_, .int .i64 x17.to_]) ow37 Z hv43 Z Z (.inl Z) Z (L 0 Z Z) (L 2 Z Z) ti49 hx39 (by simp [topV]) Z Z Z (full Z) (fun H1 hs => (fun _ => (okH.cons Z (okH.cons (Or.inl Z) (okH.cons (Or.inl Z) (okH.nil (fun r h => nomatch h))))))) (fun V47 le48 ow49 => ?_)
 refine U.done (nr Z) ?_
 refine WP.usreg Z ?_
 refine U.p Z Z (.inl Z) (S.move Z (L 16 Z Z)) ?_
 refine U.p Z Z (.inl Z) (S.add Z (L 0 Z Z) K) ?_
 refine U.p Z Z (.inl Z) (S.move Z (L 19 Z Z)) ?_
 refine U.p Z Z (.inl Z) (S.sub Z (L 0 Z Z) K) ?_
 refine U.p Z Z (.inl Z) (S.assign Z (L 2 Z Z)) ?_
 refine U.p Z Z (.inl Z) (S.assign Z (L 1 Z Z)) ?_
 refine U.done (nr Z) ?_
 refine WP.seq ?_
 refine WP.blk ?_
 unfold s_partitionEqual_l1 at h40
 obtain ⟨n54, hn53⟩ := loopO_some.1 h40
 refine WP.loopI2 (fun n l V' => ∃ (xs50 : List Tflow_Span) (x51 : Int) (x52 : Int), l = [(0, v1), (1, .int .i64 p1), (4, .func (.func 31) #[] #[]), (11, .int .i64 x51), (12, .int .i64 x52)] ∧ V47.le V' ∧ Ow V' (.os RT_Tflow_Span v1 xs50 :: Rs) ∧ itO (fun s => s_partitionEqual_l1b p1 s.1 s.2.1 s.2.2) n (xs50, x51, x52) = some r) n54 _ ⟨(p0.set (Int.toNat p1) x3).set (Int.toNat p3) x17, w64 (p1 + 1), w64 (p2 - 1), Z, .refl _, ow49, hn53⟩ (allCons (L 21 Z Z) (allCons (L 22 Z Z) (allCons (L 25 Z Z) (allCons (L 1 Z Z) (allCons (L 0 Z Z) allNil))))) ?_
 rintro _ _ V55 ⟨xs50, x51, x52, rfl, le56, ow57, h61⟩
 obtain ⟨m58, q59, rfl, h62, e60⟩ := itS h61
 replace h62 : s_partitionEqual_l1b p1 xs50 x51 x52 = some q59 := h62
 unfold s_partitionEqual_l1b at h62
 refine WP.blk ?_
 refine WP.seq ?_
 refine WP.blk ?_
 unfold s_partitionEqual_l2 at h62
 obtain ⟨n65, hn64⟩ := loopO_some.1 h62
 refine WP.loopI2 (fun n l V' => ∃ (x63 : Int), l = [(0, v1), (1, .int .i64 p1), (4, .func (.func 31) #[] #[]), (11, .int .i64 x63), (12, .int .i64 x52)] ∧ V55.le V' ∧ Ow V' (.os RT_Tflow_Span v1 xs50 :: Rs) ∧ itO (fun s => s_partitionEqual_l2b p1 xs50 x52 s) n x63 = some q59) n65 _ ⟨x51, Z, .refl _, ow57, hn64⟩ (allCons (L 0 Z Z) (allCons (L 1 Z Z) (allCons (L 2 Z Z) (allCons (L 3 Z Z) (allCons (L 4 Z Z) allNil))))) ?_
 rintro _ _ V66 ⟨x63, rfl, le67, ow68, h72⟩
 obtain ⟨m69, q70, rfl, h73, e71⟩ := itS h72
 replace h73 : s_partitionEqual_l2b p1 xs50 x52 x63 = some q70 := h73
 unfold s_partitionEqual_l2b at h73
 refine WP.seq ?_
 refine WP.seqI (fun l V' => ∃ (x74 : Bool), l = [(0, v1), (1, .int .i64 p1), (4, .func (.func 31) #[] #[]), (11, .int .i64 x63), (12, .int .i64 x52), (47, .bool x74)] ∧ V66.le V' ∧ Ow V' (.os RT_Tflow_Span v1 xs50 :: Rs) ∧ s_partitionEqual_k1 p1 xs50 x52 x63 x74 = some q70) ?_ ?_
 ·rintro _ V75 ⟨x74, rfl, le76, ow77, h78⟩
  unfold s_partitionEqual_k1 at h78
  refine WP.cond _ (L 5 Z Z) Z (fun c79 => ?_) (fun c79 => ?_)
  ·have h80 := ifT c79 h78
   refine WP.skip ?_
   refine sqN ?_
   refine WP.blk ?_
   refine WP.ureg Z ?_
   refine U.p Z Z (.inl Z) (S.move Z (L 3 Z Z)) ?_
   refine U.p Z Z (.inl Z) (S.add Z (L 0 Z Z) K) ?_
   refine U.p Z Z (.inl Z) (S.assign Z (L 0 Z Z)) ?_
   refine U.done (nr Z) ?_
   refine blkN (sqN ?_)
   exact ⟨_, V75, Z, ⟨m69, Nat.lt_succ_self _, w64 (x63 + 1), Z, (le67.trans le76), ow77, backS h80 e71⟩, (allCons (L 3 Z Z) (allCons (L 4 Z Z) (allCons (L 5 Z Z) (allCons (L 0 Z Z) (allCons (L 7 Z Z) allNil)))))⟩
  ·have h81 := ifF c79 h78
   refine WP.exit ?_
   refine sqE (sqE (blkE (sqN ?_)))
   have h82 := exitS h81 e71
   refine WP.seq ?_
   refine WP.blk ?_
   unfold s_partitionEqual_l3 at h82
   obtain ⟨n85, hn84⟩ := loopO_some.1 h82
   refine WP.loopI2 (fun n l V' => ∃ (x83 : Int), l = [(0, v1), (1, .int .i64 p1), (4, .func (.func 31) #[] #[]), (11, .int .i64 x63), (12, .int .i64 x83)] ∧ V75.le V' ∧ Ow V' (.os RT_Tflow_Span v1 xs50 :: Rs) ∧ itO (fun s => s_partitionEqual_l3b p1 xs50 x63 s) n x83 = some q59) n85 _ ⟨x52, Z, .refl _, ow77, hn84⟩ (allCons (L 0 Z Z) (allCons (L 1 Z Z) (allCons (L 2 Z Z) (allCons (L 3 Z Z) (allCons (L 4 Z Z) allNil))))) ?_
   rintro _ _ V86 ⟨x83, rfl, le87, ow88, h92⟩
   obtain ⟨m89, q90, rfl, h93, e91⟩ := itS h92
   replace h93 : s_partitionEqual_l3b p1 xs50 x63 x83 = some q90 := h93
   unfold s_partitionEqual_l3b at h93
   refine WP.seq ?_
   refine WP.seqI (fun l V' => ∃ (x94 : Bool), l = [(0, v1), (1, .int .i64 p1), (4, .func (.func 31) #[] #[]), (11, .int .i64 x63), (12, .int .i64 x83), (65, .bool x94)] ∧ V86.le V' ∧ Ow V' (.os RT_Tflow_Span v1 xs50 :: Rs) ∧ s_partitionEqual_k2 xs50 x63 x83 x94 = some q90) ?_ ?_
   ·rintro _ V95 ⟨x94, rfl, le96, ow97, h98⟩
    unfold s_partitionEqual_k2 at h98
    refine WP.cond _ (L 5 Z Z) Z (fun c99 => ?_) (fun c99 => ?_)
    ·have h100 := ifT c99 h98
     refine WP.skip ?_
     refine sqN ?_
     refine WP.blk ?_
     refine WP.ureg Z ?_
     refine U.p Z Z (.inl Z) (S.move Z (L 4 Z Z)) ?_
     refine U.p Z Z (.inl Z) (S.sub Z (L 0 Z Z) K) ?_
     refine U.p Z Z (.inl Z) (S.assign Z (L 0 Z Z)) ?_
     refine U.done (nr Z) ?_
     refine blkN (sqN ?_)
     exact ⟨_, V95, Z, ⟨m89, Nat.lt_succ_self _, w64 (x83 - 1), Z, (le87.trans le96), ow97, backS h100 e91⟩, (allCons (L 3 Z Z) (allCons (L 4 Z Z) (allCons (L 5 Z Z) (allCons (L 6 Z Z) (allCons (L 0 Z Z) allNil)))))⟩
    ·have h101 := ifF c99 h98
     refine WP.exit ?_
     refine sqE (sqE (blkE (sqN ?_)))
     have h102 := exitS h101 e91
     refine WP.seq ?_
     refine WP.usreg Z ?_
     refine U.p Z Z (.inl Z) (S.move Z (L 3 Z Z)) ?_
     refine U.p Z Z (.inl Z) (S.move Z (L 5 Z Z)) ?_
     refine U.p Z Z (.inl Z) (S.gtr Z (L 1 Z Z) (L 0 Z Z)) ?_
     refine U.done (nr Z) ?_
     refine WP.cond _ (L 0 Z Z) Z (fun c103 => ?_) (fun c103 => ?_)
     ·have h104 := ifT c103 h102
      refine WP.exit ?_
      refine sqE (blkO Z (sqE (blkE (sqN ?_))))
      have h105 := exitS h104 e60
      refine WP.usreg Z ?_
      refine U.p Z Z (.inl Z) (S.move Z (L 6 Z Z)) ?_
      refine U.p Z Z (.inl Z) (S.assign Z (L 0 Z Z)) ?_
      refine U.done (nr Z) ?_
      refine WP.ret ?_
      refine fin.slot (.inr Z) Z (L 0 Z Z) ⟨V95, Z, ((((((le36.trans le48).trans le56).trans le67).trans le76).trans le87).trans le96), ?_⟩
      have e106 := Option.some.inj h105
      subst e106
      exact ⟨rfl, ow97⟩
     ·have h107 := ifF c103 h102
      refine WP.skip ?_
      refine sqN ?_
      refine WP.usdreg Z Z Z ?_
      refine U.p Z Z (.inl Z) (S.move Z (L 3 Z Z)) ?_
      refine U.p Z Z (.inl Z) (S.move Z (L 7 Z Z)) ?_
      refine U.p Z Z (.inl Z) (S.move Z (L 5 Z Z)) ?_
      refine U.p Z Z (.inl Z) (S.move Z (L 10 Z Z)) ?_
      refine U.p Z Z (.inl Z) (S.move Z (L 7 Z Z)) ?_
      refine U.p Z Z (.inl Z) (S.move Z (L 12 Z Z)) ?_
      obtain ⟨x108, hx109, h110⟩ := bindS h107
      obtain ⟨_, hv111, _⟩ := ow97.osel (k := 0) Z hv10 hx109
      refine U.p Z Z (.inl Z) (S.index Z ((L 1 Z Z).trans hv111) (L 0 Z Z) Try.underlying44 ti49 (ix_ge hx109) (ix_lt hx109)) ?_
      obtain ⟨cs112, hv113, hlt114, hr115, hc116⟩ := ow97.osel (k := 0) Z hv10 hx109
      obtain rfl : cs112 = [.int .i64 x108.reg, .int .i64 x108.from_, .int .i64 x108.to_] := hr115
      refine U.k Z Z (.inl Z) (S.loadN (cs := [.int .i64 x108.reg, .int .i64 x108.from_, .int .i64 x108.to_]) Z (L 0 Z Z) Try.underlying49 Z ti49 Z hc116) (fun _ => (okH.nil (fun r h => by cases h; exact hlt114))) ?_
      refine U.p Z Z (.inl Z) (S.move Z (L 11 Z Z)) ?_
      refine U.p Z Z (.inl Z) (S.move Z (L 15 Z Z)) ?_
      obtain ⟨x117, hx118, h119⟩ := bindS h110
      obtain ⟨_, hv120, _⟩ := ow97.osel (k := 0) Z hv10 hx118
      refine U.p Z Z (.inl Z) (S.index Z ((L 1 Z Z).trans hv120) (L 0 Z Z) Try.underlying44 ti49 (ix_ge hx118) (ix_lt hx118)) ?_
      obtain ⟨cs121, hv122, hlt123, hr124, hc125⟩ := ow97.osel (k := 0) Z hv10 hx118
      obtain rfl : cs121 = [.int .i64 x117.reg, .int .i64 x117.from_, .int .i64 x117.to_] := hr124
      refine U.k Z Z (.inl Z) (S.loadN (cs := [.int .i64 x117.reg, .int .i64 x117.from_, .int .i64 x117.to_]) Z (L 0 Z Z) Try.underlying49 Z ti49 Z hc125) (fun _ => (okH.cons trivial (okH.nil (fun r h => by cases h; exact hlt123)))) ?_
      obtain ⟨x126, hx127, h128⟩ := bindS h119
      obtain ⟨_, hv129, _⟩ := ow97.osel (k := 0) Z hv10 hx127
      refine U.p Z Z (.inl Z) (S.index Z ((L 11 Z Z).trans hv129) (L 10 Z Z) Try.underlying44 ti49 (ix_ge hx127) (ix_lt hx127)) ?_
      obtain ⟨cs130, hv131, hlt132, hr133, hc134⟩ := ow97.osel (k := 0) Z hv10 hx127
      obtain rfl : cs130 = [.int .i64 x126.reg, .int .i64 x126.from_, .int .i64 x126.to_] := hr133
      refine O.storeE (k := 0) (R := RT_Tflow_Span) (j := 0) (y := x108) (cs := [.int .i64 x108.reg, .int .i64 x108.from_, .int .i64 x108.to_]) ow97 Z hv131 Z Z (.inl Z) Z (L 0 Z Z) (L 5 Z Z) ti49 hx127 (by simp [topV]) Z Z Z (full Z) (fun H1 hs => (fun _ => (okH.cons (Or.inl Z) (okH.cons (Or.inl Z) (okH.nil (fun r h => nomatch h)))))) (fun V135 le136 ow137 => ?_)
      obtain ⟨x138, hx139, h140⟩ := bindS h128
      obtain ⟨_, hv141, _⟩ := ow137.osel (k := 0) Z hv10 hx139
      refine U.p Z Z (.inl Z) (S.index Z ((L 10 Z Z).trans hv141) (L 9 Z Z) Try.underlying44 ti49 (ix_ge hx139) (ix_lt hx139)) ?_
      obtain ⟨cs142, hv143, hlt144, hr145, hc146⟩ := ow137.osel (k := 0) Z hv10 hx139
      obtain rfl : cs142 = [.int .i64 x138.reg, .int .i64 x138.from_, .int .i64 x138.to_] := hr145
      refine O.storeE (k := 0) (R := RT_Tflow_Span) (j := 0) (y := x117) (cs := [.int .i64 x117.reg, .int .i64 x117.from_, .int .i64 x117.to_]) ow137 Z hv143 Z Z (.inl Z) Z (L 0 Z Z) (L 2 Z Z) ti49 hx139 (by simp [topV]) Z Z Z (full Z) (fun H1 hs => (fun _ => (okH.cons Z (okH.cons (Or.inl Z) (okH.cons (Or.inl Z) (okH.nil (fun r h => nomatch h))))))) (fun V147 le148 ow149 => ?_)
      refine U.done (nr Z) ?_
      refine WP.usreg Z ?_
      refine U.p Z Z (.inl Z) (S.move Z (L 20 Z Z)) ?_
      refine U.p Z Z (.inl Z) (S.add Z (L 0 Z Z) K) ?_
      refine U.p Z Z (.inl Z) (S.assign Z (L 0 Z Z)) ?_
      refine U.done (nr Z) ?_
      refine WP.ureg Z ?_
      refine U.p Z Z (.inl Z) (S.move Z (L 24 Z Z)) ?_
      refine U.p Z Z (.inl Z) (S.sub Z (L 0 Z Z) K) ?_
      refine U.p Z Z (.inl Z) (S.assign Z (L 0 Z Z)) ?_
      refine U.done (nr Z) ?_
      refine blkN (sqN ?_)
      exact ⟨_, V147, Z, ⟨m58, Nat.lt_succ_self _, (xs50.set (Int.toNat x63) x108).set (Int.toNat x83) x117, w64 (x63 + 1), w64 (x83 - 1), Z, ((((((le56.trans le67).trans le76).trans le87).trans le96).trans le136).trans le148), ow149, backS h140 e60⟩, (allCons (L 23 Z Z) (allCons (L 24 Z Z) (allCons (L 25 Z Z) (allCons (L 3 Z Z) (allCons (L 0 Z Z) allNil)))))⟩
   ·skip
    refine WP.udreg Z Z Z ?_
    refine U.p Z Z (.inl Z) (S.move Z (L 3 Z Z)) ?_
    refine U.p Z Z (.inl Z) (S.move Z (L 5 Z Z)) ?_
    refine U.p Z Z (.inl Z) (S.leq Z (L 1 Z Z) (L 0 Z Z)) ?_
    refine U.p Z Z (.inl Z) (S.move Z (L 0 Z Z)) ?_
    refine bcase (b := decide (x63 ≤ x83)) (fun g150 => ?_) (fun g150 => ?_)
    ·have h151 := ifT g150 h93
     refine U.p Z Z (.inr ⟨_, _, _, Z, Z, ((L 0 Z Z).trans (cB g150))⟩) (S.move Z (L 6 Z Z)) ?_
     refine U.p Z Z (.inr ⟨_, _, _, Z, Z, ((L 1 Z Z).trans (cB g150))⟩) (S.move Z (L 5 Z Z)) ?_
     refine U.p Z Z (.inr ⟨_, _, _, Z, Z, ((L 2 Z Z).trans (cB g150))⟩) (S.move Z (L 7 Z Z)) ?_
     obtain ⟨x152, hx153, h154⟩ := bindS h151
     obtain ⟨_, hv155, _⟩ := ow88.osel (k := 0) Z hv10 hx153
     refine U.p Z Z (.inr ⟨_, _, _, Z, Z, ((L 3 Z Z).trans (cB g150))⟩) (S.index Z ((L 1 Z Z).trans hv155) (L 0 Z Z) Try.underlying44 ti49 (ix_ge hx153) (ix_lt hx153)) ?_
     obtain ⟨cs156, hv157, hlt158, hr159, hc160⟩ := ow88.osel (k := 0) Z hv10 hx153
     obtain rfl : cs156 = [.int .i64 x152.reg, .int .i64 x152.from_, .int .i64 x152.to_] := hr159
     refine U.k Z Z (.inr ⟨_, _, _, Z, Z, ((L 4 Z Z).trans (cB g150))⟩) (S.loadN (cs := [.int .i64 x152.reg, .int .i64 x152.from_, .int .i64 x152.to_]) Z (L 0 Z Z) Try.underlying49 Z ti49 Z hc160) (fun _ => (okH.nil (fun r h => by cases h; exact hlt158))) ?_
     refine U.p Z Z (.inr ⟨_, _, _, Z, Z, ((L 5 Z Z).trans (cB g150))⟩) (S.move Z (L 9 Z Z)) ?_
     refine U.p Z Z (.inr ⟨_, _, _, Z, Z, ((L 6 Z Z).trans (cB g150))⟩) (S.move Z (L 14 Z Z)) ?_
     obtain ⟨x161, hx162, h163⟩ := bindS h154
     obtain ⟨_, hv164, _⟩ := ow88.osel (k := 0) Z hv10 hx162
     refine U.p Z Z (.inr ⟨_, _, _, Z, Z, ((L 7 Z Z).trans (cB g150))⟩) (S.index Z ((L 1 Z Z).trans hv164) (L 0 Z Z) Try.underlying44 ti49 (ix_ge hx162) (ix_lt hx162)) ?_
     obtain ⟨cs165, hv166, hlt167, hr168, hc169⟩ := ow88.osel (k := 0) Z hv10 hx162
     obtain rfl : cs165 = [.int .i64 x161.reg, .int .i64 x161.from_, .int .i64 x161.to_] := hr168
     refine U.k Z Z (.inr ⟨_, _, _, Z, Z, ((L 8 Z Z).trans (cB g150))⟩) (S.loadN (cs := [.int .i64 x161.reg, .int .i64 x161.from_, .int .i64 x161.to_]) Z (L 0 Z Z) Try.underlying49 Z ti49 Z hc169) (fun _ => (okH.cons trivial (okH.nil (fun r h => by cases h; exact hlt167)))) ?_
     obtain ⟨x170, hx171, h172⟩ := bindS h163
     refine O.callv (V := V86) Z Z (.inr ⟨_, _, _, Z, Z, ((L 9 Z Z).trans (cB g150))⟩) Z (L 8 Z Z) en31 (aC (L 4 Z Z) (aC (L 0 Z Z) aN)) (wk_flow_Spans_c1 V86 _ x152 x161 ow88 _ hx171) (fun v173 V174 le175 hp176 => by obtain ⟨rfl, ow177⟩ := hp176; exact (fun _ => (okH.cons (Or.inl Z) (okH.cons (Or.inl Z) (okH.nil (fun r h => nomatch h)))))) (fun v173 V174 le175 hp176 => ?_)
     obtain ⟨rfl, ow177⟩ := hp176
     refine U.p Z Z (.inr ⟨_, _, _, Z, Z, ((L 10 Z Z).trans (cB g150))⟩) (S.lss Z (L 0 Z Z) K) ?_
     refine U.p Z Z (.inl Z) (S.pickT Z ((L 11 Z Z).trans (cB g150)) (L 0 Z Z)) ?_
     refine U.done (nr Z) ?_
     refine sqN ?_
     exact ⟨_, V174, Z, ⟨decide (x170 < 0), Z, le175, ow177, h172⟩, (allCons (L 16 Z Z) (allCons (L 17 Z Z) (allCons (L 18 Z Z) (allCons (L 19 Z Z) (allCons (L 20 Z Z) (allCons (L 0 Z Z) allNil))))))⟩
    ·have h178 := ifF g150 h93
     refine U.x Z Z Z Z ((L 0 Z Z).trans (cB g150)) (by decide) ?_
     refine U.x Z Z Z Z ((L 1 Z Z).trans (cB g150)) (by decide) ?_
     refine U.x Z Z Z Z ((L 2 Z Z).trans (cB g150)) (by decide) ?_
     refine U.x Z Z Z Z ((L 3 Z Z).trans (cB g150)) (by decide) ?_
     refine U.x Z Z Z Z ((L 4 Z Z).trans (cB g150)) (by decide) ?_
     refine U.x Z Z Z Z ((L 5 Z Z).trans (cB g150)) (by decide) ?_
     refine U.x Z Z Z Z ((L 6 Z Z).trans (cB g150)) (by decide) ?_
     refine U.x Z Z Z Z ((L 7 Z Z).trans (cB g150)) (by decide) ?_
     refine U.x Z Z Z Z ((L 8 Z Z).trans (cB g150)) (by decide) ?_
     refine U.x Z Z Z Z ((L 9 Z Z).trans (cB g150)) (by decide) ?_
     refine U.x Z Z Z Z ((L 10 Z Z).trans (cB g150)) (by decide) ?_
     refine U.p Z Z (.inl Z) (S.pickF Z ((L 11 Z Z).trans (cB g150)) K) ?_
     refine U.done (nr Z) ?_
     refine sqN ?_
     exact ⟨_, V86, Z, ⟨false, Z, (.refl _), ow88, h178⟩, (allCons (L 16 Z Z) (allCons (L 17 Z Z) (allCons (L 18 Z Z) (allCons (L 19 Z Z) (allCons (L 20 Z Z) (allCons (L 0 Z Z) allNil))))))⟩
 ·skip
  refine WP.udreg Z Z Z ?_
  refine U.p Z Z (.inl Z) (S.move Z (L 3 Z Z)) ?_
  refine U.p Z Z (.inl Z) (S.move Z (L 5 Z Z)) ?_
  refine U.p Z Z (.inl Z) (S.leq Z (L 1 Z Z) (L 0 Z Z)) ?_
  refine U.p Z Z (.inl Z) (S.move Z (L 0 Z Z)) ?_
  refine bcase (b := decide (x63 ≤ x52)) (fun g179 => ?_) (fun g179 => ?_)
  ·have h180 := ifT g179 h73
   refine U.p Z Z (.inr ⟨_, _, _, Z, Z, ((L 0 Z Z).trans (cB g179))⟩) (S.move Z (L 6 Z Z)) ?_
   refine U.p Z Z (.inr ⟨_, _, _, Z, Z, ((L 1 Z Z).trans (cB g179))⟩) (S.move Z (L 5 Z Z)) ?_
   refine U.p Z Z (.inr ⟨_, _, _, Z, Z, ((L 2 Z Z).trans (cB g179))⟩) (S.move Z (L 7 Z Z)) ?_
   obtain ⟨x181, hx182, h183⟩ := bindS h180
   obtain ⟨_, hv184, _⟩ := ow68.osel (k := 0) Z hv10 hx182
   refine U.p Z Z (.inr ⟨_, _, _, Z, Z, ((L 3 Z Z).trans (cB g179))⟩) (S.index Z ((L 1 Z Z).trans hv184) (L 0 Z Z) Try.underlying44 ti49 (ix_ge hx182) (ix_lt hx182)) ?_
   obtain ⟨cs185, hv186, hlt187, hr188, hc189⟩ := ow68.osel (k := 0) Z hv10 hx182
   obtain rfl : cs185 = [.int .i64 x181.reg, .int .i64 x181.from_, .int .i64 x181.to_] := hr188
   refine U.k Z Z (.inr ⟨_, _, _, Z, Z, ((L 4 Z Z).trans (cB g179))⟩) (S.loadN (cs := [.int .i64 x181.reg, .int .i64 x181.from_, .int .i64 x181.to_]) Z (L 0 Z Z) Try.underlying49 Z ti49 Z hc189) (fun _ => (okH.nil (fun r h => by cases h; exact hlt187))) ?_
   refine U.p Z Z (.inr ⟨_, _, _, Z, Z, ((L 5 Z Z).trans (cB g179))⟩) (S.move Z (L 9 Z Z)) ?_
   refine U.p Z Z (.inr ⟨_, _, _, Z, Z, ((L 6 Z Z).trans (cB g179))⟩) (S.move Z (L 13 Z Z)) ?_
   obtain ⟨x190, hx191, h192⟩ := bindS h183
   obtain ⟨_, hv193, _⟩ := ow68.osel (k := 0) Z hv10 hx191
   refine U.p Z Z (.inr ⟨_, _, _, Z, Z, ((L 7 Z Z).trans (cB g179))⟩) (S.index Z ((L 1 Z Z).trans hv193) (L 0 Z Z) Try.underlying44 ti49 (ix_ge hx191) (ix_lt hx191)) ?_
   obtain ⟨cs194, hv195, hlt196, hr197, hc198⟩ := ow68.osel (k := 0) Z hv10 hx191
   obtain rfl : cs194 = [.int .i64 x190.reg, .int .i64 x190.from_, .int .i64 x190.to_] := hr197
   refine U.k Z Z (.inr ⟨_, _, _, Z, Z, ((L 8 Z Z).trans (cB g179))⟩) (S.loadN (cs := [.int .i64 x190.reg, .int .i64 x190.from_, .int .i64 x190.to_]) Z (L 0 Z Z) Try.underlying49 Z ti49 Z hc198) (fun _ => (okH.cons trivial (okH.nil (fun r h => by cases h; exact hlt196)))) ?_
   obtain ⟨x199, hx200, h201⟩ := bindS h192
   refine O.callv (V := V66) Z Z (.inr ⟨_, _, _, Z, Z, ((L 9 Z Z).trans (cB g179))⟩) Z (L 8 Z Z) en31 (aC (L 4 Z Z) (aC (L 0 Z Z) aN)) (wk_flow_Spans_c1 V66 _ x181 x190 ow68 _ hx200) (fun v202 V203 le204 hp205 => by obtain ⟨rfl, ow206⟩ := hp205; exact (fun _ => (okH.cons (Or.inl Z) (okH.cons (Or.inl Z) (okH.nil (fun r h => nomatch h)))))) (fun v202 V203 le204 hp205 => ?_)
   obtain ⟨rfl, ow206⟩ := hp205
   refine U.p Z Z (.inr ⟨_, _, _, Z, Z, ((L 10 Z Z).trans (cB g179))⟩) (S.lss Z (L 0 Z Z) K) ?_
   refine U.p Z Z (.inr ⟨_, _, _, Z, Z, ((L 11 Z Z).trans (cB g179))⟩) (S.not Z (L 0 Z Z)) ?_
   refine U.p Z Z (.inl Z) (S.pickT Z ((L 12 Z Z).trans (cB g179)) (L 0 Z Z)) ?_
   refine U.done (nr Z) ?_
   refine sqN ?_
   exact ⟨_, V203, Z, ⟨!(decide (x199 < 0)), Z, le204, ow206, h201⟩, (allCons (L 17 Z Z) (allCons (L 18 Z Z) (allCons (L 19 Z Z) (allCons (L 20 Z Z) (allCons (L 21 Z Z) (allCons (L 0 Z Z) allNil))))))⟩
  ·have h207 := ifF g179 h73
   refine U.x Z Z Z Z ((L 0 Z Z).trans (cB g179)) (by decide) ?_
   refine U.x Z Z Z Z ((L 1 Z Z).trans (cB g179)) (by decide) ?_
   refine U.x Z Z Z Z ((L 2 Z Z).trans (cB g179)) (by decide) ?_
   refine U.x Z Z Z Z ((L 3 Z Z).trans (cB g179)) (by decide) ?_
   refine U.x Z Z Z Z ((L 4 Z Z).trans (cB g179)) (by decide) ?_
   refine U.x Z Z Z Z ((L 5 Z Z).trans (cB g179)) (by decide) ?_
   refine U.x Z Z Z Z ((L 6 Z Z).trans (cB g179)) (by decide) ?_
   refine U.x Z Z Z Z ((L 7 Z Z).trans (cB g179)) (by decide) ?_
   refine U.x Z Z Z Z ((L 8 Z Z).trans (cB g179)) (by decide) ?_
   refine U.x Z Z Z Z ((L 9 Z Z).trans (cB g179)) (by decide) ?_
   refine U.x Z Z Z Z ((L 10 Z Z).trans (cB g179)) (by decide) ?_
   refine U.x Z Z Z Z ((L 11 Z Z).trans (cB g179)) (by decide) ?_
   refine U.p Z Z (.inl Z) (S.pickF Z ((L 12 Z Z).trans (cB g179)) K) ?_
   refine U.done (nr Z) ?_
   refine sqN ?_
   exact ⟨_, V66, Z, ⟨false, Z, (.refl _), ow68, h207⟩, (allCons (L 17 Z Z) (allCons (L 18 Z Z) (allCons (L 19 Z Z) (allCons (L 20 Z Z) (allCons (L 21 Z Z) (allCons (L 0 Z Z) allNil))))))⟩
theorem wk_s_partition (V : Vw) (Rs : List At) (p0 : List Tflow_Span) (p1 : Int) (p2 : Int) (p3 : Int) (v1 : Value) (ow : Ow V (.os RT_Tflow_Span v1 p0 :: Rs)) (r : Int × Bool × (List Tflow_Span)) (h : s_partition p0 p1 p2 p3 = some r) : ∃ v V', Cl Try.prog 0 56 #[v1, .int .i64 p1, .int .i64 p2, .int .i64 p3, .func (.func 31) #[] #[]] V.H v V'.H ∧ V.le V' ∧ (v = .tuple #[.int .i64 r.1, .bool r.2.1] ∧ Ow V' (.os RT_Tflow_Span v1 r.2.2 :: Rs)) := by
 refine Ct.of (Nat.zero_le _) Try.func56 Z (nr Z) ?_
 unfold s_partition at h
 refine WP.usreg Z ?_
 refine U.p Z Z (.inl Z) (S.assign Z K) ?_
 refine U.p Z Z (.inl Z) (S.assign Z K) ?_
 refine U.done (nr Z) ?_
 refine WP.usdreg Z Z Z ?_
 refine U.p Z Z (.inl Z) (S.move Z (L 2 Z Z)) ?_
 refine U.p Z Z (.inl Z) (S.move Z (L 4 Z Z)) ?_
 refine U.p Z Z (.inl Z) (S.move Z (L 4 Z Z)) ?_
 refine U.p Z Z (.inl Z) (S.move Z (L 8 Z Z)) ?_
 refine U.p Z Z (.inl Z) (S.move Z (L 6 Z Z)) ?_
 refine U.p Z Z (.inl Z) (S.move Z (L 10 Z Z)) ?_
 obtain ⟨x3, hx4, h5⟩ := bindS h
 obtain ⟨b6, o7, n8, c9, hv10⟩ := ow.ospt (k := 0) Z hx4
 obtain ⟨_, hv11, _⟩ := ow.osel (k := 0) Z hv10 hx4
 refine U.p Z Z (.inl Z) (S.index Z ((L 1 Z Z).trans hv11) (L 0 Z Z) Try.underlying44 ti49 (ix_ge hx4) (ix_lt hx4)) ?_
 obtain ⟨cs12, hv13, hlt14, hr15, hc16⟩ := ow.osel (k := 0) Z hv10 hx4
 obtain rfl : cs12 = [.int .i64 x3.reg, .int .i64 x3.from_, .int .i64 x3.to_] := hr15
 refine U.k Z Z (.inl Z) (S.loadN (cs := [.int .i64 x3.reg, .int .i64 x3.from_, .int .i64 x3.to_]) Z (L 0 Z Z) Try.underlying49 Z ti49 Z hc16) (fun _ => (okH.nil (fun r h => by cases h; exact hlt14))) ?_
 refine U.p Z Z (.inl Z) (S.move Z (L 10 Z Z)) ?_
 refine U.p Z Z (.inl Z) (S.move Z (L 12 Z Z)) ?_
 obtain ⟨x17, hx18, h19⟩ := bindS h5
 obtain ⟨_, hv20, _⟩ := ow.osel (k := 0) Z hv10 hx18
 refine U.p Z Z (.inl Z) (S.index Z ((L 1 Z Z).trans hv20) (L 0 Z Z) Try.underlying44 ti49 (ix_ge hx18) (ix_lt hx18)) ?_
 obtain ⟨cs21, hv22, hlt23, hr24, hc25⟩ := ow.osel (k := 0) Z hv10 hx18
 obtain rfl : cs21 = [.int .i64 x17.reg, .int .i64 x17.from_, .int .i64 x17.to_] := hr24
 refine U.k Z Z (.inl Z) (S.loadN (cs := [.int .i64 x17.reg, .int .i64 x17.from_, .int .i64 x17.to_]) Z (L 0 Z Z) Try.underlying49 Z ti49 Z hc25) (fun _ => (okH.cons trivial (okH.nil (fun r h => by cases h; exact hlt23)))) ?_
 obtain ⟨x26, hx27, h28⟩ := bindS h19
 obtain ⟨_, hv29, _⟩ := ow.osel (k := 0) Z hv10 hx27
 refine U.p Z Z (.inl Z) (S.index Z ((L 11 Z Z).trans hv29) (L 10 Z Z) Try.underlying44 ti49 (ix_ge hx27) (ix_lt hx27)) ?_
 obtain ⟨cs30, hv31, hlt32, hr33, hc34⟩ := ow.osel (k := 0) Z hv10 hx27
 obtain rfl : cs30 = [.int .i64 x26.reg, .int .i64 x26.from_, .int .i64 x26.to_] := hr33
 refine O.storeE (k := 0) (R := RT_Tflow_Span) (j := 0) (y := x3) (cs := [.int .i64 x3.reg, .int .i64 x3.from_, .int .i64 x3.to_]) ow Z hv31 Z Z (.inl Z) Z (L 0 Z Z) (L 5 Z Z) ti49 hx27 (by simp [topV]) Z Z Z (full Z) (fun H1 hs => (fun _ => (okH.cons (Or.inl Z) (okH.cons (Or.inl Z) (okH.nil (fun r h => nomatch h)))))) (fun V35 le36 ow37 => ?_)
 obtain ⟨x38, hx39, h40⟩ := bindS h28
 obtain ⟨_, hv41, _⟩ := ow37.osel (k := 0) Z hv10 hx39
 refine U.p Z Z (.inl Z) (S.index Z ((L 10 Z Z).trans hv41) (L 9 Z Z) Try.underlying44 ti49 (ix_ge hx39) (ix_lt hx39)) ?_
 obtain ⟨cs42, hv43, hlt44, hr45, hc46⟩ := ow37.osel (k := 0) Z hv10 hx39
 obtain rfl : cs42 = [.int .i64 x38.reg, .int .i64 x38.from_, .int .i64 x38.to_] := hr45
 refine O.storeE (k := 0) (R := RT_Tflow_Span) (j := 0) (y := x17) (cs := [.int .i64 x17.reg, .int .i64 x17.from_, .int .i64 x17.to_]) ow37 Z hv43 Z Z (.inl Z) Z (L 0 Z Z) (L 2 Z Z) ti49 hx39 (by simp [topV]) Z Z Z (full Z) (fun H1 hs => (fun _ => (okH.cons Z (okH.cons (Or.inl Z) (okH.cons (Or.inl Z) (okH.nil (fun r h => nomatch h))))))) (fun V47 le48 ow49 => ?_)
 refine U.done (nr Z) ?_
 refine WP.usreg Z ?_
 refine U.p Z Z (.inl Z) (S.move Z (L 17 Z Z)) ?_
 refine U.p Z Z (.inl Z) (S.add Z (L 0 Z Z) K) ?_
 refine U.p Z Z (.inl Z) (S.move Z (L 20 Z Z)) ?_
 refine U.p Z Z (.inl Z) (S.sub Z (L 0 Z Z) K) ?_
 refine U.p Z Z (.inl Z) (S.assign Z (L 2 Z Z)) ?_
 refine U.p Z Z (.inl Z) (S.assign Z (L 1 Z Z)) ?_
 refine U.done (nr Z) ?_
 refine WP.seq ?_
 refine WP.blk ?_
 unfold s_partition_l1 at h40
 obtain ⟨n52, hn51⟩ := loopO_some.1 h40
 refine WP.loopI2 (fun n l V' => ∃ (x50 : Int), l = [(0, v1), (1, .int .i64 p1), (4, .func (.func 31) #[] #[]), (12, .int .i64 x50), (13, .int .i64 (w64 (p2 - 1)))] ∧ V47.le V' ∧ Ow V' (.os RT_Tflow_Span v1 ((p0.set (Int.toNat p1) x3).set (Int.toNat p3) x17) :: Rs) ∧ itO (fun s => s_partition_l1b p0 p1 p2 p3 x3 x17 s) n x50 = some r) n52 _ ⟨w64 (p1 + 1), Z, .refl _, ow49, hn51⟩ (allCons (L 22 Z Z) (allCons (L 23 Z Z) (allCons (L 26 Z Z) (allCons (L 1 Z Z) (allCons (L 0 Z Z) allNil))))) ?_
 rintro _ _ V53 ⟨x50, rfl, le54, ow55, h59⟩
 obtain ⟨m56, q57, rfl, h60, e58⟩ := itS h59
 replace h60 : s_partition_l1b p0 p1 p2 p3 x3 x17 x50 = some q57 := h60
 unfold s_partition_l1b at h60
 refine WP.seq ?_
 refine WP.seqI (fun l V' => ∃ (x61 : Bool), l = [(0, v1), (1, .int .i64 p1), (4, .func (.func 31) #[] #[]), (12, .int .i64 x50), (13, .int .i64 (w64 (p2 - 1))), (47, .bool x61)] ∧ V53.le V' ∧ Ow V' (.os RT_Tflow_Span v1 ((p0.set (Int.toNat p1) x3).set (Int.toNat p3) x17) :: Rs) ∧ s_partition_k1 p0 p1 p2 p3 x3 x17 x50 x61 = some q57) ?_ ?_
 ·rintro _ V62 ⟨x61, rfl, le63, ow64, h65⟩
  unfold s_partition_k1 at h65
  refine WP.cond _ (L 5 Z Z) Z (fun c66 => ?_) (fun c66 => ?_)
  ·have h67 := ifT c66 h65
   refine WP.skip ?_
   refine sqN ?_
   refine WP.blk ?_
   refine WP.ureg Z ?_
   refine U.p Z Z (.inl Z) (S.move Z (L 3 Z Z)) ?_
   refine U.p Z Z (.inl Z) (S.add Z (L 0 Z Z) K) ?_
   refine U.p Z Z (.inl Z) (S.assign Z (L 0 Z Z)) ?_
   refine U.done (nr Z) ?_
   refine blkN (sqN ?_)
   exact ⟨_, V62, Z, ⟨m56, Nat.lt_succ_self _, w64 (x50 + 1), Z, (le54.trans le63), ow64, backS h67 e58⟩, (allCons (L 3 Z Z) (allCons (L 4 Z Z) (allCons (L 5 Z Z) (allCons (L 0 Z Z) (allCons (L 7 Z Z) allNil)))))⟩
  ·have h68 := ifF c66 h65
   refine WP.exit ?_
   refine sqE (sqE (blkE (sqN ?_)))
   have h69 := exitS h68 e58
   refine WP.seq ?_
   refine WP.blk ?_
   unfold s_partition_l2 at h69
   obtain ⟨n72, hn71⟩ := loopO_some.1 h69
   refine WP.loopI2 (fun n l V' => ∃ (x70 : Int), l = [(0, v1), (1, .int .i64 p1), (4, .func (.func 31) #[] #[]), (12, .int .i64 x50), (13, .int .i64 x70)] ∧ V62.le V' ∧ Ow V' (.os RT_Tflow_Span v1 ((p0.set (Int.toNat p1) x3).set (Int.toNat p3) x17) :: Rs) ∧ itO (fun s => s_partition_l2b p0 p1 p3 x3 x17 x50 s) n x70 = some r) n72 _ ⟨w64 (p2 - 1), Z, .refl _, ow64, hn71⟩ (allCons (L 0 Z Z) (allCons (L 1 Z Z) (allCons (L 2 Z Z) (allCons (L 3 Z Z) (allCons (L 4 Z Z) allNil))))) ?_
   rintro _ _ V73 ⟨x70, rfl, le74, ow75, h79⟩
   obtain ⟨m76, q77, rfl, h80, e78⟩ := itS h79
   replace h80 : s_partition_l2b p0 p1 p3 x3 x17 x50 x70 = some q77 := h80
   unfold s_partition_l2b at h80
   refine WP.seq ?_
   refine WP.seqI (fun l V' => ∃ (x81 : Bool), l = [(0, v1), (1, .int .i64 p1), (4, .func (.func 31) #[] #[]), (12, .int .i64 x50), (13, .int .i64 x70), (66, .bool x81)] ∧ V73.le V' ∧ Ow V' (.os RT_Tflow_Span v1 ((p0.set (Int.toNat p1) x3).set (Int.toNat p3) x17) :: Rs) ∧ s_partition_k2 p0 p1 p3 x3 x17 x50 x70 x81 = some q77) ?_ ?_
   ·rintro _ V82 ⟨x81, rfl, le83, ow84, h85⟩
    unfold s_partition_k2 at h85
    refine WP.cond _ (L 5 Z Z) Z (fun c86 => ?_) (fun c86 => ?_)
    ·have h87 := ifT c86 h85
     refine WP.skip ?_
     refine sqN ?_
     refine WP.blk ?_
     refine WP.ureg Z ?_
     refine U.p Z Z (.inl Z) (S.move Z (L 4 Z Z)) ?_
     refine U.p Z Z (.inl Z) (S.sub Z (L 0 Z Z) K) ?_
     refine U.p Z Z (.inl Z) (S.assign Z (L 0 Z Z)) ?_
     refine U.done (nr Z) ?_
     refine blkN (sqN ?_)
     exact ⟨_, V82, Z, ⟨m76, Nat.lt_succ_self _, w64 (x70 - 1), Z, (le74.trans le83), ow84, backS h87 e78⟩, (allCons (L 3 Z Z) (allCons (L 4 Z Z) (allCons (L 5 Z Z) (allCons (L 6 Z Z) (allCons (L 0 Z Z) allNil)))))⟩
    ·have h88 := ifF c86 h85
     refine WP.exit ?_
     refine sqE (sqE (blkE (sqN ?_)))
     have h89 := exitS h88 e78
     refine WP.seq ?_
     refine WP.usreg Z ?_
     refine U.p Z Z (.inl Z) (S.move Z (L 3 Z Z)) ?_
     refine U.p Z Z (.inl Z) (S.move Z (L 5 Z Z)) ?_
     refine U.p Z Z (.inl Z) (S.gtr Z (L 1 Z Z) (L 0 Z Z)) ?_
     refine U.done (nr Z) ?_
     refine WP.cond _ (L 0 Z Z) Z (fun c90 => ?_) (fun c90 => ?_)
     ·have h91 := ifT c90 h89
      refine WP.usdreg Z Z Z ?_
      refine U.p Z Z (.inl Z) (S.move Z (L 3 Z Z)) ?_
      refine U.p Z Z (.inl Z) (S.move Z (L 8 Z Z)) ?_
      refine U.p Z Z (.inl Z) (S.move Z (L 5 Z Z)) ?_
      refine U.p Z Z (.inl Z) (S.move Z (L 7 Z Z)) ?_
      refine U.p Z Z (.inl Z) (S.move Z (L 7 Z Z)) ?_
      refine U.p Z Z (.inl Z) (S.move Z (L 9 Z Z)) ?_
      obtain ⟨x92, hx93, h94⟩ := bindS h91
      obtain ⟨_, hv95, _⟩ := ow84.osel (k := 0) Z hv10 hx93
      refine U.p Z Z (.inl Z) (S.index Z ((L 1 Z Z).trans hv95) (L 0 Z Z) Try.underlying44 ti49 (ix_ge hx93) (ix_lt hx93)) ?_
      obtain ⟨cs96, hv97, hlt98, hr99, hc100⟩ := ow84.osel (k := 0) Z hv10 hx93
      obtain rfl : cs96 = [.int .i64 x92.reg, .int .i64 x92.from_, .int .i64 x92.to_] := hr99
      refine U.k Z Z (.inl Z) (S.loadN (cs := [.int .i64 x92.reg, .int .i64 x92.from_, .int .i64 x92.to_]) Z (L 0 Z Z) Try.underlying49 Z ti49 Z hc100) (fun _ => (okH.nil (fun r h => by cases h; exact hlt98))) ?_
      refine U.p Z Z (.inl Z) (S.move Z (L 11 Z Z)) ?_
      refine U.p Z Z (.inl Z) (S.move Z (L 16 Z Z)) ?_
      obtain ⟨x101, hx102, h103⟩ := bindS h94
      obtain ⟨_, hv104, _⟩ := ow84.osel (k := 0) Z hv10 hx102
      refine U.p Z Z (.inl Z) (S.index Z ((L 1 Z Z).trans hv104) (L 0 Z Z) Try.underlying44 ti49 (ix_ge hx102) (ix_lt hx102)) ?_
      obtain ⟨cs105, hv106, hlt107, hr108, hc109⟩ := ow84.osel (k := 0) Z hv10 hx102
      obtain rfl : cs105 = [.int .i64 x101.reg, .int .i64 x101.from_, .int .i64 x101.to_] := hr108
      refine U.k Z Z (.inl Z) (S.loadN (cs := [.int .i64 x101.reg, .int .i64 x101.from_, .int .i64 x101.to_]) Z (L 0 Z Z) Try.underlying49 Z ti49 Z hc109) (fun _ => (okH.cons trivial (okH.nil (fun r h => by cases h; exact hlt107)))) ?_
      obtain ⟨x110, hx111, h112⟩ := bindS h103
      obtain ⟨_, hv113, _⟩ := ow84.osel (k := 0) Z hv10 hx111
      refine U.p Z Z (.inl Z) (S.index Z ((L 11 Z Z).trans hv113) (L 10 Z Z) Try.underlying44 ti49 (ix_ge hx111) (ix_lt hx111)) ?_
      obtain ⟨cs114, hv115, hlt116, hr117, hc118⟩ := ow84.osel (k := 0) Z hv10 hx111
      obtain rfl : cs114 = [.int .i64 x110.reg, .int .i64 x110.from_, .int .i64 x110.to_] := hr117
      refine O.storeE (k := 0) (R := RT_Tflow_Span) (j := 0) (y := x92) (cs := [.int .i64 x92.reg, .int .i64 x92.from_, .int .i64 x92.to_]) ow84 Z hv115 Z Z (.inl Z) Z (L 0 Z Z) (L 5 Z Z) ti49 hx111 (by simp [topV]) Z Z Z (full Z) (fun H1 hs => (fun _ => (okH.cons (Or.inl Z) (okH.cons (Or.inl Z) (okH.nil (fun r h => nomatch h)))))) (fun V119 le120 ow121 => ?_)
      obtain ⟨x122, hx123, h124⟩ := bindS h112
      obtain ⟨_, hv125, _⟩ := ow121.osel (k := 0) Z hv10 hx123
      refine U.p Z Z (.inl Z) (S.index Z ((L 10 Z Z).trans hv125) (L 9 Z Z) Try.underlying44 ti49 (ix_ge hx123) (ix_lt hx123)) ?_
      obtain ⟨cs126, hv127, hlt128, hr129, hc130⟩ := ow121.osel (k := 0) Z hv10 hx123
      obtain rfl : cs126 = [.int .i64 x122.reg, .int .i64 x122.from_, .int .i64 x122.to_] := hr129
      refine O.storeE (k := 0) (R := RT_Tflow_Span) (j := 0) (y := x101) (cs := [.int .i64 x101.reg, .int .i64 x101.from_, .int .i64 x101.to_]) ow121 Z hv127 Z Z (.inl Z) Z (L 0 Z Z) (L 2 Z Z) ti49 hx123 (by simp [topV]) Z Z Z (full Z) (fun H1 hs => (fun _ => (okH.cons Z (okH.cons (Or.inl Z) (okH.cons (Or.inl Z) (okH.nil (fun r h => nomatch h))))))) (fun V131 le132 ow133 => ?_)
      refine U.done (nr Z) ?_
      refine WP.usreg Z ?_
      refine U.p Z Z (.inl Z) (S.move Z (L 21 Z Z)) ?_
      refine U.p Z Z (.inl Z) (S.assign Z (L 0 Z Z)) ?_
      refine U.p Z Z (.inl Z) (S.assign Z K) ?_
      refine U.done (nr Z) ?_
      refine WP.ret ?_
      refine sqR ?_
      refine fin.slots' (.inr Z) (fsC (L 1 Z Z) (fsC (L 0 Z Z) fsN)) Z ⟨V131, Z, (((((((le36.trans le48).trans le54).trans le63).trans le74).trans le83).trans le120).trans le132), ?_⟩
      have e134 := Option.some.inj h124
      subst e134
      exact ⟨rfl, ow133⟩
     ·have h135 := ifF c90 h89
      refine WP.skip ?_
      refine sqN ?_
      refine WP.usdreg Z Z Z ?_
      refine U.p Z Z (.inl Z) (S.move Z (L 3 Z Z)) ?_
      refine U.p Z Z (.inl Z) (S.move Z (L 7 Z Z)) ?_
      refine U.p Z Z (.inl Z) (S.move Z (L 5 Z Z)) ?_
      refine U.p Z Z (.inl Z) (S.move Z (L 10 Z Z)) ?_
      refine U.p Z Z (.inl Z) (S.move Z (L 7 Z Z)) ?_
      refine U.p Z Z (.inl Z) (S.move Z (L 12 Z Z)) ?_
      obtain ⟨x136, hx137, h138⟩ := bindS h135
      obtain ⟨_, hv139, _⟩ := ow84.osel (k := 0) Z hv10 hx137
      refine U.p Z Z (.inl Z) (S.index Z ((L 1 Z Z).trans hv139) (L 0 Z Z) Try.underlying44 ti49 (ix_ge hx137) (ix_lt hx137)) ?_
      obtain ⟨cs140, hv141, hlt142, hr143, hc144⟩ := ow84.osel (k := 0) Z hv10 hx137
      obtain rfl : cs140 = [.int .i64 x136.reg, .int .i64 x136.from_, .int .i64 x136.to_] := hr143
      refine U.k Z Z (.inl Z) (S.loadN (cs := [.int .i64 x136.reg, .int .i64 x136.from_, .int .i64 x136.to_]) Z (L 0 Z Z) Try.underlying49 Z ti49 Z hc144) (fun _ => (okH.nil (fun r h => by cases h; exact hlt142))) ?_
      refine U.p Z Z (.inl Z) (S.move Z (L 11 Z Z)) ?_
      refine U.p Z Z (.inl Z) (S.move Z (L 15 Z Z)) ?_
      obtain ⟨x145, hx146, h147⟩ := bindS h138
      obtain ⟨_, hv148, _⟩ := ow84.osel (k := 0) Z hv10 hx146
      refine U.p Z Z (.inl Z) (S.index Z ((L 1 Z Z).trans hv148) (L 0 Z Z) Try.underlying44 ti49 (ix_ge hx146) (ix_lt hx146)) ?_
      obtain ⟨cs149, hv150, hlt151, hr152, hc153⟩ := ow84.osel (k := 0) Z hv10 hx146
      obtain rfl : cs149 = [.int .i64 x145.reg, .int .i64 x145.from_, .int .i64 x145.to_] := hr152
      refine U.k Z Z (.inl Z) (S.loadN (cs := [.int .i64 x145.reg, .int .i64 x145.from_, .int .i64 x145.to_]) Z (L 0 Z Z) Try.underlying49 Z ti49 Z hc153) (fun _ => (okH.cons trivial (okH.nil (fun r h => by cases h; exact hlt151)))) ?_
      obtain ⟨x154, hx155, h156⟩ := bindS h147
      obtain ⟨_, hv157, _⟩ := ow84.osel (k := 0) Z hv10 hx155
      refine U.p Z Z (.inl Z) (S.index Z ((L 11 Z Z).trans hv157) (L 10 Z Z) Try.underlying44 ti49 (ix_ge hx155) (ix_lt hx155)) ?_
      obtain ⟨cs158, hv159, hlt160, hr161, hc162⟩ := ow84.osel (k := 0) Z hv10 hx155
      obtain rfl : cs158 = [.int .i64 x154.reg, .int .i64 x154.from_, .int .i64 x154.to_] := hr161
      refine O.storeE (k := 0) (R := RT_Tflow_Span) (j := 0) (y := x136) (cs := [.int .i64 x136.reg, .int .i64 x136.from_, .int .i64 x136.to_]) ow84 Z hv159 Z Z (.inl Z) Z (L 0 Z Z) (L 5 Z Z) ti49 hx155 (by simp [topV]) Z Z Z (full Z) (fun H1 hs => (fun _ => (okH.cons (Or.inl Z) (okH.cons (Or.inl Z) (okH.nil (fun r h => nomatch h)))))) (fun V163 le164 ow165 => ?_)
      obtain ⟨x166, hx167, h168⟩ := bindS h156
      obtain ⟨_, hv169, _⟩ := ow165.osel (k := 0) Z hv10 hx167
      refine U.p Z Z (.inl Z) (S.index Z ((L 10 Z Z).trans hv169) (L 9 Z Z) Try.underlying44 ti49 (ix_ge hx167) (ix_lt hx167)) ?_
      obtain ⟨cs170, hv171, hlt172, hr173, hc174⟩ := ow165.osel (k := 0) Z hv10 hx167
      obtain rfl : cs170 = [.int .i64 x166.reg, .int .i64 x166.from_, .int .i64 x166.to_] := hr173
      refine O.storeE (k := 0) (R := RT_Tflow_Span) (j := 0) (y := x145) (cs := [.int .i64 x145.reg, .int .i64 x145.from_, .int .i64 x145.to_]) ow165 Z hv171 Z Z (.inl Z) Z (L 0 Z Z) (L 2 Z Z) ti49 hx167 (by simp [topV]) Z Z Z (full Z) (fun H1 hs => (fun _ => (okH.cons Z (okH.cons (Or.inl Z) (okH.cons (Or.inl Z) (okH.nil (fun r h => nomatch h))))))) (fun V175 le176 ow177 => ?_)
      refine U.done (nr Z) ?_
      refine WP.usreg Z ?_
      refine U.p Z Z (.inl Z) (S.move Z (L 20 Z Z)) ?_
      refine U.p Z Z (.inl Z) (S.add Z (L 0 Z Z) K) ?_
      refine U.p Z Z (.inl Z) (S.assign Z (L 0 Z Z)) ?_
      refine U.done (nr Z) ?_
      refine WP.usreg Z ?_
      refine U.p Z Z (.inl Z) (S.move Z (L 24 Z Z)) ?_
      refine U.p Z Z (.inl Z) (S.sub Z (L 0 Z Z) K) ?_
      refine U.p Z Z (.inl Z) (S.assign Z (L 0 Z Z)) ?_
      refine U.done (nr Z) ?_
      refine WP.seq ?_
      refine WP.blk ?_
      unfold s_partition_l3 at h168
      obtain ⟨n182, hn181⟩ := loopO_some.1 h168
      refine WP.loopI2 (fun n l V' => ∃ (xs178 : List Tflow_Span) (x179 : Int) (x180 : Int), l = [(0, v1), (1, .int .i64 p1), (4, .func (.func 31) #[] #[]), (12, .int .i64 x179), (13, .int .i64 x180)] ∧ V175.le V' ∧ Ow V' (.os RT_Tflow_Span v1 xs178 :: Rs) ∧ itO (fun s => s_partition_l3b p1 s.1 s.2.1 s.2.2) n (xs178, x179, x180) = some r) n182 _ ⟨(((p0.set (Int.toNat p1) x3).set (Int.toNat p3) x17).set (Int.toNat x50) x136).set (Int.toNat x70) x145, w64 (x50 + 1), w64 (x70 - 1), Z, .refl _, ow177, hn181⟩ (allCons (L 23 Z Z) (allCons (L 24 Z Z) (allCons (L 25 Z Z) (allCons (L 3 Z Z) (allCons (L 0 Z Z) allNil))))) ?_
      rintro _ _ V183 ⟨xs178, x179, x180, rfl, le184, ow185, h189⟩
      obtain ⟨m186, q187, rfl, h190, e188⟩ := itS h189
      replace h190 : s_partition_l3b p1 xs178 x179 x180 = some q187 := h190
      unfold s_partition_l3b at h190
      refine WP.blk ?_
      refine WP.seq ?_
      refine WP.blk ?_
      unfold s_partition_l4 at h190
      obtain ⟨n193, hn192⟩ := loopO_some.1 h190
      refine WP.loopI2 (fun n l V' => ∃ (x191 : Int), l = [(0, v1), (1, .int .i64 p1), (4, .func (.func 31) #[] #[]), (12, .int .i64 x191), (13, .int .i64 x180)] ∧ V183.le V' ∧ Ow V' (.os RT_Tflow_Span v1 xs178 :: Rs) ∧ itO (fun s => s_partition_l4b p1 xs178 x180 s) n x191 = some q187) n193 _ ⟨x179, Z, .refl _, ow185, hn192⟩ (allCons (L 0 Z Z) (allCons (L 1 Z Z) (allCons (L 2 Z Z) (allCons (L 3 Z Z) (allCons (L 4 Z Z) allNil))))) ?_
      rintro _ _ V194 ⟨x191, rfl, le195, ow196, h200⟩
      obtain ⟨m197, q198, rfl, h201, e199⟩ := itS h200
      replace h201 : s_partition_l4b p1 xs178 x180 x191 = some q198 := h201
      unfold s_partition_l4b at h201
      refine WP.seq ?_
      refine WP.seqI (fun l V' => ∃ (x202 : Bool), l = [(0, v1), (1, .int .i64 p1), (4, .func (.func 31) #[] #[]), (12, .int .i64 x191), (13, .int .i64 x180), (120, .bool x202)] ∧ V194.le V' ∧ Ow V' (.os RT_Tflow_Span v1 xs178 :: Rs) ∧ s_partition_k3 p1 xs178 x180 x191 x202 = some q198) ?_ ?_
      ·rintro _ V203 ⟨x202, rfl, le204, ow205, h206⟩
       unfold s_partition_k3 at h206
       refine WP.cond _ (L 5 Z Z) Z (fun c207 => ?_) (fun c207 => ?_)
       ·have h208 := ifT c207 h206
        refine WP.skip ?_
        refine sqN ?_
        refine WP.blk ?_
        refine WP.ureg Z ?_
        refine U.p Z Z (.inl Z) (S.move Z (L 3 Z Z)) ?_
        refine U.p Z Z (.inl Z) (S.add Z (L 0 Z Z) K) ?_
        refine U.p Z Z (.inl Z) (S.assign Z (L 0 Z Z)) ?_
        refine U.done (nr Z) ?_
        refine blkN (sqN ?_)
        exact ⟨_, V203, Z, ⟨m197, Nat.lt_succ_self _, w64 (x191 + 1), Z, (le195.trans le204), ow205, backS h208 e199⟩, (allCons (L 3 Z Z) (allCons (L 4 Z Z) (allCons (L 5 Z Z) (allCons (L 0 Z Z) (allCons (L 7 Z Z) allNil)))))⟩
       ·have h209 := ifF c207 h206
        refine WP.exit ?_
        refine sqE (sqE (blkE (sqN ?_)))
        have h210 := exitS h209 e199
        refine WP.seq ?_
        refine WP.blk ?_
        unfold s_partition_l5 at h210
        obtain ⟨n213, hn212⟩ := loopO_some.1 h210
        refine WP.loopI2 (fun n l V' => ∃ (x211 : Int), l = [(0, v1), (1, .int .i64 p1), (4, .func (.func 31) #[] #[]), (12, .int .i64 x191), (13, .int .i64 x211)] ∧ V203.le V' ∧ Ow V' (.os RT_Tflow_Span v1 xs178 :: Rs) ∧ itO (fun s => s_partition_l5b p1 xs178 x191 s) n x211 = some q187) n213 _ ⟨x180, Z, .refl _, ow205, hn212⟩ (allCons (L 0 Z Z) (allCons (L 1 Z Z) (allCons (L 2 Z Z) (allCons (L 3 Z Z) (allCons (L 4 Z Z) allNil))))) ?_
        rintro _ _ V214 ⟨x211, rfl, le215, ow216, h220⟩
        obtain ⟨m217, q218, rfl, h221, e219⟩ := itS h220
        replace h221 : s_partition_l5b p1 xs178 x191 x211 = some q218 := h221
        unfold s_partition_l5b at h221
        refine WP.seq ?_
        refine WP.seqI (fun l V' => ∃ (x222 : Bool), l = [(0, v1), (1, .int .i64 p1), (4, .func (.func 31) #[] #[]), (12, .int .i64 x191), (13, .int .i64 x211), (139, .bool x222)] ∧ V214.le V' ∧ Ow V' (.os RT_Tflow_Span v1 xs178 :: Rs) ∧ s_partition_k4 p1 xs178 x191 x211 x222 = some q218) ?_ ?_
        ·rintro _ V223 ⟨x222, rfl, le224, ow225, h226⟩
         unfold s_partition_k4 at h226
         refine WP.cond _ (L 5 Z Z) Z (fun c227 => ?_) (fun c227 => ?_)
         ·have h228 := ifT c227 h226
          refine WP.skip ?_
          refine sqN ?_
          refine WP.blk ?_
          refine WP.ureg Z ?_
          refine U.p Z Z (.inl Z) (S.move Z (L 4 Z Z)) ?_
          refine U.p Z Z (.inl Z) (S.sub Z (L 0 Z Z) K) ?_
          refine U.p Z Z (.inl Z) (S.assign Z (L 0 Z Z)) ?_
          refine U.done (nr Z) ?_
          refine blkN (sqN ?_)
          exact ⟨_, V223, Z, ⟨m217, Nat.lt_succ_self _, w64 (x211 - 1), Z, (le215.trans le224), ow225, backS h228 e219⟩, (allCons (L 3 Z Z) (allCons (L 4 Z Z) (allCons (L 5 Z Z) (allCons (L 6 Z Z) (allCons (L 0 Z Z) allNil)))))⟩
         ·have h229 := ifF c227 h226
          refine WP.exit ?_
          refine sqE (sqE (blkE (sqN ?_)))
          have h230 := exitS h229 e219
          refine WP.seq ?_
          refine WP.usreg Z ?_
          refine U.p Z Z (.inl Z) (S.move Z (L 3 Z Z)) ?_
          refine U.p Z Z (.inl Z) (S.move Z (L 5 Z Z)) ?_
          refine U.p Z Z (.inl Z) (S.gtr Z (L 1 Z Z) (L 0 Z Z)) ?_
          refine U.done (nr Z) ?_
          refine WP.cond _ (L 0 Z Z) Z (fun c231 => ?_) (fun c231 => ?_)
          ·have h232 := ifT c231 h230
           refine WP.exit ?_
           refine sqE (blkO Z (sqE (blkE (sqN ?_))))
           have h233 := exitS h232 e188
           refine WP.usdreg Z Z Z ?_
           refine U.p Z Z (.inl Z) (S.move Z (L 3 Z Z)) ?_
           refine U.p Z Z (.inl Z) (S.move Z (L 8 Z Z)) ?_
           refine U.p Z Z (.inl Z) (S.move Z (L 5 Z Z)) ?_
           refine U.p Z Z (.inl Z) (S.move Z (L 7 Z Z)) ?_
           refine U.p Z Z (.inl Z) (S.move Z (L 7 Z Z)) ?_
           refine U.p Z Z (.inl Z) (S.move Z (L 9 Z Z)) ?_
           obtain ⟨x234, hx235, h236⟩ := bindS h233
           obtain ⟨_, hv237, _⟩ := ow225.osel (k := 0) Z hv10 hx235
           refine U.p Z Z (.inl Z) (S.index Z ((L 1 Z Z).trans hv237) (L 0 Z Z) Try.underlying44 ti49 (ix_ge hx235) (ix_lt hx235)) ?_
           obtain ⟨cs238, hv239, hlt240, hr241, hc242⟩ := ow225.osel (k := 0) Z hv10 hx235
           obtain rfl : cs238 = [.int .i64 x234.reg, .int .i64 x234.from_, .int .i64 x234.to_] := hr241
           refine U.k Z Z (.inl Z) (S.loadN (cs := [.int .i64 x234.reg, .int .i64 x234.from_, .int .i64 x234.to_]) Z (L 0 Z Z) Try.underlying49 Z ti49 Z hc242) (fun _ => (okH.nil (fun r h => by cases h; exact hlt240))) ?_
           refine U.p Z Z (.inl Z) (S.move Z (L 11 Z Z)) ?_
           refine U.p Z Z (.inl Z) (S.move Z (L 16 Z Z)) ?_
           obtain ⟨x243, hx244, h245⟩ := bindS h236
           obtain ⟨_, hv246, _⟩ := ow225.osel (k := 0) Z hv10 hx244
           refine U.p Z Z (.inl Z) (S.index Z ((L 1 Z Z).trans hv246) (L 0 Z Z) Try.underlying44 ti49 (ix_ge hx244) (ix_lt hx244)) ?_
           obtain ⟨cs247, hv248, hlt249, hr250, hc251⟩ := ow225.osel (k := 0) Z hv10 hx244
           obtain rfl : cs247 = [.int .i64 x243.reg, .int .i64 x243.from_, .int .i64 x243.to_] := hr250
           refine U.k Z Z (.inl Z) (S.loadN (cs := [.int .i64 x243.reg, .int .i64 x243.from_, .int .i64 x243.to_]) Z (L 0 Z Z) Try.underlying49 Z ti49 Z hc251) (fun _ => (okH.cons trivial (okH.nil (fun r h => by cases h; exact hlt249)))) ?_
           obtain ⟨x252, hx253, h254⟩ := bindS h245
           obtain ⟨_, hv255, _⟩ := ow225.osel (k := 0) Z hv10 hx253
           refine U.p Z Z (.inl Z) (S.index Z ((L 11 Z Z).trans hv255) (L 10 Z Z) Try.underlying44 ti49 (ix_ge hx253) (ix_lt hx253)) ?_
           obtain ⟨cs256, hv257, hlt258, hr259, hc260⟩ := ow225.osel (k := 0) Z hv10 hx253
           obtain rfl : cs256 = [.int .i64 x252.reg, .int .i64 x252.from_, .int .i64 x252.to_] := hr259
           refine O.storeE (k := 0) (R := RT_Tflow_Span) (j := 0) (y := x234) (cs := [.int .i64 x234.reg, .int .i64 x234.from_, .int .i64 x234.to_]) ow225 Z hv257 Z Z (.inl Z) Z (L 0 Z Z) (L 5 Z Z) ti49 hx253 (by simp [topV]) Z Z Z (full Z) (fun H1 hs => (fun _ => (okH.cons (Or.inl Z) (okH.cons (Or.inl Z) (okH.nil (fun r h => nomatch h)))))) (fun V261 le262 ow263 => ?_)
           obtain ⟨x264, hx265, h266⟩ := bindS h254
           obtain ⟨_, hv267, _⟩ := ow263.osel (k := 0) Z hv10 hx265
           refine U.p Z Z (.inl Z) (S.index Z ((L 10 Z Z).trans hv267) (L 9 Z Z) Try.underlying44 ti49 (ix_ge hx265) (ix_lt hx265)) ?_
           obtain ⟨cs268, hv269, hlt270, hr271, hc272⟩ := ow263.osel (k := 0) Z hv10 hx265
           obtain rfl : cs268 = [.int .i64 x264.reg, .int .i64 x264.from_, .int .i64 x264.to_] := hr271
           refine O.storeE (k := 0) (R := RT_Tflow_Span) (j := 0) (y := x243) (cs := [.int .i64 x243.reg, .int .i64 x243.from_, .int .i64 x243.to_]) ow263 Z hv269 Z Z (.inl Z) Z (L 0 Z Z) (L 2 Z Z) ti49 hx265 (by simp [topV]) Z Z Z (full Z) (fun H1 hs => (fun _ => (okH.cons Z (okH.cons (Or.inl Z) (okH.cons (Or.inl Z) (okH.nil (fun r h => nomatch h))))))) (fun V273 le274 ow275 => ?_)
           refine U.done (nr Z) ?_
           refine WP.usreg Z ?_
           refine U.p Z Z (.inl Z) (S.move Z (L 21 Z Z)) ?_
           refine U.p Z Z (.inl Z) (S.assign Z (L 0 Z Z)) ?_
           refine U.p Z Z (.inl Z) (S.assign Z K) ?_
           refine U.done (nr Z) ?_
           refine WP.ret ?_
           refine fin.slots' (.inr Z) (fsC (L 1 Z Z) (fsC (L 0 Z Z) fsN)) Z ⟨V273, Z, ((((((((((((((le36.trans le48).trans le54).trans le63).trans le74).trans le83).trans le164).trans le176).trans le184).trans le195).trans le204).trans le215).trans le224).trans le262).trans le274), ?_⟩
           have e276 := Option.some.inj h266
           subst e276
           exact ⟨rfl, ow275⟩
          ·have h277 := ifF c231 h230
           refine WP.skip ?_
           refine sqN ?_
           refine WP.usdreg Z Z Z ?_
           refine U.p Z Z (.inl Z) (S.move Z (L 3 Z Z)) ?_
           refine U.p Z Z (.inl Z) (S.move Z (L 7 Z Z)) ?_
           refine U.p Z Z (.inl Z) (S.move Z (L 5 Z Z)) ?_
           refine U.p Z Z (.inl Z) (S.move Z (L 10 Z Z)) ?_
           refine U.p Z Z (.inl Z) (S.move Z (L 7 Z Z)) ?_
           refine U.p Z Z (.inl Z) (S.move Z (L 12 Z Z)) ?_
           obtain ⟨x278, hx279, h280⟩ := bindS h277
           obtain ⟨_, hv281, _⟩ := ow225.osel (k := 0) Z hv10 hx279
           refine U.p Z Z (.inl Z) (S.index Z ((L 1 Z Z).trans hv281) (L 0 Z Z) Try.underlying44 ti49 (ix_ge hx279) (ix_lt hx279)) ?_
           obtain ⟨cs282, hv283, hlt284, hr285, hc286⟩ := ow225.osel (k := 0) Z hv10 hx279
           obtain rfl : cs282 = [.int .i64 x278.reg, .int .i64 x278.from_, .int .i64 x278.to_] := hr285
           refine U.k Z Z (.inl Z) (S.loadN (cs := [.int .i64 x278.reg, .int .i64 x278.from_, .int .i64 x278.to_]) Z (L 0 Z Z) Try.underlying49 Z ti49 Z hc286) (fun _ => (okH.nil (fun r h => by cases h; exact hlt284))) ?_
           refine U.p Z Z (.inl Z) (S.move Z (L 11 Z Z)) ?_
           refine U.p Z Z (.inl Z) (S.move Z (L 15 Z Z)) ?_
           obtain ⟨x287, hx288, h289⟩ := bindS h280
           obtain ⟨_, hv290, _⟩ := ow225.osel (k := 0) Z hv10 hx288
           refine U.p Z Z (.inl Z) (S.index Z ((L 1 Z Z).trans hv290) (L 0 Z Z) Try.underlying44 ti49 (ix_ge hx288) (ix_lt hx288)) ?_
           obtain ⟨cs291, hv292, hlt293, hr294, hc295⟩ := ow225.osel (k := 0) Z hv10 hx288
           obtain rfl : cs291 = [.int .i64 x287.reg, .int .i64 x287.from_, .int .i64 x287.to_] := hr294
           refine U.k Z Z (.inl Z) (S.loadN (cs := [.int .i64 x287.reg, .int .i64 x287.from_, .int .i64 x287.to_]) Z (L 0 Z Z) Try.underlying49 Z ti49 Z hc295) (fun _ => (okH.cons trivial (okH.nil (fun r h => by cases h; exact hlt293)))) ?_
           obtain ⟨x296, hx297, h298⟩ := bindS h289
           obtain ⟨_, hv299, _⟩ := ow225.osel (k := 0) Z hv10 hx297
           refine U.p Z Z (.inl Z) (S.index Z ((L 11 Z Z).trans hv299) (L 10 Z Z) Try.underlying44 ti49 (ix_ge hx297) (ix_lt hx297)) ?_
           obtain ⟨cs300, hv301, hlt302, hr303, hc304⟩ := ow225.osel (k := 0) Z hv10 hx297
           obtain rfl : cs300 = [.int .i64 x296.reg, .int .i64 x296.from_, .int .i64 x296.to_] := hr303
           refine O.storeE (k := 0) (R := RT_Tflow_Span) (j := 0) (y := x278) (cs := [.int .i64 x278.reg, .int .i64 x278.from_, .int .i64 x278.to_]) ow225 Z hv301 Z Z (.inl Z) Z (L 0 Z Z) (L 5 Z Z) ti49 hx297 (by simp [topV]) Z Z Z (full Z) (fun H1 hs => (fun _ => (okH.cons (Or.inl Z) (okH.cons (Or.inl Z) (okH.nil (fun r h => nomatch h)))))) (fun V305 le306 ow307 => ?_)
           obtain ⟨x308, hx309, h310⟩ := bindS h298
           obtain ⟨_, hv311, _⟩ := ow307.osel (k := 0) Z hv10 hx309
           refine U.p Z Z (.inl Z) (S.index Z ((L 10 Z Z).trans hv311) (L 9 Z Z) Try.underlying44 ti49 (ix_ge hx309) (ix_lt hx309)) ?_
           obtain ⟨cs312, hv313, hlt314, hr315, hc316⟩ := ow307.osel (k := 0) Z hv10 hx309
           obtain rfl : cs312 = [.int .i64 x308.reg, .int .i64 x308.from_, .int .i64 x308.to_] := hr315
           refine O.storeE (k := 0) (R := RT_Tflow_Span) (j := 0) (y := x287) (cs := [.int .i64 x287.reg, .int .i64 x287.from_, .int .i64 x287.to_]) ow307 Z hv313 Z Z (.inl Z) Z (L 0 Z Z) (L 2 Z Z) ti49 hx309 (by simp [topV]) Z Z Z (full Z) (fun H1 hs => (fun _ => (okH.cons Z (okH.cons (Or.inl Z) (okH.cons (Or.inl Z) (okH.nil (fun r h => nomatch h))))))) (fun V317 le318 ow319 => ?_)
           refine U.done (nr Z) ?_
           refine WP.usreg Z ?_
           refine U.p Z Z (.inl Z) (S.move Z (L 20 Z Z)) ?_
           refine U.p Z Z (.inl Z) (S.add Z (L 0 Z Z) K) ?_
           refine U.p Z Z (.inl Z) (S.assign Z (L 0 Z Z)) ?_
           refine U.done (nr Z) ?_
           refine WP.ureg Z ?_
           refine U.p Z Z (.inl Z) (S.move Z (L 24 Z Z)) ?_
           refine U.p Z Z (.inl Z) (S.sub Z (L 0 Z Z) K) ?_
           refine U.p Z Z (.inl Z) (S.assign Z (L 0 Z Z)) ?_
           refine U.done (nr Z) ?_
           refine blkN (sqN ?_)
           exact ⟨_, V317, Z, ⟨m186, Nat.lt_succ_self _, (xs178.set (Int.toNat x191) x278).set (Int.toNat x211) x287, w64 (x191 + 1), w64 (x211 - 1), Z, ((((((le184.trans le195).trans le204).trans le215).trans le224).trans le306).trans le318), ow319, backS h310 e188⟩, (allCons (L 23 Z Z) (allCons (L 24 Z Z) (allCons (L 25 Z Z) (allCons (L 3 Z Z) (allCons (L 0 Z Z) allNil)))))⟩
        ·skip
         refine WP.udreg Z Z Z ?_
         refine U.p Z Z (.inl Z) (S.move Z (L 3 Z Z)) ?_
         refine U.p Z Z (.inl Z) (S.move Z (L 5 Z Z)) ?_
         refine U.p Z Z (.inl Z) (S.leq Z (L 1 Z Z) (L 0 Z Z)) ?_
         refine U.p Z Z (.inl Z) (S.move Z (L 0 Z Z)) ?_
         refine bcase (b := decide (x191 ≤ x211)) (fun g320 => ?_) (fun g320 => ?_)
         ·have h321 := ifT g320 h221
          refine U.p Z Z (.inr ⟨_, _, _, Z, Z, ((L 0 Z Z).trans (cB g320))⟩) (S.move Z (L 6 Z Z)) ?_
          refine U.p Z Z (.inr ⟨_, _, _, Z, Z, ((L 1 Z Z).trans (cB g320))⟩) (S.move Z (L 5 Z Z)) ?_
          refine U.p Z Z (.inr ⟨_, _, _, Z, Z, ((L 2 Z Z).trans (cB g320))⟩) (S.move Z (L 10 Z Z)) ?_
          obtain ⟨x322, hx323, h324⟩ := bindS h321
          obtain ⟨_, hv325, _⟩ := ow216.osel (k := 0) Z hv10 hx323
          refine U.p Z Z (.inr ⟨_, _, _, Z, Z, ((L 3 Z Z).trans (cB g320))⟩) (S.index Z ((L 1 Z Z).trans hv325) (L 0 Z Z) Try.underlying44 ti49 (ix_ge hx323) (ix_lt hx323)) ?_
          obtain ⟨cs326, hv327, hlt328, hr329, hc330⟩ := ow216.osel (k := 0) Z hv10 hx323
          obtain rfl : cs326 = [.int .i64 x322.reg, .int .i64 x322.from_, .int .i64 x322.to_] := hr329
          refine U.k Z Z (.inr ⟨_, _, _, Z, Z, ((L 4 Z Z).trans (cB g320))⟩) (S.loadN (cs := [.int .i64 x322.reg, .int .i64 x322.from_, .int .i64 x322.to_]) Z (L 0 Z Z) Try.underlying49 Z ti49 Z hc330) (fun _ => (okH.nil (fun r h => by cases h; exact hlt328))) ?_
          refine U.p Z Z (.inr ⟨_, _, _, Z, Z, ((L 5 Z Z).trans (cB g320))⟩) (S.move Z (L 9 Z Z)) ?_
          refine U.p Z Z (.inr ⟨_, _, _, Z, Z, ((L 6 Z Z).trans (cB g320))⟩) (S.move Z (L 11 Z Z)) ?_
          obtain ⟨x331, hx332, h333⟩ := bindS h324
          obtain ⟨_, hv334, _⟩ := ow216.osel (k := 0) Z hv10 hx332
          refine U.p Z Z (.inr ⟨_, _, _, Z, Z, ((L 7 Z Z).trans (cB g320))⟩) (S.index Z ((L 1 Z Z).trans hv334) (L 0 Z Z) Try.underlying44 ti49 (ix_ge hx332) (ix_lt hx332)) ?_
          obtain ⟨cs335, hv336, hlt337, hr338, hc339⟩ := ow216.osel (k := 0) Z hv10 hx332
          obtain rfl : cs335 = [.int .i64 x331.reg, .int .i64 x331.from_, .int .i64 x331.to_] := hr338
          refine U.k Z Z (.inr ⟨_, _, _, Z, Z, ((L 8 Z Z).trans (cB g320))⟩) (S.loadN (cs := [.int .i64 x331.reg, .int .i64 x331.from_, .int .i64 x331.to_]) Z (L 0 Z Z) Try.underlying49 Z ti49 Z hc339) (fun _ => (okH.cons trivial (okH.nil (fun r h => by cases h; exact hlt337)))) ?_
          obtain ⟨x340, hx341, h342⟩ := bindS h333
          refine O.callv (V := V214) Z Z (.inr ⟨_, _, _, Z, Z, ((L 9 Z Z).trans (cB g320))⟩) Z (L 8 Z Z) en31 (aC (L 4 Z Z) (aC (L 0 Z Z) aN)) (wk_flow_Spans_c1 V214 _ x322 x331 ow216 _ hx341) (fun v343 V344 le345 hp346 => by obtain ⟨rfl, ow347⟩ := hp346; exact (fun _ => (okH.cons (Or.inl Z) (okH.cons (Or.inl Z) (okH.nil (fun r h => nomatch h)))))) (fun v343 V344 le345 hp346 => ?_)
          obtain ⟨rfl, ow347⟩ := hp346
          refine U.p Z Z (.inr ⟨_, _, _, Z, Z, ((L 10 Z Z).trans (cB g320))⟩) (S.lss Z (L 0 Z Z) K) ?_
          refine U.p Z Z (.inr ⟨_, _, _, Z, Z, ((L 11 Z Z).trans (cB g320))⟩) (S.not Z (L 0 Z Z)) ?_
          refine U.p Z Z (.inl Z) (S.pickT Z ((L 12 Z Z).trans (cB g320)) (L 0 Z Z)) ?_
          refine U.done (nr Z) ?_
          refine sqN ?_
          exact ⟨_, V344, Z, ⟨!(decide (x340 < 0)), Z, le345, ow347, h342⟩, (allCons (L 17 Z Z) (allCons (L 18 Z Z) (allCons (L 19 Z Z) (allCons (L 20 Z Z) (allCons (L 21 Z Z) (allCons (L 0 Z Z) allNil))))))⟩
         ·have h348 := ifF g320 h221
          refine U.x Z Z Z Z ((L 0 Z Z).trans (cB g320)) (by decide) ?_
          refine U.x Z Z Z Z ((L 1 Z Z).trans (cB g320)) (by decide) ?_
          refine U.x Z Z Z Z ((L 2 Z Z).trans (cB g320)) (by decide) ?_
          refine U.x Z Z Z Z ((L 3 Z Z).trans (cB g320)) (by decide) ?_
          refine U.x Z Z Z Z ((L 4 Z Z).trans (cB g320)) (by decide) ?_
          refine U.x Z Z Z Z ((L 5 Z Z).trans (cB g320)) (by decide) ?_
          refine U.x Z Z Z Z ((L 6 Z Z).trans (cB g320)) (by decide) ?_
          refine U.x Z Z Z Z ((L 7 Z Z).trans (cB g320)) (by decide) ?_
          refine U.x Z Z Z Z ((L 8 Z Z).trans (cB g320)) (by decide) ?_
          refine U.x Z Z Z Z ((L 9 Z Z).trans (cB g320)) (by decide) ?_
          refine U.x Z Z Z Z ((L 10 Z Z).trans (cB g320)) (by decide) ?_
          refine U.x Z Z Z Z ((L 11 Z Z).trans (cB g320)) (by decide) ?_
          refine U.p Z Z (.inl Z) (S.pickF Z ((L 12 Z Z).trans (cB g320)) K) ?_
          refine U.done (nr Z) ?_
          refine sqN ?_
          exact ⟨_, V214, Z, ⟨false, Z, (.refl _), ow216, h348⟩, (allCons (L 17 Z Z) (allCons (L 18 Z Z) (allCons (L 19 Z Z) (allCons (L 20 Z Z) (allCons (L 21 Z Z) (allCons (L 0 Z Z) allNil))))))⟩
      ·skip
       refine WP.udreg Z Z Z ?_
       refine U.p Z Z (.inl Z) (S.move Z (L 3 Z Z)) ?_
       refine U.p Z Z (.inl Z) (S.move Z (L 5 Z Z)) ?_
       refine U.p Z Z (.inl Z) (S.leq Z (L 1 Z Z) (L 0 Z Z)) ?_
       refine U.p Z Z (.inl Z) (S.move Z (L 0 Z Z)) ?_
       refine bcase (b := decide (x191 ≤ x180)) (fun g349 => ?_) (fun g349 => ?_)
       ·have h350 := ifT g349 h201
        refine U.p Z Z (.inr ⟨_, _, _, Z, Z, ((L 0 Z Z).trans (cB g349))⟩) (S.move Z (L 6 Z Z)) ?_
        refine U.p Z Z (.inr ⟨_, _, _, Z, Z, ((L 1 Z Z).trans (cB g349))⟩) (S.move Z (L 5 Z Z)) ?_
        refine U.p Z Z (.inr ⟨_, _, _, Z, Z, ((L 2 Z Z).trans (cB g349))⟩) (S.move Z (L 9 Z Z)) ?_
        obtain ⟨x351, hx352, h353⟩ := bindS h350
        obtain ⟨_, hv354, _⟩ := ow196.osel (k := 0) Z hv10 hx352
        refine U.p Z Z (.inr ⟨_, _, _, Z, Z, ((L 3 Z Z).trans (cB g349))⟩) (S.index Z ((L 1 Z Z).trans hv354) (L 0 Z Z) Try.underlying44 ti49 (ix_ge hx352) (ix_lt hx352)) ?_
        obtain ⟨cs355, hv356, hlt357, hr358, hc359⟩ := ow196.osel (k := 0) Z hv10 hx352
        obtain rfl : cs355 = [.int .i64 x351.reg, .int .i64 x351.from_, .int .i64 x351.to_] := hr358
        refine U.k Z Z (.inr ⟨_, _, _, Z, Z, ((L 4 Z Z).trans (cB g349))⟩) (S.loadN (cs := [.int .i64 x351.reg, .int .i64 x351.from_, .int .i64 x351.to_]) Z (L 0 Z Z) Try.underlying49 Z ti49 Z hc359) (fun _ => (okH.nil (fun r h => by cases h; exact hlt357))) ?_
        refine U.p Z Z (.inr ⟨_, _, _, Z, Z, ((L 5 Z Z).trans (cB g349))⟩) (S.move Z (L 9 Z Z)) ?_
        refine U.p Z Z (.inr ⟨_, _, _, Z, Z, ((L 6 Z Z).trans (cB g349))⟩) (S.move Z (L 11 Z Z)) ?_
        obtain ⟨x360, hx361, h362⟩ := bindS h353
        obtain ⟨_, hv363, _⟩ := ow196.osel (k := 0) Z hv10 hx361
        refine U.p Z Z (.inr ⟨_, _, _, Z, Z, ((L 7 Z Z).trans (cB g349))⟩) (S.index Z ((L 1 Z Z).trans hv363) (L 0 Z Z) Try.underlying44 ti49 (ix_ge hx361) (ix_lt hx361)) ?_
        obtain ⟨cs364, hv365, hlt366, hr367, hc368⟩ := ow196.osel (k := 0) Z hv10 hx361
        obtain rfl : cs364 = [.int .i64 x360.reg, .int .i64 x360.from_, .int .i64 x360.to_] := hr367
        refine U.k Z Z (.inr ⟨_, _, _, Z, Z, ((L 8 Z Z).trans (cB g349))⟩) (S.loadN (cs := [.int .i64 x360.reg, .int .i64 x360.from_, .int .i64 x360.to_]) Z (L 0 Z Z) Try.underlying49 Z ti49 Z hc368) (fun _ => (okH.cons trivial (okH.nil (fun r h => by cases h; exact hlt366)))) ?_
        obtain ⟨x369, hx370, h371⟩ := bindS h362
        refine O.callv (V := V194) Z Z (.inr ⟨_, _, _, Z, Z, ((L 9 Z Z).trans (cB g349))⟩) Z (L 8 Z Z) en31 (aC (L 4 Z Z) (aC (L 0 Z Z) aN)) (wk_flow_Spans_c1 V194 _ x351 x360 ow196 _ hx370) (fun v372 V373 le374 hp375 => by obtain ⟨rfl, ow376⟩ := hp375; exact (fun _ => (okH.cons (Or.inl Z) (okH.cons (Or.inl Z) (okH.nil (fun r h => nomatch h)))))) (fun v372 V373 le374 hp375 => ?_)
        obtain ⟨rfl, ow376⟩ := hp375
        refine U.p Z Z (.inr ⟨_, _, _, Z, Z, ((L 10 Z Z).trans (cB g349))⟩) (S.lss Z (L 0 Z Z) K) ?_
        refine U.p Z Z (.inl Z) (S.pickT Z ((L 11 Z Z).trans (cB g349)) (L 0 Z Z)) ?_
        refine U.done (nr Z) ?_
        refine sqN ?_
        exact ⟨_, V373, Z, ⟨decide (x369 < 0), Z, le374, ow376, h371⟩, (allCons (L 16 Z Z) (allCons (L 17 Z Z) (allCons (L 18 Z Z) (allCons (L 19 Z Z) (allCons (L 20 Z Z) (allCons (L 0 Z Z) allNil))))))⟩
       ·have h377 := ifF g349 h201
        refine U.x Z Z Z Z ((L 0 Z Z).trans (cB g349)) (by decide) ?_
        refine U.x Z Z Z Z ((L 1 Z Z).trans (cB g349)) (by decide) ?_
        refine U.x Z Z Z Z ((L 2 Z Z).trans (cB g349)) (by decide) ?_
        refine U.x Z Z Z Z ((L 3 Z Z).trans (cB g349)) (by decide) ?_
        refine U.x Z Z Z Z ((L 4 Z Z).trans (cB g349)) (by decide) ?_
        refine U.x Z Z Z Z ((L 5 Z Z).trans (cB g349)) (by decide) ?_
        refine U.x Z Z Z Z ((L 6 Z Z).trans (cB g349)) (by decide) ?_
        refine U.x Z Z Z Z ((L 7 Z Z).trans (cB g349)) (by decide) ?_
        refine U.x Z Z Z Z ((L 8 Z Z).trans (cB g349)) (by decide) ?_
        refine U.x Z Z Z Z ((L 9 Z Z).trans (cB g349)) (by decide) ?_
        refine U.x Z Z Z Z ((L 10 Z Z).trans (cB g349)) (by decide) ?_
        refine U.p Z Z (.inl Z) (S.pickF Z ((L 11 Z Z).trans (cB g349)) K) ?_
        refine U.done (nr Z) ?_
        refine sqN ?_
        exact ⟨_, V194, Z, ⟨false, Z, (.refl _), ow196, h377⟩, (allCons (L 16 Z Z) (allCons (L 17 Z Z) (allCons (L 18 Z Z) (allCons (L 19 Z Z) (allCons (L 20 Z Z) (allCons (L 0 Z Z) allNil))))))⟩
   ·skip
    refine WP.udreg Z Z Z ?_
    refine U.p Z Z (.inl Z) (S.move Z (L 3 Z Z)) ?_
    refine U.p Z Z (.inl Z) (S.move Z (L 5 Z Z)) ?_
    refine U.p Z Z (.inl Z) (S.leq Z (L 1 Z Z) (L 0 Z Z)) ?_
    refine U.p Z Z (.inl Z) (S.move Z (L 0 Z Z)) ?_
    refine bcase (b := decide (x50 ≤ x70)) (fun g378 => ?_) (fun g378 => ?_)
    ·have h379 := ifT g378 h80
     refine U.p Z Z (.inr ⟨_, _, _, Z, Z, ((L 0 Z Z).trans (cB g378))⟩) (S.move Z (L 6 Z Z)) ?_
     refine U.p Z Z (.inr ⟨_, _, _, Z, Z, ((L 1 Z Z).trans (cB g378))⟩) (S.move Z (L 5 Z Z)) ?_
     refine U.p Z Z (.inr ⟨_, _, _, Z, Z, ((L 2 Z Z).trans (cB g378))⟩) (S.move Z (L 10 Z Z)) ?_
     obtain ⟨x380, hx381, h382⟩ := bindS h379
     obtain ⟨_, hv383, _⟩ := ow75.osel (k := 0) Z hv10 hx381
     refine U.p Z Z (.inr ⟨_, _, _, Z, Z, ((L 3 Z Z).trans (cB g378))⟩) (S.index Z ((L 1 Z Z).trans hv383) (L 0 Z Z) Try.underlying44 ti49 (ix_ge hx381) (ix_lt hx381)) ?_
     obtain ⟨cs384, hv385, hlt386, hr387, hc388⟩ := ow75.osel (k := 0) Z hv10 hx381
     obtain rfl : cs384 = [.int .i64 x380.reg, .int .i64 x380.from_, .int .i64 x380.to_] := hr387
     refine U.k Z Z (.inr ⟨_, _, _, Z, Z, ((L 4 Z Z).trans (cB g378))⟩) (S.loadN (cs := [.int .i64 x380.reg, .int .i64 x380.from_, .int .i64 x380.to_]) Z (L 0 Z Z) Try.underlying49 Z ti49 Z hc388) (fun _ => (okH.nil (fun r h => by cases h; exact hlt386))) ?_
     refine U.p Z Z (.inr ⟨_, _, _, Z, Z, ((L 5 Z Z).trans (cB g378))⟩) (S.move Z (L 9 Z Z)) ?_
     refine U.p Z Z (.inr ⟨_, _, _, Z, Z, ((L 6 Z Z).trans (cB g378))⟩) (S.move Z (L 11 Z Z)) ?_
     obtain ⟨x389, hx390, h391⟩ := bindS h382
     obtain ⟨_, hv392, _⟩ := ow75.osel (k := 0) Z hv10 hx390
     refine U.p Z Z (.inr ⟨_, _, _, Z, Z, ((L 7 Z Z).trans (cB g378))⟩) (S.index Z ((L 1 Z Z).trans hv392) (L 0 Z Z) Try.underlying44 ti49 (ix_ge hx390) (ix_lt hx390)) ?_
     obtain ⟨cs393, hv394, hlt395, hr396, hc397⟩ := ow75.osel (k := 0) Z hv10 hx390
     obtain rfl : cs393 = [.int .i64 x389.reg, .int .i64 x389.from_, .int .i64 x389.to_] := hr396
     refine U.k Z Z (.inr ⟨_, _, _, Z, Z, ((L 8 Z Z).trans (cB g378))⟩) (S.loadN (cs := [.int .i64 x389.reg, .int .i64 x389.from_, .int .i64 x389.to_]) Z (L 0 Z Z) Try.underlying49 Z ti49 Z hc397) (fun _ => (okH.cons trivial (okH.nil (fun r h => by cases h; exact hlt395)))) ?_
     obtain ⟨x398, hx399, h400⟩ := bindS h391
     refine O.callv (V := V73) Z Z (.inr ⟨_, _, _, Z, Z, ((L 9 Z Z).trans (cB g378))⟩) Z (L 8 Z Z) en31 (aC (L 4 Z Z) (aC (L 0 Z Z) aN)) (wk_flow_Spans_c1 V73 _ x380 x389 ow75 _ hx399) (fun v401 V402 le403 hp404 => by obtain ⟨rfl, ow405⟩ := hp404; exact (fun _ => (okH.cons (Or.inl Z) (okH.cons (Or.inl Z) (okH.nil (fun r h => nomatch h)))))) (fun v401 V402 le403 hp404 => ?_)
     obtain ⟨rfl, ow405⟩ := hp404
     refine U.p Z Z (.inr ⟨_, _, _, Z, Z, ((L 10 Z Z).trans (cB g378))⟩) (S.lss Z (L 0 Z Z) K) ?_
     refine U.p Z Z (.inr ⟨_, _, _, Z, Z, ((L 11 Z Z).trans (cB g378))⟩) (S.not Z (L 0 Z Z)) ?_
     refine U.p Z Z (.inl Z) (S.pickT Z ((L 12 Z Z).trans (cB g378)) (L 0 Z Z)) ?_
     refine U.done (nr Z) ?_
     refine sqN ?_
     exact ⟨_, V402, Z, ⟨!(decide (x398 < 0)), Z, le403, ow405, h400⟩, (allCons (L 17 Z Z) (allCons (L 18 Z Z) (allCons (L 19 Z Z) (allCons (L 20 Z Z) (allCons (L 21 Z Z) (allCons (L 0 Z Z) allNil))))))⟩
    ·have h406 := ifF g378 h80
     refine U.x Z Z Z Z ((L 0 Z Z).trans (cB g378)) (by decide) ?_
     refine U.x Z Z Z Z ((L 1 Z Z).trans (cB g378)) (by decide) ?_
     refine U.x Z Z Z Z ((L 2 Z Z).trans (cB g378)) (by decide) ?_
     refine U.x Z Z Z Z ((L 3 Z Z).trans (cB g378)) (by decide) ?_
     refine U.x Z Z Z Z ((L 4 Z Z).trans (cB g378)) (by decide) ?_
     refine U.x Z Z Z Z ((L 5 Z Z).trans (cB g378)) (by decide) ?_
     refine U.x Z Z Z Z ((L 6 Z Z).trans (cB g378)) (by decide) ?_
     refine U.x Z Z Z Z ((L 7 Z Z).trans (cB g378)) (by decide) ?_
     refine U.x Z Z Z Z ((L 8 Z Z).trans (cB g378)) (by decide) ?_
     refine U.x Z Z Z Z ((L 9 Z Z).trans (cB g378)) (by decide) ?_
     refine U.x Z Z Z Z ((L 10 Z Z).trans (cB g378)) (by decide) ?_
     refine U.x Z Z Z Z ((L 11 Z Z).trans (cB g378)) (by decide) ?_
     refine U.p Z Z (.inl Z) (S.pickF Z ((L 12 Z Z).trans (cB g378)) K) ?_
     refine U.done (nr Z) ?_
     refine sqN ?_
     exact ⟨_, V73, Z, ⟨false, Z, (.refl _), ow75, h406⟩, (allCons (L 17 Z Z) (allCons (L 18 Z Z) (allCons (L 19 Z Z) (allCons (L 20 Z Z) (allCons (L 21 Z Z) (allCons (L 0 Z Z) allNil))))))⟩
 ·skip
  refine WP.udreg Z Z Z ?_
  refine U.p Z Z (.inl Z) (S.move Z (L 3 Z Z)) ?_
  refine U.p Z Z (.inl Z) (S.move Z (L 5 Z Z)) ?_
  refine U.p Z Z (.inl Z) (S.leq Z (L 1 Z Z) (L 0 Z Z)) ?_
  refine U.p Z Z (.inl Z) (S.move Z (L 0 Z Z)) ?_
  refine bcase (b := decide (x50 ≤ (w64 (p2 - 1)))) (fun g407 => ?_) (fun g407 => ?_)
  ·have h408 := ifT g407 h60
   refine U.p Z Z (.inr ⟨_, _, _, Z, Z, ((L 0 Z Z).trans (cB g407))⟩) (S.move Z (L 6 Z Z)) ?_
   refine U.p Z Z (.inr ⟨_, _, _, Z, Z, ((L 1 Z Z).trans (cB g407))⟩) (S.move Z (L 5 Z Z)) ?_
   refine U.p Z Z (.inr ⟨_, _, _, Z, Z, ((L 2 Z Z).trans (cB g407))⟩) (S.move Z (L 9 Z Z)) ?_
   obtain ⟨x409, hx410, h411⟩ := bindS h408
   obtain ⟨_, hv412, _⟩ := ow55.osel (k := 0) Z hv10 hx410
   refine U.p Z Z (.inr ⟨_, _, _, Z, Z, ((L 3 Z Z).trans (cB g407))⟩) (S.index Z ((L 1 Z Z).trans hv412) (L 0 Z Z) Try.underlying44 ti49 (ix_ge hx410) (ix_lt hx410)) ?_
   obtain ⟨cs413, hv414, hlt415, hr416, hc417⟩ := ow55.osel (k := 0) Z hv10 hx410
   obtain rfl : cs413 = [.int .i64 x409.reg, .int .i64 x409.from_, .int .i64 x409.to_] := hr416
   refine U.k Z Z (.inr ⟨_, _, _, Z, Z, ((L 4 Z Z).trans (cB g407))⟩) (S.loadN (cs := [.int .i64 x409.reg, .int .i64 x409.from_, .int .i64 x409.to_]) Z (L 0 Z Z) Try.underlying49 Z ti49 Z hc417) (fun _ => (okH.nil (fun r h => by cases h; exact hlt415))) ?_
   refine U.p Z Z (.inr ⟨_, _, _, Z, Z, ((L 5 Z Z).trans (cB g407))⟩) (S.move Z (L 9 Z Z)) ?_
   refine U.p Z Z (.inr ⟨_, _, _, Z, Z, ((L 6 Z Z).trans (cB g407))⟩) (S.move Z (L 11 Z Z)) ?_
   obtain ⟨x418, hx419, h420⟩ := bindS h411
   obtain ⟨_, hv421, _⟩ := ow55.osel (k := 0) Z hv10 hx419
   refine U.p Z Z (.inr ⟨_, _, _, Z, Z, ((L 7 Z Z).trans (cB g407))⟩) (S.index Z ((L 1 Z Z).trans hv421) (L 0 Z Z) Try.underlying44 ti49 (ix_ge hx419) (ix_lt hx419)) ?_
   obtain ⟨cs422, hv423, hlt424, hr425, hc426⟩ := ow55.osel (k := 0) Z hv10 hx419
   obtain rfl : cs422 = [.int .i64 x418.reg, .int .i64 x418.from_, .int .i64 x418.to_] := hr425
   refine U.k Z Z (.inr ⟨_, _, _, Z, Z, ((L 8 Z Z).trans (cB g407))⟩) (S.loadN (cs := [.int .i64 x418.reg, .int .i64 x418.from_, .int .i64 x418.to_]) Z (L 0 Z Z) Try.underlying49 Z ti49 Z hc426) (fun _ => (okH.cons trivial (okH.nil (fun r h => by cases h; exact hlt424)))) ?_
   obtain ⟨x427, hx428, h429⟩ := bindS h420
   refine O.callv (V := V53) Z Z (.inr ⟨_, _, _, Z, Z, ((L 9 Z Z).trans (cB g407))⟩) Z (L 8 Z Z) en31 (aC (L 4 Z Z) (aC (L 0 Z Z) aN)) (wk_flow_Spans_c1 V53 _ x409 x418 ow55 _ hx428) (fun v430 V431 le432 hp433 => by obtain ⟨rfl, ow434⟩ := hp433; exact (fun _ => (okH.cons (Or.inl Z) (okH.cons (Or.inl Z) (okH.nil (fun r h => nomatch h)))))) (fun v430 V431 le432 hp433 => ?_)
   obtain ⟨rfl, ow434⟩ := hp433
   refine U.p Z Z (.inr ⟨_, _, _, Z, Z, ((L 10 Z Z).trans (cB g407))⟩) (S.lss Z (L 0 Z Z) K) ?_
   refine U.p Z Z (.inl Z) (S.pickT Z ((L 11 Z Z).trans (cB g407)) (L 0 Z Z)) ?_
   refine U.done (nr Z) ?_
   refine sqN ?_
   exact ⟨_, V431, Z, ⟨decide (x427 < 0), Z, le432, ow434, h429⟩, (allCons (L 16 Z Z) (allCons (L 17 Z Z) (allCons (L 18 Z Z) (allCons (L 19 Z Z) (allCons (L 20 Z Z) (allCons (L 0 Z Z) allNil))))))⟩
  ·have h435 := ifF g407 h60
   refine U.x Z Z Z Z ((L 0 Z Z).trans (cB g407)) (by decide) ?_
   refine U.x Z Z Z Z ((L 1 Z Z).trans (cB g407)) (by decide) ?_
   refine U.x Z Z Z Z ((L 2 Z Z).trans (cB g407)) (by decide) ?_
   refine U.x Z Z Z Z ((L 3 Z Z).trans (cB g407)) (by decide) ?_
   refine U.x Z Z Z Z ((L 4 Z Z).trans (cB g407)) (by decide) ?_
   refine U.x Z Z Z Z ((L 5 Z Z).trans (cB g407)) (by decide) ?_
   refine U.x Z Z Z Z ((L 6 Z Z).trans (cB g407)) (by decide) ?_
   refine U.x Z Z Z Z ((L 7 Z Z).trans (cB g407)) (by decide) ?_
   refine U.x Z Z Z Z ((L 8 Z Z).trans (cB g407)) (by decide) ?_
   refine U.x Z Z Z Z ((L 9 Z Z).trans (cB g407)) (by decide) ?_
   refine U.x Z Z Z Z ((L 10 Z Z).trans (cB g407)) (by decide) ?_
   refine U.p Z Z (.inl Z) (S.pickF Z ((L 11 Z Z).trans (cB g407)) K) ?_
   refine U.done (nr Z) ?_
   refine sqN ?_
   exact ⟨_, V53, Z, ⟨false, Z, (.refl _), ow55, h435⟩, (allCons (L 16 Z Z) (allCons (L 17 Z Z) (allCons (L 18 Z Z) (allCons (L 19 Z Z) (allCons (L 20 Z Z) (allCons (L 0 Z Z) allNil))))))⟩
theorem wk_slices_nextPowerOfTwo (V : Vw) (Rs : List At) (p0 : Int) (ow : Ow V (Rs)) (r : Int) (h : slices_nextPowerOfTwo p0 = some r) : ∃ v V', Cl Try.prog 0 62 #[.int .i64 p0] V.H v V'.H ∧ V.le V' ∧ (v = .int .u64 r ∧ Ow V' (Rs)) := by
 refine Ct.of (Nat.zero_le _) Try.func62 Z (nr Z) ?_
 unfold slices_nextPowerOfTwo at h
 refine WP.usreg Z ?_
 refine U.p Z Z (.inl Z) (S.assign Z K) ?_
 refine U.done (nr Z) ?_
 refine WP.usreg Z ?_
 refine U.p Z Z (.inl Z) (S.move Z (L 1 Z Z)) ?_
 refine U.p Z Z (.inl Z) (S.conv Z (L 0 Z Z) Try.underlying3 Try.underlying83) ?_
 obtain ⟨x1, hx2, h3⟩ := bindS h
 refine O.call (V := V) Z Z (.inl Z) Z en45 (aC (L 0 Z Z) aN) (wk_math_bits_Len V _ (IntKind.wrap .u64 p0) ow _ hx2) (fun _ _ _ _ => nd) (fun v4 V5 le6 hp7 => ?_)
 obtain ⟨rfl, ow8⟩ := hp7
 obtain ⟨x9, hx10, h11⟩ := bindS h3
 refine U.p Z Z (.inl Z) (S.shl hx10 Z K (L 0 Z Z)) ?_
 refine U.p Z Z (.inl Z) (S.assign Z (L 0 Z Z)) ?_
 refine U.done (nr Z) ?_
 refine WP.ret ?_
 refine fin.slot (.inr Z) Z (L 0 Z Z) ⟨V5, Z, le6, ?_⟩
 have e12 := Option.some.inj h11
 subst e12
 exact ⟨rfl, ow8⟩
theorem wk_slices_xorshift_Next (V : Vw) (Rs : List At) (p0 : Int) (b1 : Nat) (z2 : Nat) (ow : Ow V (.pt b1 (.cells z2 [.int .u64 p0]) :: Rs)) (r : Int × Int) (h : slices_xorshift_Next p0 = some r) : ∃ v V', Cl Try.prog 0 63 #[.pointer (some ⟨b1, 0, none⟩)] V.H v V'.H ∧ V.le V' ∧ (v = .int .u64 r.1 ∧ Ow V' (.pt b1 (.cells z2 [.int .u64 r.2]) :: Rs)) := by
 refine Ct.of (Nat.zero_le _) Try.func63 Z (nr Z) ?_
 unfold slices_xorshift_Next at h
 refine WP.usreg Z ?_
 refine U.p Z Z (.inl Z) (S.assign Z K) ?_
 refine U.done (nr Z) ?_
 refine WP.usdreg Z Z Z ?_
 refine U.p Z Z (.inl Z) (S.move Z (L 1 Z Z)) ?_
 refine U.p Z Z (.inl Z) (S.nilCheck Z (L 0 Z Z)) ?_
 refine U.k Z Z (.inl Z) (S.loadC Z (L 0 Z Z) Try.underlying99 Z ((ow.own (k := 0) Z).cell Z)) (fun _ => (okH.nil (fun r h => by cases h; exact (ow.own (k := 0) Z).lt))) ?_
 refine U.p Z Z (.inl Z) (S.move Z (L 4 Z Z)) ?_
 refine U.p Z Z (.inl Z) (S.nilCheck Z (L 0 Z Z)) ?_
 refine U.k Z Z (.inl Z) (S.loadC Z (L 0 Z Z) Try.underlying99 Z ((ow.own (k := 0) Z).cell Z)) (fun _ => (okH.cons trivial (okH.nil (fun r h => by cases h; exact (ow.own (k := 0) Z).lt)))) ?_
 obtain ⟨x4, hx5, h6⟩ := bindS h
 refine U.p Z Z (.inl Z) (S.shl hx5 Z (L 0 Z Z) K) ?_
 refine U.p Z Z (.inl Z) (S.xorI Z (L 4 Z Z) (L 0 Z Z)) ?_
 refine U.p Z Z (.inl Z) (S.nilCheck Z (L 7 Z Z)) ?_
 refine O.store (k := 0) (cs := [.int .u64 (xorB .u64 p0 x4)]) (c' := [.int .u64 (xorB .u64 p0 x4)]) ow Z Z Z (.inl Z) Z (L 0 Z Z) (L 1 Z Z) ti99 (by simp [topV]) Z Z (nr Z) Z Z (fun _ => (okH.cons (Or.inl Z) (okH.cons (Or.inl Z) (okH.nil (fun r h => nomatch h))))) (fun V7 le8 ow9 => ?_)
 refine U.done (nr Z) ?_
 refine WP.usdreg Z Z Z ?_
 refine U.p Z Z (.inl Z) (S.move Z (L 10 Z Z)) ?_
 refine U.p Z Z (.inl Z) (S.nilCheck Z (L 0 Z Z)) ?_
 refine U.k Z Z (.inl Z) (S.loadC Z (L 0 Z Z) Try.underlying99 Z ((ow9.own (k := 0) Z).cell Z)) (fun _ => (okH.nil (fun r h => by cases h; exact (ow9.own (k := 0) Z).lt))) ?_
 refine U.p Z Z (.inl Z) (S.move Z (L 13 Z Z)) ?_
 refine U.p Z Z (.inl Z) (S.nilCheck Z (L 0 Z Z)) ?_
 refine U.k Z Z (.inl Z) (S.loadC Z (L 0 Z Z) Try.underlying99 Z ((ow9.own (k := 0) Z).cell Z)) (fun _ => (okH.cons trivial (okH.nil (fun r h => by cases h; exact (ow9.own (k := 0) Z).lt)))) ?_
 obtain ⟨x10, hx11, h12⟩ := bindS h6
 refine U.p Z Z (.inl Z) (S.shr hx11 Z (L 0 Z Z) K) ?_
 refine U.p Z Z (.inl Z) (S.xorI Z (L 4 Z Z) (L 0 Z Z)) ?_
 refine U.p Z Z (.inl Z) (S.nilCheck Z (L 7 Z Z)) ?_
 refine O.store (k := 0) (cs := [.int .u64 (xorB .u64 (xorB .u64 p0 x4) x10)]) (c' := [.int .u64 (xorB .u64 (xorB .u64 p0 x4) x10)]) ow9 Z Z Z (.inl Z) Z (L 0 Z Z) (L 1 Z Z) ti99 (by simp [topV]) Z Z (nr Z) Z Z (fun _ => (okH.cons (Or.inl Z) (okH.cons (Or.inl Z) (okH.nil (fun r h => nomatch h))))) (fun V13 le14 ow15 => ?_)
 refine U.done (nr Z) ?_
 refine WP.usdreg Z Z Z ?_
 refine U.p Z Z (.inl Z) (S.move Z (L 19 Z Z)) ?_
 refine U.p Z Z (.inl Z) (S.nilCheck Z (L 0 Z Z)) ?_
 refine U.k Z Z (.inl Z) (S.loadC Z (L 0 Z Z) Try.underlying99 Z ((ow15.own (k := 0) Z).cell Z)) (fun _ => (okH.nil (fun r h => by cases h; exact (ow15.own (k := 0) Z).lt))) ?_
 refine U.p Z Z (.inl Z) (S.move Z (L 22 Z Z)) ?_
 refine U.p Z Z (.inl Z) (S.nilCheck Z (L 0 Z Z)) ?_
 refine U.k Z Z (.inl Z) (S.loadC Z (L 0 Z Z) Try.underlying99 Z ((ow15.own (k := 0) Z).cell Z)) (fun _ => (okH.cons trivial (okH.nil (fun r h => by cases h; exact (ow15.own (k := 0) Z).lt)))) ?_
 obtain ⟨x16, hx17, h18⟩ := bindS h12
 refine U.p Z Z (.inl Z) (S.shl hx17 Z (L 0 Z Z) K) ?_
 refine U.p Z Z (.inl Z) (S.xorI Z (L 4 Z Z) (L 0 Z Z)) ?_
 refine U.p Z Z (.inl Z) (S.nilCheck Z (L 7 Z Z)) ?_
 refine O.store (k := 0) (cs := [.int .u64 (xorB .u64 (xorB .u64 (xorB .u64 p0 x4) x10) x16)]) (c' := [.int .u64 (xorB .u64 (xorB .u64 (xorB .u64 p0 x4) x10) x16)]) ow15 Z Z Z (.inl Z) Z (L 0 Z Z) (L 1 Z Z) ti99 (by simp [topV]) Z Z (nr Z) Z Z (fun _ => (okH.cons (Or.inl Z) (okH.cons (Or.inl Z) (okH.nil (fun r h => nomatch h))))) (fun V19 le20 ow21 => ?_)
 refine U.done (nr Z) ?_
 refine WP.usreg Z ?_
 refine U.p Z Z (.inl Z) (S.move Z (L 28 Z Z)) ?_
 refine U.p Z Z (.inl Z) (S.nilCheck Z (L 0 Z Z)) ?_
 refine U.k Z Z (.inl Z) (S.load Z (L 0 Z Z) Try.underlying99 Z ((ow21.own (k := 0) Z).cell Z)) nd ?_
 refine U.p Z Z (.inl Z) (S.assign Z (L 0 Z Z)) ?_
 refine U.done (nr Z) ?_
 refine WP.ret ?_
 refine fin.slot (.inr Z) Z (L 0 Z Z) ⟨V19, Z, ((le8.trans le14).trans le20), ?_⟩
 have e22 := Option.some.inj h18
 subst e22
 exact ⟨rfl, ow21⟩
theorem wk_s_breakPatterns (V : Vw) (Rs : List At) (p0 : List Tflow_Span) (p1 : Int) (p2 : Int) (v1 : Value) (ow : Ow V (.os RT_Tflow_Span v1 p0 :: Rs)) (r : List Tflow_Span) (h : s_breakPatterns p0 p1 p2 = some r) : ∃ v V', Cl Try.prog 0 51 #[v1, .int .i64 p1, .int .i64 p2, .func (.func 31) #[] #[]] V.H v V'.H ∧ V.le V' ∧ (Ow V' (.os RT_Tflow_Span v1 r :: Rs)) := by
 refine Ct.of (Nat.zero_le _) Try.func51 Z (nr Z) ?_
 unfold s_breakPatterns at h
 refine WP.usreg Z ?_
 refine U.p Z Z (.inl Z) (S.move Z (L 2 Z Z)) ?_
 refine U.p Z Z (.inl Z) (S.move Z (L 2 Z Z)) ?_
 refine U.p Z Z (.inl Z) (S.sub Z (L 1 Z Z) (L 0 Z Z)) ?_
 refine U.p Z Z (.inl Z) (S.assign Z (L 0 Z Z)) ?_
 refine U.done (nr Z) ?_
 refine WP.usreg Z ?_
 refine U.p Z Z (.inl Z) (S.move Z (L 0 Z Z)) ?_
 refine U.p Z Z (.inl Z) (S.geq Z (L 0 Z Z) K) ?_
 refine U.done (nr Z) ?_
 refine WP.cond _ (L 0 Z Z) Z (fun c3 => ?_) (fun c3 => ?_)
 ·have h4 := ifT c3 h
  refine WP.usreg Z ?_
  refine U.p Z Z (.inl Z) (S.move Z (L 2 Z Z)) ?_
  refine U.p Z Z (.inl Z) (S.conv Z (L 0 Z Z) Try.underlying3 Try.underlying99) ?_
  refine O.alloc ow Z Z (.inl Z) Z ti99 Z Z nd (fun b5 V6 le7 ow8 => ?_)
  refine O.store (k := 0) (cs := [.int .u64 (IntKind.wrap .u64 (w64 (p2 - p1)))]) (c' := [.int .u64 (IntKind.wrap .u64 (w64 (p2 - p1)))]) ow8 Z Z Z (.inl Z) Z (L 0 Z Z) (L 1 Z Z) ti99 (by simp [topV]) Z Z (nr Z) Z Z nd (fun V10 le11 ow12 => ?_)
  refine U.done (nr Z) ?_
  refine WP.usreg Z ?_
  refine U.p Z Z (.inl Z) (S.move Z (L 5 Z Z)) ?_
  obtain ⟨x13, hx14, h15⟩ := bindS h4
  refine O.call (V := V10) Z Z (.inl Z) Z en62 (aC (L 0 Z Z) aN) (wk_slices_nextPowerOfTwo V10 _ (w64 (p2 - p1)) ow12 _ hx14) (fun _ _ _ _ => nd) (fun v16 V17 le18 hp19 => ?_)
  obtain ⟨rfl, ow20⟩ := hp19
  refine U.p Z Z (.inl Z) (S.assign Z (L 0 Z Z)) ?_
  refine U.done (nr Z) ?_
  refine WP.usreg Z ?_
  refine U.p Z Z (.inl Z) (S.move Z (L 13 Z Z)) ?_
  refine U.p Z Z (.inl Z) (S.move Z (L 9 Z Z)) ?_
  obtain ⟨x21, hx22, h23⟩ := bindS h15
  refine U.p Z Z (.inl Z) (S.quo hx22 Z (L 0 Z Z) K) ?_
  refine U.p Z Z (.inl Z) (S.mul Z (L 0 Z Z) K) ?_
  refine U.p Z Z (.inl Z) (S.add Z (L 3 Z Z) (L 0 Z Z)) ?_
  refine U.p Z Z (.inl Z) (S.sub Z (L 0 Z Z) K) ?_
  refine U.p Z Z (.inl Z) (S.assign Z (L 0 Z Z)) ?_
  refine U.done (nr Z) ?_
  refine WP.blk ?_
  have ow27 := ow20.pick 0 Z
  have ow28 := ow27.pick 1 Z
  unfold s_breakPatterns_l1 at h23
  obtain ⟨n30, hn29⟩ := loopO_some.1 h23
  refine WP.loopI2 (fun n l V' => ∃ (xs24 : List Tflow_Span) (x25 : Int) (x26 : Int), l = [(0, v1), (1, .int .i64 p1), (8, .int .i64 (w64 (p2 - p1))), (9, .pointer (some ⟨b5, 0, none⟩)), (10, .int .u64 x13), (11, .int .i64 x26)] ∧ V17.le V' ∧ Ow V' (.os RT_Tflow_Span v1 xs24 :: .pt b5 (.cells 1 [.int .u64 x25]) :: Rs) ∧ itO (fun s => s_breakPatterns_l1b p1 p2 x13 s.1 s.2.1 s.2.2) n (xs24, x25, x26) = some r) n30 _ ⟨p0, IntKind.wrap .u64 (w64 (p2 - p1)), w64 ((w64 (p1 + (w64 (x21 * 2)))) - 1), Z, .refl _, ow28, hn29⟩ (allCons (L 19 Z Z) (allCons (L 20 Z Z) (allCons (L 15 Z Z) (allCons (L 10 Z Z) (allCons (L 7 Z Z) (allCons (L 0 Z Z) allNil)))))) ?_
  rintro _ _ V31 ⟨xs24, x25, x26, rfl, le32, ow33, h37⟩
  obtain ⟨m34, q35, rfl, h38, e36⟩ := itS h37
  replace h38 : s_breakPatterns_l1b p1 p2 x13 xs24 x25 x26 = some q35 := h38
  unfold s_breakPatterns_l1b at h38
  refine WP.seq ?_
  refine WP.usreg Z ?_
  refine U.p Z Z (.inl Z) (S.move Z (L 5 Z Z)) ?_
  refine U.p Z Z (.inl Z) (S.move Z (L 2 Z Z)) ?_
  refine U.p Z Z (.inl Z) (S.move Z (L 4 Z Z)) ?_
  obtain ⟨x39, hx40, h41⟩ := bindS h38
  refine U.p Z Z (.inl Z) (S.quo hx40 Z (L 0 Z Z) K) ?_
  refine U.p Z Z (.inl Z) (S.mul Z (L 0 Z Z) K) ?_
  refine U.p Z Z (.inl Z) (S.add Z (L 3 Z Z) (L 0 Z Z)) ?_
  refine U.p Z Z (.inl Z) (S.add Z (L 0 Z Z) K) ?_
  refine U.p Z Z (.inl Z) (S.leq Z (L 6 Z Z) (L 0 Z Z)) ?_
  refine U.done (nr Z) ?_
  refine WP.cond _ (L 0 Z Z) Z (fun c42 => ?_) (fun c42 => ?_)
  ·have h43 := ifT c42 h41
   refine WP.skip ?_
   refine sqN ?_
   refine WP.seq ?_
   refine WP.blk ?_
   refine WP.usreg Z ?_
   have ow44 := ow33.pick 1 Z
   obtain ⟨x45, hx46, h47⟩ := bindS h43
   refine O.call (V := V31) Z Z (.inl Z) Z en63 (aC (L 11 Z Z) aN) (wk_slices_xorshift_Next V31 _ x25 b5 1 ow44 _ hx46) (fun _ _ _ _ => nd) (fun v48 V49 le50 hp51 => ?_)
   obtain ⟨rfl, ow52⟩ := hp51
   refine U.p Z Z (.inl Z) (S.move Z (L 13 Z Z)) ?_
   refine U.p Z Z (.inl Z) (S.sub Z (L 0 Z Z) K) ?_
   refine U.p Z Z (.inl Z) (S.andI Z (L 2 Z Z) (L 0 Z Z)) ?_
   refine U.p Z Z (.inl Z) (S.conv Z (L 0 Z Z) Try.underlying83 Try.underlying3) ?_
   refine U.p Z Z (.inl Z) (S.assign Z (L 0 Z Z)) ?_
   refine U.done (nr Z) ?_
   refine WP.seqI (fun l V' => ∃ (x53 : Int), l = [(0, v1), (1, .int .i64 p1), (8, .int .i64 (w64 (p2 - p1))), (9, .pointer (some ⟨b5, 0, none⟩)), (10, .int .u64 x13), (11, .int .i64 x26), (12, .int .i64 x53)] ∧ V49.le V' ∧ Ow V' (.os RT_Tflow_Span v1 xs24 :: .pt b5 (.cells 1 [.int .u64 x45.2]) :: Rs) ∧ s_breakPatterns_k1 p1 xs24 x26 x45 x53 = some q35) ?_ ?_
   ·rintro _ V54 ⟨x53, rfl, le55, ow56, h57⟩
    unfold s_breakPatterns_k1 at h57
    refine WP.udreg Z Z Z ?_
    refine U.p Z Z (.inl Z) (S.move Z (L 0 Z Z)) ?_
    refine U.p Z Z (.inl Z) (S.move Z (L 6 Z Z)) ?_
    refine U.p Z Z (.inl Z) (S.move Z (L 2 Z Z)) ?_
    refine U.p Z Z (.inl Z) (S.move Z (L 4 Z Z)) ?_
    refine U.p Z Z (.inl Z) (S.move Z (L 10 Z Z)) ?_
    refine U.p Z Z (.inl Z) (S.add Z (L 1 Z Z) (L 0 Z Z)) ?_
    refine U.p Z Z (.inl Z) (S.move Z (L 6 Z Z)) ?_
    refine U.p Z Z (.inl Z) (S.move Z (L 8 Z Z)) ?_
    refine U.p Z Z (.inl Z) (S.move Z (L 14 Z Z)) ?_
    refine U.p Z Z (.inl Z) (S.add Z (L 1 Z Z) (L 0 Z Z)) ?_
    obtain ⟨x58, hx59, h60⟩ := bindS h57
    obtain ⟨b61, o62, n63, c64, hv65⟩ := ow56.ospt (k := 0) Z hx59
    obtain ⟨_, hv66, _⟩ := ow56.osel (k := 0) Z hv65 hx59
    refine U.p Z Z (.inl Z) (S.index Z ((L 3 Z Z).trans hv66) (L 0 Z Z) Try.underlying44 ti49 (ix_ge hx59) (ix_lt hx59)) ?_
    obtain ⟨cs67, hv68, hlt69, hr70, hc71⟩ := ow56.osel (k := 0) Z hv65 hx59
    obtain rfl : cs67 = [.int .i64 x58.reg, .int .i64 x58.from_, .int .i64 x58.to_] := hr70
    refine U.k Z Z (.inl Z) (S.loadN (cs := [.int .i64 x58.reg, .int .i64 x58.from_, .int .i64 x58.to_]) Z (L 0 Z Z) Try.underlying49 Z ti49 Z hc71) (fun _ => (okH.nil (fun r h => by cases h; exact hlt69))) ?_
    refine U.p Z Z (.inl Z) (S.move Z (L 12 Z Z)) ?_
    refine U.p Z Z (.inl Z) (S.move Z (L 18 Z Z)) ?_
    obtain ⟨x72, hx73, h74⟩ := bindS h60
    obtain ⟨_, hv75, _⟩ := ow56.osel (k := 0) Z hv65 hx73
    refine U.p Z Z (.inl Z) (S.index Z ((L 1 Z Z).trans hv75) (L 0 Z Z) Try.underlying44 ti49 (ix_ge hx73) (ix_lt hx73)) ?_
    obtain ⟨cs76, hv77, hlt78, hr79, hc80⟩ := ow56.osel (k := 0) Z hv65 hx73
    obtain rfl : cs76 = [.int .i64 x72.reg, .int .i64 x72.from_, .int .i64 x72.to_] := hr79
    refine U.k Z Z (.inl Z) (S.loadN (cs := [.int .i64 x72.reg, .int .i64 x72.from_, .int .i64 x72.to_]) Z (L 0 Z Z) Try.underlying49 Z ti49 Z hc80) (fun _ => (okH.cons trivial (okH.nil (fun r h => by cases h; exact hlt78)))) ?_
    obtain ⟨x81, hx82, h83⟩ := bindS h74
    obtain ⟨_, hv84, _⟩ := ow56.osel (k := 0) Z hv65 hx82
    refine U.p Z Z (.inl Z) (S.index Z ((L 15 Z Z).trans hv84) (L 14 Z Z) Try.underlying44 ti49 (ix_ge hx82) (ix_lt hx82)) ?_
    obtain ⟨cs85, hv86, hlt87, hr88, hc89⟩ := ow56.osel (k := 0) Z hv65 hx82
    obtain rfl : cs85 = [.int .i64 x81.reg, .int .i64 x81.from_, .int .i64 x81.to_] := hr88
    refine O.storeE (k := 0) (R := RT_Tflow_Span) (j := 0) (y := x58) (cs := [.int .i64 x58.reg, .int .i64 x58.from_, .int .i64 x58.to_]) ow56 Z hv86 Z Z (.inl Z) Z (L 0 Z Z) (L 5 Z Z) ti49 hx82 (by simp [topV]) Z Z Z (full Z) (fun H1 hs => (fun _ => (okH.cons (Or.inl Z) (okH.cons (Or.inl Z) (okH.nil (fun r h => nomatch h)))))) (fun V90 le91 ow92 => ?_)
    obtain ⟨x93, hx94, h95⟩ := bindS h83
    obtain ⟨_, hv96, _⟩ := ow92.osel (k := 0) Z hv65 hx94
    refine U.p Z Z (.inl Z) (S.index Z ((L 14 Z Z).trans hv96) (L 11 Z Z) Try.underlying44 ti49 (ix_ge hx94) (ix_lt hx94)) ?_
    obtain ⟨cs97, hv98, hlt99, hr100, hc101⟩ := ow92.osel (k := 0) Z hv65 hx94
    obtain rfl : cs97 = [.int .i64 x93.reg, .int .i64 x93.from_, .int .i64 x93.to_] := hr100
    refine O.storeE (k := 0) (R := RT_Tflow_Span) (j := 0) (y := x72) (cs := [.int .i64 x72.reg, .int .i64 x72.from_, .int .i64 x72.to_]) ow92 Z hv98 Z Z (.inl Z) Z (L 0 Z Z) (L 2 Z Z) ti49 hx94 (by simp [topV]) Z Z Z (full Z) (fun H1 hs => (fun _ => (okH.cons Z (okH.cons (Or.inl Z) (okH.cons (Or.inl Z) (okH.nil (fun r h => nomatch h))))))) (fun V102 le103 ow104 => ?_)
    refine U.done (nr Z) ?_
    refine blkN (sqN ?_)
    refine WP.ureg Z ?_
    refine U.p Z Z (.inl Z) (S.move Z (L 23 Z Z)) ?_
    refine U.p Z Z (.inl Z) (S.add Z (L 0 Z Z) K) ?_
    refine U.p Z Z (.inl Z) (S.assign Z (L 0 Z Z)) ?_
    refine U.done (nr Z) ?_
    refine sqN ?_
    exact ⟨_, V102, Z, ⟨m34, Nat.lt_succ_self _, (xs24.set (Int.toNat x26) x58).set (Int.toNat (w64 (p1 + x53))) x72, x45.2, w64 (x26 + 1), Z, ((((le32.trans le50).trans le55).trans le91).trans le103), ow104, backS h95 e36⟩, (allCons (L 21 Z Z) (allCons (L 22 Z Z) (allCons (L 23 Z Z) (allCons (L 24 Z Z) (allCons (L 25 Z Z) (allCons (L 0 Z Z) allNil))))))⟩
   ·skip
    refine WP.usreg Z ?_
    refine U.p Z Z (.inl Z) (S.move Z (L 0 Z Z)) ?_
    refine U.p Z Z (.inl Z) (S.move Z (L 17 Z Z)) ?_
    refine U.p Z Z (.inl Z) (S.geq Z (L 1 Z Z) (L 0 Z Z)) ?_
    refine U.done (nr Z) ?_
    refine WP.cond _ (L 0 Z Z) Z (fun c105 => ?_) (fun c105 => ?_)
    ·have h106 := ifT c105 h47
     refine WP.ureg Z ?_
     refine U.p Z Z (.inl Z) (S.move Z (L 3 Z Z)) ?_
     refine U.p Z Z (.inl Z) (S.move Z (L 20 Z Z)) ?_
     refine U.p Z Z (.inl Z) (S.sub Z (L 1 Z Z) (L 0 Z Z)) ?_
     refine U.p Z Z (.inl Z) (S.assign Z (L 0 Z Z)) ?_
     refine U.done (nr Z) ?_
     refine sqN ?_
     have ow107 := ow52.pick 0 Z
     have ow108 := ow107.pick 1 Z
     exact ⟨_, V49, Z, ⟨w64 ((w64 (andB .u64 x45.1 (IntKind.wrap .u64 (x13 - 1)))) - (w64 (p2 - p1))), Z, (.refl _), ow108, h106⟩, (allCons (L 21 Z Z) (allCons (L 22 Z Z) (allCons (L 23 Z Z) (allCons (L 24 Z Z) (allCons (L 25 Z Z) (allCons (L 26 Z Z) (allCons (L 0 Z Z) allNil)))))))⟩
    ·have h109 := ifF c105 h47
     refine WP.skip ?_
     refine sqN ?_
     have ow110 := ow52.pick 0 Z
     have ow111 := ow110.pick 1 Z
     exact ⟨_, V49, Z, ⟨w64 (andB .u64 x45.1 (IntKind.wrap .u64 (x13 - 1))), Z, (.refl _), ow111, h109⟩, (allCons (L 17 Z Z) (allCons (L 18 Z Z) (allCons (L 19 Z Z) (allCons (L 20 Z Z) (allCons (L 21 Z Z) (allCons (L 22 Z Z) (allCons (L 3 Z Z) allNil)))))))⟩
  ·have h112 := ifF c42 h41
   refine WP.exit ?_
   refine sqE (sqE (blkE ?_))
   have h113 := exitS h112 e36
   refine fin.slots' (.inl Z) fsN Z ⟨V31, Z, (((le7.trans le11).trans le18).trans le32), ?_⟩
   have ow114 := ow33.drop 1 Z
   have e115 := Option.some.inj h113
   subst e115
   exact ow114
 ·have h116 := ifF c3 h
  refine WP.skip ?_
  refine fin.slots' (.inl Z) fsN Z ⟨V, Z, (.refl _), ?_⟩
  have e117 := Option.some.inj h116
  subst e117
  exact ow
theorem wks_s_pdqsort (rec_ : (List Tflow_Span) → Int → Int → Int → Option (List Tflow_Span)) (IH : ∀ (V : Vw) (Rs : List At) (p0 : List Tflow_Span) (p1 : Int) (p2 : Int) (p3 : Int) (v1 : Value) (ow : Ow V (.os RT_Tflow_Span v1 p0 :: Rs)) (r : List Tflow_Span) (h : rec_ p0 p1 p2 p3 = some r), ∃ v V', Cl Try.prog 0 44 #[v1, .int .i64 p1, .int .i64 p2, .int .i64 p3, .func (.func 31) #[] #[]] V.H v V'.H ∧ V.le V' ∧ (Ow V' (.os RT_Tflow_Span v1 r :: Rs))) (V : Vw) (Rs : List At) (p0 : List Tflow_Span) (p1 : Int) (p2 : Int) (p3 : Int) (v1 : Value) (ow : Ow V (.os RT_Tflow_Span v1 p0 :: Rs)) (r : List Tflow_Span) (h : s_pdqsort_F rec_ p0 p1 p2 p3 = some r) : ∃ v V', Cl Try.prog 0 44 #[v1, .int .i64 p1, .int .i64 p2, .int .i64 p3, .func (.func 31) #[] #[]] V.H v V'.H ∧ V.le V' ∧ (Ow V' (.os RT_Tflow_Span v1 r :: Rs)) := by
 refine Ct.of (Nat.zero_le _) Try.func44 Z (nr Z) ?_
 unfold s_pdqsort_F at h
 refine WP.usreg Z ?_
 refine U.p Z Z (.inl Z) (S.assign Z K) ?_
 refine U.done (nr Z) ?_
 refine WP.usreg Z ?_
 refine U.p Z Z (.inl Z) (S.assign Z K) ?_
 refine U.done (nr Z) ?_
 refine WP.blk ?_
 unfold s_pdqsort_l1 at h
 obtain ⟨n10, hn9⟩ := loopO_some.1 h
 refine WP.loopI2 (fun n l V' => ∃ (xs3 : List Tflow_Span) (x4 : Int) (x5 : Int) (x6 : Int) (x7 : Bool) (x8 : Bool), l = [(0, v1), (1, .int .i64 x4), (2, .int .i64 x5), (3, .int .i64 x6), (4, .func (.func 31) #[] #[]), (10, .bool x7), (11, .bool x8)] ∧ V.le V' ∧ Ow V' (.os RT_Tflow_Span v1 xs3 :: Rs) ∧ itO (fun s => s_pdqsort_l1b rec_ s.1 s.2.1 s.2.2.1 s.2.2.2.1 s.2.2.2.2.1 s.2.2.2.2.2) n (xs3, x4, x5, x6, x7, x8) = some r) n10 _ ⟨p0, p1, p2, p3, true, true, Z, .refl _, ow, hn9⟩ (allCons (L 2 Z Z) (allCons (L 3 Z Z) (allCons (L 4 Z Z) (allCons (L 5 Z Z) (allCons (L 6 Z Z) (allCons (L 1 Z Z) (allCons (L 0 Z Z) allNil))))))) ?_
 rintro _ _ V11 ⟨xs3, x4, x5, x6, x7, x8, rfl, le12, ow13, h17⟩
 obtain ⟨m14, q15, rfl, h18, e16⟩ := itS h17
 replace h18 : s_pdqsort_l1b rec_ xs3 x4 x5 x6 x7 x8 = some q15 := h18
 unfold s_pdqsort_l1b at h18
 refine WP.blk ?_
 refine WP.usreg Z ?_
 refine U.p Z Z (.inl Z) (S.move Z (L 2 Z Z)) ?_
 refine U.p Z Z (.inl Z) (S.move Z (L 2 Z Z)) ?_
 refine U.p Z Z (.inl Z) (S.sub Z (L 1 Z Z) (L 0 Z Z)) ?_
 refine U.p Z Z (.inl Z) (S.assign Z (L 0 Z Z)) ?_
 refine U.done (nr Z) ?_
 refine WP.seq ?_
 refine WP.usreg Z ?_
 refine U.p Z Z (.inl Z) (S.move Z (L 0 Z Z)) ?_
 refine U.p Z Z (.inl Z) (S.leq Z (L 0 Z Z) K) ?_
 refine U.done (nr Z) ?_
 refine WP.cond _ (L 0 Z Z) Z (fun c19 => ?_) (fun c19 => ?_)
 ·have h20 := ifT c19 h18
  refine WP.usreg Z ?_
  refine U.p Z Z (.inl Z) (S.move Z (L 6 Z Z)) ?_
  refine U.p Z Z (.inl Z) (S.move Z (L 8 Z Z)) ?_
  refine U.p Z Z (.inl Z) (S.move Z (L 10 Z Z)) ?_
  refine U.p Z Z (.inl Z) (S.move Z (L 13 Z Z)) ?_
  obtain ⟨x21, hx22, h23⟩ := bindS h20
  refine O.call (V := V11) Z Z (.inl Z) Z en49 (aC (L 3 Z Z) (aC (L 2 Z Z) (aC (L 1 Z Z) (aC (L 0 Z Z) aN)))) (wk_s_insertionSort V11 _ xs3 x4 x5 v1 ow13 _ hx22) (fun _ _ _ _ => nd) (fun v24 V25 le26 hp27 => ?_)
  have ow28 := hp27
  refine U.done (nr Z) ?_
  refine WP.ret ?_
  refine sqR (blkR (sqR (blkR ?_)))
  have h29 := exitS h23 e16
  refine fin.slots' (.inr Z) fsN Z ⟨V25, Z, (le12.trans le26), ?_⟩
  have e30 := Option.some.inj h29
  subst e30
  exact ow28
 ·have h31 := ifF c19 h18
  refine WP.skip ?_
  refine sqN ?_
  refine WP.seq ?_
  refine WP.usreg Z ?_
  refine U.p Z Z (.inl Z) (S.move Z (L 9 Z Z)) ?_
  refine U.p Z Z (.inl Z) (S.eqlI Z (L 0 Z Z) K) ?_
  refine U.done (nr Z) ?_
  refine WP.cond _ (L 0 Z Z) Z (fun c32 => ?_) (fun c32 => ?_)
  ·have h33 := ifT c32 h31
   refine WP.usreg Z ?_
   refine U.p Z Z (.inl Z) (S.move Z (L 8 Z Z)) ?_
   refine U.p Z Z (.inl Z) (S.move Z (L 10 Z Z)) ?_
   refine U.p Z Z (.inl Z) (S.move Z (L 12 Z Z)) ?_
   refine U.p Z Z (.inl Z) (S.move Z (L 15 Z Z)) ?_
   obtain ⟨x34, hx35, h36⟩ := bindS h33
   refine O.call (V := V11) Z Z (.inl Z) Z en50 (aC (L 3 Z Z) (aC (L 2 Z Z) (aC (L 1 Z Z) (aC (L 0 Z Z) aN)))) (wk_s_heapSort V11 _ xs3 x4 x5 v1 ow13 _ hx35) (fun _ _ _ _ => nd) (fun v37 V38 le39 hp40 => ?_)
   have ow41 := hp40
   refine U.done (nr Z) ?_
   refine WP.ret ?_
   refine sqR (blkR (sqR (blkR ?_)))
   have h42 := exitS h36 e16
   refine fin.slots' (.inr Z) fsN Z ⟨V38, Z, (le12.trans le39), ?_⟩
   have e43 := Option.some.inj h42
   subst e43
   exact ow41
  ·have h44 := ifF c32 h31
   refine WP.skip ?_
   refine sqN ?_
   refine WP.seqI (fun l V' => ∃ (xs45 : List Tflow_Span) (x46 : Int), l = [(0, v1), (1, .int .i64 x4), (2, .int .i64 x5), (3, .int .i64 x46), (4, .func (.func 31) #[] #[]), (10, .bool x7), (11, .bool x8), (12, .int .i64 (w64 (x5 - x4)))] ∧ V11.le V' ∧ Ow V' (.os RT_Tflow_Span v1 xs45 :: Rs) ∧ s_pdqsort_k1 rec_ x4 x5 x7 x8 xs45 x46 = some q15) ?_ ?_
   ·rintro _ V47 ⟨xs45, x46, rfl, le48, ow49, h50⟩
    unfold s_pdqsort_k1 at h50
    refine WP.usreg Z ?_
    refine U.p Z Z (.inl Z) (S.move Z (L 0 Z Z)) ?_
    refine U.p Z Z (.inl Z) (S.move Z (L 2 Z Z)) ?_
    refine U.p Z Z (.inl Z) (S.move Z (L 4 Z Z)) ?_
    refine U.p Z Z (.inl Z) (S.move Z (L 7 Z Z)) ?_
    obtain ⟨x51, hx52, h53⟩ := bindS h50
    refine O.call (V := V47) Z Z (.inl Z) Z en52 (aC (L 3 Z Z) (aC (L 2 Z Z) (aC (L 1 Z Z) (aC (L 0 Z Z) aN)))) (wk_s_choosePivot V47 _ xs45 x4 x5 v1 ow49 _ hx52) (fun _ _ _ _ => nd) (fun v54 V55 le56 hp57 => ?_)
    obtain ⟨rfl, ow58⟩ := hp57
    refine U.p Z Z (.inl Z) (S.move Z (L 0 Z Z)) ?_
    refine U.p Z Z (.inl Z) (S.extract Z (L 0 Z Z) Z (nr Z)) ?_
    refine U.p Z Z (.inl Z) (S.extract Z (L 1 Z Z) Z (nr Z)) ?_
    refine U.p Z Z (.inl Z) (S.assign Z (L 1 Z Z)) ?_
    refine U.p Z Z (.inl Z) (S.assign Z (L 1 Z Z)) ?_
    refine U.done (nr Z) ?_
    refine WP.seqI (fun l V' => ∃ (xs59 : List Tflow_Span) (x60 : Int) (x61 : Int), l = [(0, v1), (1, .int .i64 x4), (2, .int .i64 x5), (3, .int .i64 x46), (4, .func (.func 31) #[] #[]), (10, .bool x7), (11, .bool x8), (12, .int .i64 (w64 (x5 - x4))), (13, .int .i64 x60), (14, .int .i64 x61)] ∧ V55.le V' ∧ Ow V' (.os RT_Tflow_Span v1 xs59 :: Rs) ∧ s_pdqsort_k2 rec_ x4 x5 x7 x8 x46 xs59 x60 x61 = some q15) ?_ ?_
    ·rintro _ V62 ⟨xs59, x60, x61, rfl, le63, ow64, h65⟩
     unfold s_pdqsort_k2 at h65
     refine WP.seqI (fun l V' => ∃ (xs66 : List Tflow_Span), l = [(0, v1), (1, .int .i64 x4), (2, .int .i64 x5), (3, .int .i64 x46), (4, .func (.func 31) #[] #[]), (10, .bool x7), (11, .bool x8), (12, .int .i64 (w64 (x5 - x4))), (13, .int .i64 x60)] ∧ V62.le V' ∧ Ow V' (.os RT_Tflow_Span v1 xs66 :: Rs) ∧ s_pdqsort_k3 rec_ x4 x5 x7 x8 x46 x60 xs66 = some q15) ?_ ?_
     ·rintro _ V67 ⟨xs66, rfl, le68, ow69, h70⟩
      unfold s_pdqsort_k3 at h70
      refine WP.seq ?_
      refine WP.seqI (fun l V' => ∃ (x71 : Bool), l = [(0, v1), (1, .int .i64 x4), (2, .int .i64 x5), (3, .int .i64 x46), (4, .func (.func 31) #[] #[]), (10, .bool x7), (11, .bool x8), (12, .int .i64 (w64 (x5 - x4))), (13, .int .i64 x60), (97, .bool x71)] ∧ V67.le V' ∧ Ow V' (.os RT_Tflow_Span v1 xs66 :: Rs) ∧ s_pdqsort_k4 rec_ x4 x5 x7 x8 x46 x60 xs66 x71 = some q15) ?_ ?_
      ·rintro _ V72 ⟨x71, rfl, le73, ow74, h75⟩
       unfold s_pdqsort_k4 at h75
       refine WP.cond _ (L 9 Z Z) Z (fun c76 => ?_) (fun c76 => ?_)
       ·have h77 := ifT c76 h75
        refine WP.usreg Z ?_
        refine U.p Z Z (.inl Z) (S.move Z (L 0 Z Z)) ?_
        refine U.p Z Z (.inl Z) (S.move Z (L 2 Z Z)) ?_
        refine U.p Z Z (.inl Z) (S.move Z (L 4 Z Z)) ?_
        refine U.p Z Z (.inl Z) (S.move Z (L 11 Z Z)) ?_
        refine U.p Z Z (.inl Z) (S.move Z (L 8 Z Z)) ?_
        obtain ⟨x78, hx79, h80⟩ := bindS h77
        refine O.call (V := V72) Z Z (.inl Z) Z en55 (aC (L 4 Z Z) (aC (L 3 Z Z) (aC (L 2 Z Z) (aC (L 1 Z Z) (aC (L 0 Z Z) aN))))) (wk_s_partitionEqual V72 _ xs66 x4 x5 x60 v1 ow74 _ hx79) (fun _ _ _ _ => nd) (fun v81 V82 le83 hp84 => ?_)
        obtain ⟨rfl, ow85⟩ := hp84
        refine U.p Z Z (.inl Z) (S.assign Z (L 0 Z Z)) ?_
        refine U.done (nr Z) ?_
        refine WP.usreg Z ?_
        refine U.p Z Z (.inl Z) (S.move Z (L 0 Z Z)) ?_
        refine U.p Z Z (.inl Z) (S.assign Z (L 0 Z Z)) ?_
        refine U.done (nr Z) ?_
        refine WP.exit ?_
        refine sqE (blkE (sqN ?_))
        exact ⟨_, V82, Z, ⟨m14, Nat.lt_succ_self _, x78.2, x78.1, x5, x46, x7, x8, Z, ((((((le12.trans le48).trans le56).trans le63).trans le68).trans le73).trans le83), ow85, backS h80 e16⟩, (allCons (L 9 Z Z) (allCons (L 0 Z Z) (allCons (L 11 Z Z) (allCons (L 12 Z Z) (allCons (L 13 Z Z) (allCons (L 14 Z Z) (allCons (L 15 Z Z) allNil)))))))⟩
       ·have h86 := ifF c76 h75
        refine WP.skip ?_
        refine sqN ?_
        refine WP.usreg Z ?_
        refine U.p Z Z (.inl Z) (S.move Z (L 0 Z Z)) ?_
        refine U.p Z Z (.inl Z) (S.move Z (L 2 Z Z)) ?_
        refine U.p Z Z (.inl Z) (S.move Z (L 4 Z Z)) ?_
        refine U.p Z Z (.inl Z) (S.move Z (L 11 Z Z)) ?_
        refine U.p Z Z (.inl Z) (S.move Z (L 8 Z Z)) ?_
        obtain ⟨x87, hx88, h89⟩ := bindS h86
        refine O.call (V := V72) Z Z (.inl Z) Z en56 (aC (L 4 Z Z) (aC (L 3 Z Z) (aC (L 2 Z Z) (aC (L 1 Z Z) (aC (L 0 Z Z) aN))))) (wk_s_partition V72 _ xs66 x4 x5 x60 v1 ow74 _ hx88) (fun _ _ _ _ => nd) (fun v90 V91 le92 hp93 => ?_)
        obtain ⟨rfl, ow94⟩ := hp93
        refine U.p Z Z (.inl Z) (S.move Z (L 0 Z Z)) ?_
        refine U.p Z Z (.inl Z) (S.extract Z (L 0 Z Z) Z (nr Z)) ?_
        refine U.p Z Z (.inl Z) (S.extract Z (L 1 Z Z) Z (nr Z)) ?_
        refine U.p Z Z (.inl Z) (S.assign Z (L 1 Z Z)) ?_
        refine U.p Z Z (.inl Z) (S.assign Z (L 1 Z Z)) ?_
        refine U.done (nr Z) ?_
        refine WP.usreg Z ?_
        refine U.p Z Z (.inl Z) (S.move Z (L 0 Z Z)) ?_
        refine U.p Z Z (.inl Z) (S.assign Z (L 0 Z Z)) ?_
        refine U.done (nr Z) ?_
        refine WP.usreg Z ?_
        refine U.p Z Z (.inl Z) (S.move Z (L 3 Z Z)) ?_
        refine U.p Z Z (.inl Z) (S.move Z (L 15 Z Z)) ?_
        refine U.p Z Z (.inl Z) (S.sub Z (L 1 Z Z) (L 0 Z Z)) ?_
        refine U.p Z Z (.inl Z) (S.move Z (L 18 Z Z)) ?_
        refine U.p Z Z (.inl Z) (S.move Z (L 7 Z Z)) ?_
        refine U.p Z Z (.inl Z) (S.sub Z (L 1 Z Z) (L 0 Z Z)) ?_
        refine U.p Z Z (.inl Z) (S.assign Z (L 3 Z Z)) ?_
        refine U.p Z Z (.inl Z) (S.assign Z (L 1 Z Z)) ?_
        refine U.done (nr Z) ?_
        refine WP.usreg Z ?_
        refine U.p Z Z (.inl Z) (S.move Z (L 28 Z Z)) ?_
        obtain ⟨x95, hx96, h97⟩ := bindS h89
        refine U.p Z Z (.inl Z) (S.quo hx96 Z (L 0 Z Z) K) ?_
        refine U.p Z Z (.inl Z) (S.assign Z (L 0 Z Z)) ?_
        refine U.done (nr Z) ?_
        refine WP.usreg Z ?_
        refine U.p Z Z (.inl Z) (S.move Z (L 4 Z Z)) ?_
        refine U.p Z Z (.inl Z) (S.move Z (L 4 Z Z)) ?_
        refine U.p Z Z (.inl Z) (S.lss Z (L 1 Z Z) (L 0 Z Z)) ?_
        refine U.done (nr Z) ?_
        refine WP.cond _ (L 0 Z Z) Z (fun c98 => ?_) (fun c98 => ?_)
        ·have h99 := ifT c98 h97
         refine WP.usreg Z ?_
         refine U.p Z Z (.inl Z) (S.move Z (L 7 Z Z)) ?_
         refine U.p Z Z (.inl Z) (S.move Z (L 4 Z Z)) ?_
         refine U.p Z Z (.inl Z) (S.geq Z (L 1 Z Z) (L 0 Z Z)) ?_
         refine U.p Z Z (.inl Z) (S.assign Z (L 0 Z Z)) ?_
         refine U.done (nr Z) ?_
         refine WP.usreg Z ?_
         refine U.p Z Z (.inl Z) (S.move Z (L 31 Z Z)) ?_
         refine U.p Z Z (.inl Z) (S.move Z (L 33 Z Z)) ?_
         refine U.p Z Z (.inl Z) (S.move Z (L 23 Z Z)) ?_
         refine U.p Z Z (.inl Z) (S.move Z (L 37 Z Z)) ?_
         refine U.p Z Z (.inl Z) (S.move Z (L 39 Z Z)) ?_
         obtain ⟨x100, hx101, h102⟩ := bindS h99
         refine O.call (V := V91) Z Z (.inl Z) Z en44 (aC (L 4 Z Z) (aC (L 3 Z Z) (aC (L 2 Z Z) (aC (L 1 Z Z) (aC (L 0 Z Z) aN))))) (IH V91 _ x87.2.2 x4 x87.1 x46 v1 ow94 _ hx101) (fun _ _ _ _ => nd) (fun v103 V104 le105 hp106 => ?_)
         have ow107 := hp106
         refine U.done (nr Z) ?_
         refine WP.ureg Z ?_
         refine U.p Z Z (.inl Z) (S.move Z (L 27 Z Z)) ?_
         refine U.p Z Z (.inl Z) (S.add Z (L 0 Z Z) K) ?_
         refine U.p Z Z (.inl Z) (S.assign Z (L 0 Z Z)) ?_
         refine U.done (nr Z) ?_
         refine blkN (sqN ?_)
         exact ⟨_, V104, Z, ⟨m14, Nat.lt_succ_self _, x100, w64 (x87.1 + 1), x5, x46, decide (x95 ≤ (w64 (x87.1 - x4))), x87.2.1, Z, (((((((le12.trans le48).trans le56).trans le63).trans le68).trans le73).trans le92).trans le105), ow107, backS h102 e16⟩, (allCons (L 40 Z Z) (allCons (L 0 Z Z) (allCons (L 42 Z Z) (allCons (L 43 Z Z) (allCons (L 44 Z Z) (allCons (L 9 Z Z) (allCons (L 27 Z Z) allNil)))))))⟩
        ·have h108 := ifF c98 h97
         refine WP.usreg Z ?_
         refine U.p Z Z (.inl Z) (S.move Z (L 6 Z Z)) ?_
         refine U.p Z Z (.inl Z) (S.move Z (L 4 Z Z)) ?_
         refine U.p Z Z (.inl Z) (S.geq Z (L 1 Z Z) (L 0 Z Z)) ?_
         refine U.p Z Z (.inl Z) (S.assign Z (L 0 Z Z)) ?_
         refine U.done (nr Z) ?_
         refine WP.usreg Z ?_
         refine U.p Z Z (.inl Z) (S.move Z (L 31 Z Z)) ?_
         refine U.p Z Z (.inl Z) (S.move Z (L 22 Z Z)) ?_
         refine U.p Z Z (.inl Z) (S.add Z (L 0 Z Z) K) ?_
         refine U.p Z Z (.inl Z) (S.move Z (L 36 Z Z)) ?_
         refine U.p Z Z (.inl Z) (S.move Z (L 38 Z Z)) ?_
         refine U.p Z Z (.inl Z) (S.move Z (L 40 Z Z)) ?_
         obtain ⟨x109, hx110, h111⟩ := bindS h108
         refine O.call (V := V91) Z Z (.inl Z) Z en44 (aC (L 5 Z Z) (aC (L 3 Z Z) (aC (L 2 Z Z) (aC (L 1 Z Z) (aC (L 0 Z Z) aN))))) (IH V91 _ x87.2.2 (w64 (x87.1 + 1)) x5 x46 v1 ow94 _ hx110) (fun _ _ _ _ => nd) (fun v112 V113 le114 hp115 => ?_)
         have ow116 := hp115
         refine U.done (nr Z) ?_
         refine WP.ureg Z ?_
         refine U.p Z Z (.inl Z) (S.move Z (L 28 Z Z)) ?_
         refine U.p Z Z (.inl Z) (S.assign Z (L 0 Z Z)) ?_
         refine U.done (nr Z) ?_
         refine blkN (sqN ?_)
         exact ⟨_, V113, Z, ⟨m14, Nat.lt_succ_self _, x109, x4, x87.1, x46, decide (x95 ≤ (w64 (x5 - x87.1))), x87.2.1, Z, (((((((le12.trans le48).trans le56).trans le63).trans le68).trans le73).trans le92).trans le114), ow116, backS h111 e16⟩, (allCons (L 40 Z Z) (allCons (L 41 Z Z) (allCons (L 0 Z Z) (allCons (L 43 Z Z) (allCons (L 44 Z Z) (allCons (L 9 Z Z) (allCons (L 27 Z Z) allNil)))))))⟩
      ·skip
       refine WP.udreg Z Z Z ?_
       refine U.p Z Z (.inl Z) (S.move Z (L 1 Z Z)) ?_
       refine U.p Z Z (.inl Z) (S.gtr Z (L 0 Z Z) K) ?_
       refine U.p Z Z (.inl Z) (S.move Z (L 0 Z Z)) ?_
       refine bcase (b := decide (0 < x4)) (fun g117 => ?_) (fun g117 => ?_)
       ·have h118 := ifT g117 h70
        refine U.p Z Z (.inr ⟨_, _, _, Z, Z, ((L 0 Z Z).trans (cB g117))⟩) (S.move Z (L 7 Z Z)) ?_
        refine U.p Z Z (.inr ⟨_, _, _, Z, Z, ((L 1 Z Z).trans (cB g117))⟩) (S.move Z (L 4 Z Z)) ?_
        refine U.p Z Z (.inr ⟨_, _, _, Z, Z, ((L 2 Z Z).trans (cB g117))⟩) (S.move Z (L 6 Z Z)) ?_
        refine U.p Z Z (.inr ⟨_, _, _, Z, Z, ((L 3 Z Z).trans (cB g117))⟩) (S.sub Z (L 0 Z Z) K) ?_
        obtain ⟨x119, hx120, h121⟩ := bindS h118
        obtain ⟨b122, o123, n124, c125, hv126⟩ := ow69.ospt (k := 0) Z hx120
        obtain ⟨_, hv127, _⟩ := ow69.osel (k := 0) Z hv126 hx120
        refine U.p Z Z (.inr ⟨_, _, _, Z, Z, ((L 4 Z Z).trans (cB g117))⟩) (S.index Z ((L 2 Z Z).trans hv127) (L 0 Z Z) Try.underlying44 ti49 (ix_ge hx120) (ix_lt hx120)) ?_
        obtain ⟨cs128, hv129, hlt130, hr131, hc132⟩ := ow69.osel (k := 0) Z hv126 hx120
        obtain rfl : cs128 = [.int .i64 x119.reg, .int .i64 x119.from_, .int .i64 x119.to_] := hr131
        refine U.k Z Z (.inr ⟨_, _, _, Z, Z, ((L 5 Z Z).trans (cB g117))⟩) (S.loadN (cs := [.int .i64 x119.reg, .int .i64 x119.from_, .int .i64 x119.to_]) Z (L 0 Z Z) Try.underlying49 Z ti49 Z hc132) (fun _ => (okH.nil (fun r h => by cases h; exact hlt130))) ?_
        refine U.p Z Z (.inr ⟨_, _, _, Z, Z, ((L 6 Z Z).trans (cB g117))⟩) (S.move Z (L 9 Z Z)) ?_
        refine U.p Z Z (.inr ⟨_, _, _, Z, Z, ((L 7 Z Z).trans (cB g117))⟩) (S.move Z (L 18 Z Z)) ?_
        obtain ⟨x133, hx134, h135⟩ := bindS h121
        obtain ⟨_, hv136, _⟩ := ow69.osel (k := 0) Z hv126 hx134
        refine U.p Z Z (.inr ⟨_, _, _, Z, Z, ((L 8 Z Z).trans (cB g117))⟩) (S.index Z ((L 1 Z Z).trans hv136) (L 0 Z Z) Try.underlying44 ti49 (ix_ge hx134) (ix_lt hx134)) ?_
        obtain ⟨cs137, hv138, hlt139, hr140, hc141⟩ := ow69.osel (k := 0) Z hv126 hx134
        obtain rfl : cs137 = [.int .i64 x133.reg, .int .i64 x133.from_, .int .i64 x133.to_] := hr140
        refine U.k Z Z (.inr ⟨_, _, _, Z, Z, ((L 9 Z Z).trans (cB g117))⟩) (S.loadN (cs := [.int .i64 x133.reg, .int .i64 x133.from_, .int .i64 x133.to_]) Z (L 0 Z Z) Try.underlying49 Z ti49 Z hc141) (fun _ => (okH.cons trivial (okH.nil (fun r h => by cases h; exact hlt139)))) ?_
        obtain ⟨x142, hx143, h144⟩ := bindS h135
        refine O.callv (V := V67) Z Z (.inr ⟨_, _, _, Z, Z, ((L 10 Z Z).trans (cB g117))⟩) Z (L 9 Z Z) en31 (aC (L 4 Z Z) (aC (L 0 Z Z) aN)) (wk_flow_Spans_c1 V67 _ x119 x133 ow69 _ hx143) (fun v145 V146 le147 hp148 => by obtain ⟨rfl, ow149⟩ := hp148; exact (fun _ => (okH.cons (Or.inl Z) (okH.cons (Or.inl Z) (okH.nil (fun r h => nomatch h)))))) (fun v145 V146 le147 hp148 => ?_)
        obtain ⟨rfl, ow149⟩ := hp148
        refine U.p Z Z (.inr ⟨_, _, _, Z, Z, ((L 11 Z Z).trans (cB g117))⟩) (S.lss Z (L 0 Z Z) K) ?_
        refine U.p Z Z (.inr ⟨_, _, _, Z, Z, ((L 12 Z Z).trans (cB g117))⟩) (S.not Z (L 0 Z Z)) ?_
        refine U.p Z Z (.inl Z) (S.pickT Z ((L 13 Z Z).trans (cB g117)) (L 0 Z Z)) ?_
        refine U.done (nr Z) ?_
        refine sqN ?_
        exact ⟨_, V146, Z, ⟨!(decide (x142 < 0)), Z, le147, ow149, h144⟩, (allCons (L 17 Z Z) (allCons (L 18 Z Z) (allCons (L 19 Z Z) (allCons (L 20 Z Z) (allCons (L 21 Z Z) (allCons (L 22 Z Z) (allCons (L 23 Z Z) (allCons (L 24 Z Z) (allCons (L 25 Z Z) (allCons (L 0 Z Z) allNil))))))))))⟩
       ·have h150 := ifF g117 h70
        refine U.x Z Z Z Z ((L 0 Z Z).trans (cB g117)) (by decide) ?_
        refine U.x Z Z Z Z ((L 1 Z Z).trans (cB g117)) (by decide) ?_
        refine U.x Z Z Z Z ((L 2 Z Z).trans (cB g117)) (by decide) ?_
        refine U.x Z Z Z Z ((L 3 Z Z).trans (cB g117)) (by decide) ?_
        refine U.x Z Z Z Z ((L 4 Z Z).trans (cB g117)) (by decide) ?_
        refine U.x Z Z Z Z ((L 5 Z Z).trans (cB g117)) (by decide) ?_
        refine U.x Z Z Z Z ((L 6 Z Z).trans (cB g117)) (by decide) ?_
        refine U.x Z Z Z Z ((L 7 Z Z).trans (cB g117)) (by decide) ?_
        refine U.x Z Z Z Z ((L 8 Z Z).trans (cB g117)) (by decide) ?_
        refine U.x Z Z Z Z ((L 9 Z Z).trans (cB g117)) (by decide) ?_
        refine U.x Z Z Z Z ((L 10 Z Z).trans (cB g117)) (by decide) ?_
        refine U.x Z Z Z Z ((L 11 Z Z).trans (cB g117)) (by decide) ?_
        refine U.x Z Z Z Z ((L 12 Z Z).trans (cB g117)) (by decide) ?_
        refine U.p Z Z (.inl Z) (S.pickF Z ((L 13 Z Z).trans (cB g117)) K) ?_
        refine U.done (nr Z) ?_
        refine sqN ?_
        exact ⟨_, V67, Z, ⟨false, Z, (.refl _), ow69, h150⟩, (allCons (L 17 Z Z) (allCons (L 18 Z Z) (allCons (L 19 Z Z) (allCons (L 20 Z Z) (allCons (L 21 Z Z) (allCons (L 22 Z Z) (allCons (L 23 Z Z) (allCons (L 24 Z Z) (allCons (L 25 Z Z) (allCons (L 0 Z Z) allNil))))))))))⟩
     ·skip
      refine WP.usreg Z ?_
      refine U.p Z Z (.inl Z) (S.move Z (L 5 Z Z)) ?_
      refine U.p Z Z (.inl Z) (S.move Z (L 0 Z Z)) ?_
      refine U.joinX 4 (fun e H => ∃ (u151 : Value), H = V62.H ∧ e = [(71, .bool (x7 && x8)), (70, u151)]) ?_ ?_
      ·rintro _ _ ⟨u151, rfl, rfl⟩
       refine U.p Z Z (.inl Z) (S.move Z (L 0 Z Z)) ?_
       refine U.joinX 8 (fun e H => ∃ (u155 u156 : Value), H = V62.H ∧ e = [(75, .bool ((x7 && x8) && (decide (x61 = 1)))), (74, u155), (73, u156)]) ?_ ?_
       ·rintro _ _ ⟨u155, u156, rfl, rfl⟩
        refine U.done (nr Z) ?_
        refine WP.cond _ (L 0 Z Z) Z (fun c160 => ?_) (fun c160 => ?_)
        ·have h161 := ifT c160 h65
         refine WP.usreg Z ?_
         refine U.p Z Z (.inl Z) (S.move Z (L 8 Z Z)) ?_
         refine U.p Z Z (.inl Z) (S.move Z (L 10 Z Z)) ?_
         refine U.p Z Z (.inl Z) (S.move Z (L 12 Z Z)) ?_
         refine U.p Z Z (.inl Z) (S.move Z (L 15 Z Z)) ?_
         obtain ⟨x162, hx163, h164⟩ := bindS h161
         refine O.call (V := V62) Z Z (.inl Z) Z en54 (aC (L 3 Z Z) (aC (L 2 Z Z) (aC (L 1 Z Z) (aC (L 0 Z Z) aN)))) (wk_s_partialInsertionSort V62 _ xs59 x4 x5 v1 ow64 _ hx163) (fun _ _ _ _ => nd) (fun v165 V166 le167 hp168 => ?_)
         obtain ⟨rfl, ow169⟩ := hp168
         refine U.done (nr Z) ?_
         refine WP.cond _ (L 0 Z Z) Z (fun c170 => ?_) (fun c170 => ?_)
         ·have h171 := ifT c170 h164
          refine WP.ret ?_
          refine sqR (blkR (sqR (blkR ?_)))
          have h172 := exitS h171 e16
          refine fin.slots' (.inr Z) fsN Z ⟨V166, Z, ((((le12.trans le48).trans le56).trans le63).trans le167), ?_⟩
          have e173 := Option.some.inj h172
          subst e173
          exact ow169
         ·have h174 := ifF c170 h164
          refine WP.skip ?_
          refine sqN ?_
          exact ⟨_, V166, Z, ⟨x162.2, Z, le167, ow169, h174⟩, (allCons (L 13 Z Z) (allCons (L 14 Z Z) (allCons (L 15 Z Z) (allCons (L 16 Z Z) (allCons (L 17 Z Z) (allCons (L 18 Z Z) (allCons (L 19 Z Z) (allCons (L 20 Z Z) (allCons (L 21 Z Z) allNil)))))))))⟩
        ·have h175 := ifF c160 h65
         refine WP.skip ?_
         refine sqN ?_
         exact ⟨_, V62, Z, ⟨xs59, Z, (.refl _), ow64, h175⟩, (allCons (L 8 Z Z) (allCons (L 9 Z Z) (allCons (L 10 Z Z) (allCons (L 11 Z Z) (allCons (L 12 Z Z) (allCons (L 13 Z Z) (allCons (L 14 Z Z) (allCons (L 15 Z Z) (allCons (L 16 Z Z) allNil)))))))))⟩
       ·intro kk
        refine bcase (b := x7 && x8) (fun g176 => ?_) (fun g176 => ?_)
        ·skip
         refine U.p Z Z (.inr ⟨_, _, _, Z, Z, ((L 0 Z Z).trans (cB g176))⟩) (S.move Z (L 14 Z Z)) ?_
         refine U.p Z Z (.inr ⟨_, _, _, Z, Z, ((L 1 Z Z).trans (cB g176))⟩) (S.eqlI Z (L 0 Z Z) K) ?_
         refine U.p Z Z (.inl Z) (S.pickT Z ((L 2 Z Z).trans (cB g176)) (L 0 Z Z)) ?_
         exact kk [(75, .bool (decide (x61 = 1))), (74, .bool (decide (x61 = 1))), (73, .int .i64 x61)] _ ⟨.bool (decide (x61 = 1)), .int .i64 x61, Z, (by rw [g176, Bool.true_and])⟩
        ·skip
         refine U.x Z Z Z Z ((L 0 Z Z).trans (cB g176)) (by decide) ?_
         refine U.x Z Z Z Z ((L 1 Z Z).trans (cB g176)) (by decide) ?_
         refine U.p Z Z (.inl Z) (S.pickF Z ((L 2 Z Z).trans (cB g176)) K) ?_
         exact kk [(75, .bool false), (74, .tuple #[]), (73, .tuple #[])] _ ⟨.tuple #[], .tuple #[], Z, (by rw [g176, Bool.false_and])⟩
      ·intro kk
       refine bcase (b := x7) (fun g177 => ?_) (fun g177 => ?_)
       ·skip
        refine U.p Z Z (.inr ⟨_, _, _, Z, Z, ((L 0 Z Z).trans (cB g177))⟩) (S.move Z (L 8 Z Z)) ?_
        refine U.p Z Z (.inl Z) (S.pickT Z ((L 1 Z Z).trans (cB g177)) (L 0 Z Z)) ?_
        exact kk [(71, .bool x8), (70, .bool x8)] _ ⟨.bool x8, Z, (by rw [g177, Bool.true_and])⟩
       ·skip
        refine U.x Z Z Z Z ((L 0 Z Z).trans (cB g177)) (by decide) ?_
        refine U.p Z Z (.inl Z) (S.pickF Z ((L 1 Z Z).trans (cB g177)) K) ?_
        exact kk [(71, .bool false), (70, .tuple #[])] _ ⟨.tuple #[], Z, (by rw [g177, Bool.false_and])⟩
    ·skip
     refine WP.usreg Z ?_
     refine U.p Z Z (.inl Z) (S.move Z (L 0 Z Z)) ?_
     refine U.p Z Z (.inl Z) (S.eqlI Z (L 0 Z Z) K) ?_
     refine U.done (nr Z) ?_
     refine WP.cond _ (L 0 Z Z) Z (fun c178 => ?_) (fun c178 => ?_)
     ·have h179 := ifT c178 h53
      refine WP.usreg Z ?_
      refine U.p Z Z (.inl Z) (S.move Z (L 12 Z Z)) ?_
      refine U.p Z Z (.inl Z) (S.move Z (L 14 Z Z)) ?_
      refine U.p Z Z (.inl Z) (S.move Z (L 16 Z Z)) ?_
      refine U.p Z Z (.inl Z) (S.move Z (L 19 Z Z)) ?_
      obtain ⟨x180, hx181, h182⟩ := bindS h179
      refine O.call (V := V55) Z Z (.inl Z) Z en53 (aC (L 3 Z Z) (aC (L 2 Z Z) (aC (L 1 Z Z) (aC (L 0 Z Z) aN)))) (wk_s_reverseRange V55 _ xs45 x4 x5 v1 ow58 _ hx181) (fun _ _ _ _ => nd) (fun v183 V184 le185 hp186 => ?_)
      have ow187 := hp186
      refine U.done (nr Z) ?_
      refine WP.usreg Z ?_
      refine U.p Z Z (.inl Z) (S.move Z (L 19 Z Z)) ?_
      refine U.p Z Z (.inl Z) (S.sub Z (L 0 Z Z) K) ?_
      refine U.p Z Z (.inl Z) (S.move Z (L 10 Z Z)) ?_
      refine U.p Z Z (.inl Z) (S.move Z (L 21 Z Z)) ?_
      refine U.p Z Z (.inl Z) (S.sub Z (L 1 Z Z) (L 0 Z Z)) ?_
      refine U.p Z Z (.inl Z) (S.sub Z (L 3 Z Z) (L 0 Z Z)) ?_
      refine U.p Z Z (.inl Z) (S.assign Z (L 0 Z Z)) ?_
      refine U.done (nr Z) ?_
      refine WP.ureg Z ?_
      refine U.p Z Z (.inl Z) (S.assign Z K) ?_
      refine U.done (nr Z) ?_
      refine sqN ?_
      exact ⟨_, V184, Z, ⟨x180, w64 ((w64 (x5 - 1)) - (w64 (x51.1 - x4))), 1, Z, le185, ow187, h182⟩, (allCons (L 25 Z Z) (allCons (L 26 Z Z) (allCons (L 27 Z Z) (allCons (L 28 Z Z) (allCons (L 29 Z Z) (allCons (L 30 Z Z) (allCons (L 31 Z Z) (allCons (L 32 Z Z) (allCons (L 1 Z Z) (allCons (L 0 Z Z) allNil))))))))))⟩
     ·have h188 := ifF c178 h53
      refine WP.skip ?_
      refine sqN ?_
      exact ⟨_, V55, Z, ⟨xs45, x51.1, x51.2, Z, (.refl _), ow58, h188⟩, (allCons (L 12 Z Z) (allCons (L 13 Z Z) (allCons (L 14 Z Z) (allCons (L 15 Z Z) (allCons (L 16 Z Z) (allCons (L 17 Z Z) (allCons (L 18 Z Z) (allCons (L 19 Z Z) (allCons (L 3 Z Z) (allCons (L 2 Z Z) allNil))))))))))⟩
   ·skip
    refine WP.usreg Z ?_
    refine U.p Z Z (.inl Z) (S.move Z (L 13 Z Z)) ?_
    refine U.p Z Z (.inl Z) (S.not Z (L 0 Z Z)) ?_
    refine U.done (nr Z) ?_
    refine WP.cond _ (L 0 Z Z) Z (fun c189 => ?_) (fun c189 => ?_)
    ·have h190 := ifT c189 h44
     have k191 : x7 = false := nT c189
     refine WP.usreg Z ?_
     refine U.p Z Z (.inl Z) (S.move Z (L 10 Z Z)) ?_
     refine U.p Z Z (.inl Z) (S.move Z (L 12 Z Z)) ?_
     refine U.p Z Z (.inl Z) (S.move Z (L 14 Z Z)) ?_
     refine U.p Z Z (.inl Z) (S.move Z (L 17 Z Z)) ?_
     obtain ⟨x192, hx193, h194⟩ := bindS h190
     refine O.call (V := V11) Z Z (.inl Z) Z en51 (aC (L 3 Z Z) (aC (L 2 Z Z) (aC (L 1 Z Z) (aC (L 0 Z Z) aN)))) (wk_s_breakPatterns V11 _ xs3 x4 x5 v1 ow13 _ hx193) (fun _ _ _ _ => nd) (fun v195 V196 le197 hp198 => ?_)
     have ow199 := hp198
     refine U.done (nr Z) ?_
     refine WP.ureg Z ?_
     refine U.p Z Z (.inl Z) (S.move Z (L 18 Z Z)) ?_
     refine U.p Z Z (.inl Z) (S.sub Z (L 0 Z Z) K) ?_
     refine U.p Z Z (.inl Z) (S.assign Z (L 0 Z Z)) ?_
     refine U.done (nr Z) ?_
     refine sqN ?_
     exact ⟨_, V196, Z, ⟨x192, w64 (x6 - 1), Z, le197, ow199, h194⟩, (allCons (L 18 Z Z) (allCons (L 19 Z Z) (allCons (L 20 Z Z) (allCons (L 0 Z Z) (allCons (L 22 Z Z) (allCons (L 23 Z Z) (allCons (L 24 Z Z) (allCons (L 14 Z Z) allNil))))))))⟩
    ·have h200 := ifF c189 h44
     have k201 : x7 = true := nF c189
     refine WP.skip ?_
     refine sqN ?_
     exact ⟨_, V11, Z, ⟨xs3, x6, Z, (.refl _), ow13, h200⟩, (allCons (L 10 Z Z) (allCons (L 11 Z Z) (allCons (L 12 Z Z) (allCons (L 13 Z Z) (allCons (L 14 Z Z) (allCons (L 15 Z Z) (allCons (L 16 Z Z) (allCons (L 6 Z Z) allNil))))))))⟩
theorem wk_s_pdqsort (V : Vw) (Rs : List At) (p0 : List Tflow_Span) (p1 : Int) (p2 : Int) (p3 : Int) (v1 : Value) (ow : Ow V (.os RT_Tflow_Span v1 p0 :: Rs)) (r : List Tflow_Span) (h : s_pdqsort p0 p1 p2 p3 = some r) : ∃ v V', Cl Try.prog 0 44 #[v1, .int .i64 p1, .int .i64 p2, .int .i64 p3, .func (.func 31) #[] #[]] V.H v V'.H ∧ V.le V' ∧ (Ow V' (.os RT_Tflow_Span v1 r :: Rs)) := by
 have key : ∀ n, ∀ (V : Vw) (Rs : List At) (p0 : List Tflow_Span) (p1 : Int) (p2 : Int) (p3 : Int) (v1 : Value) (ow : Ow V (.os RT_Tflow_Span v1 p0 :: Rs)) (r : List Tflow_Span) (h : itF (fun rec_ a => s_pdqsort_F (fun p0 p1 p2 p3 => rec_ (p0, p1, p2, p3)) a.1 a.2.1 a.2.2.1 a.2.2.2) n (p0, p1, p2, p3) = some r), ∃ v V', Cl Try.prog 0 44 #[v1, .int .i64 p1, .int .i64 p2, .int .i64 p3, .func (.func 31) #[] #[]] V.H v V'.H ∧ V.le V' ∧ (Ow V' (.os RT_Tflow_Span v1 r :: Rs)) := by
  intro n
  induction n with
  | zero => intro V Rs p0 p1 p2 p3 v1 ow r h; have h0 : (none : Option (List Tflow_Span)) = some r := h; cases h0
  | succ n ih => exact fun V Rs p0 p1 p2 p3 v1 ow r h => wks_s_pdqsort (fun p0 p1 p2 p3 => itF (fun rec_ a => s_pdqsort_F (fun p0 p1 p2 p3 => rec_ (p0, p1, p2, p3)) a.1 a.2.1 a.2.2.1 a.2.2.2) n (p0, p1, p2, p3)) ih V Rs p0 p1 p2 p3 v1 ow r h
 obtain ⟨n, hn⟩ := recO_some h
 exact key n V Rs p0 p1 p2 p3 v1 ow r hn
theorem wk_slices_SortFunc (V : Vw) (Rs : List At) (p0 : List Tflow_Span) (v1 : Value) (ow : Ow V (.os RT_Tflow_Span v1 p0 :: Rs)) (r : List Tflow_Span) (h : slices_SortFunc p0 = some r) : ∃ v V', Cl Try.prog 0 30 #[v1, .func (.func 31) #[] #[]] V.H v V'.H ∧ V.le V' ∧ (Ow V' (.os RT_Tflow_Span v1 r :: Rs)) := by
 refine Ct.of (Nat.zero_le _) Try.func30 Z (nr Z) ?_
 unfold slices_SortFunc at h
 refine WP.usreg Z ?_
 refine U.p Z Z (.inl Z) (S.move Z (L 0 Z Z)) ?_
 refine U.p Z Z (.inl Z) (ow.oslen (k := 0) Z Z (L 0 Z Z) Try.underlying44) ?_
 refine U.p Z Z (.inl Z) (S.assign Z (L 0 Z Z)) ?_
 refine U.done (nr Z) ?_
 refine WP.ureg Z ?_
 refine U.p Z Z (.inl Z) (S.move Z (L 3 Z Z)) ?_
 refine U.p Z Z (.inl Z) (S.move Z (L 1 Z Z)) ?_
 refine U.p Z Z (.inl Z) (S.move Z (L 2 Z Z)) ?_
 refine U.p Z Z (.inl Z) (S.conv Z (L 0 Z Z) Try.underlying3 Try.underlying83) ?_
 obtain ⟨x3, hx4, h5⟩ := bindS h
 refine O.call (V := V) Z Z (.inl Z) Z en45 (aC (L 0 Z Z) aN) (wk_math_bits_Len V _ (IntKind.wrap .u64 (p0.length : Int)) ow _ hx4) (fun _ _ _ _ => nd) (fun v6 V7 le8 hp9 => ?_)
 obtain ⟨rfl, ow10⟩ := hp9
 refine U.p Z Z (.inl Z) (S.move Z (L 9 Z Z)) ?_
 obtain ⟨x11, hx12, h13⟩ := bindS h5
 refine O.call (V := V7) Z Z (.inl Z) Z en44 (aC (L 5 Z Z) (aC K (aC (L 4 Z Z) (aC (L 1 Z Z) (aC (L 0 Z Z) aN))))) (wk_s_pdqsort V7 _ p0 0 (p0.length : Int) x3 v1 ow10 _ hx12) (fun _ _ _ _ => nd) (fun v14 V15 le16 hp17 => ?_)
 have ow18 := hp17
 refine U.done (nr Z) ?_
 refine fin.slots' (.inl Z) fsN Z ⟨V15, Z, (le8.trans le16), ?_⟩
 have e19 := Option.some.inj h13
 subst e19
 exact ow18
theorem wk_flow_Spans (V : Vw) (Rs : List At) (p0 : TFunc) (v1 : Value) (f2 : Fz RT_TIns V v1 p0.code) (ow : Ow V (Rs)) (r : List Tflow_Span) (h : flow_Spans p0 = some r) : ∃ v V', Cl Try.prog 0 16 #[.agg #[.string p0.name, .int .i64 p0.params, .int .i64 p0.regs, v1]] V.H v V'.H ∧ V.le V' ∧ (∃ (v3 : Value), v = v3 ∧ Ow V' (.os RT_Tflow_Span v3 r :: Rs)) := by
 refine Ct.of (Nat.zero_le _) Try.func16 Z (nr Z) ?_
 unfold flow_Spans at h
 refine WP.usreg Z ?_
 refine O.box ow Z Z (.inl Z) Z (L 0 Z Z) (by simp [topV]) Z nd (fun b5 V6 le7 ow8 => ?_)
 refine U.p Z Z (.inl Z) (S.assign Z K) ?_
 refine U.done (nr Z) ?_
 refine WP.usreg Z ?_
 refine U.p Z Z (.inl Z) (S.assign Z K) ?_
 refine U.done (nr Z) ?_
 refine WP.seq ?_
 refine WP.usreg Z ?_
 refine U.p (v := .pointer (some ⟨b5, 1, none⟩)) Z Z (.inl Z) (S.fieldAddr Z (L 2 Z Z) Try.underlying24 Z ti3 Z Z) ?_
 refine U.k Z Z (.inl Z) (S.load Z (L 0 Z Z) Try.underlying3 Z ((ow8.own (k := 0) Z).cell Z)) nd ?_
 refine U.p Z Z (.inl Z) (S.move Z K) ?_
 refine U.done (nr Z) ?_
 refine WP.blk ?_
 have ow14 := ow8.nil RT_Tflow_Span
 have ow16 := ow14.pick 0 Z
 have ow17 := ow16.pick 1 Z
 unfold flow_Spans_l1 at h
 obtain ⟨n19, hn18⟩ := loopO_some.1 h
 refine WP.loopI2 (fun n l V' => ∃ (v11 : Value) (xs12 : List Tflow_Span) (x13 : Int), l = [(1, .pointer (some ⟨b5, 0, none⟩)), (3, v11), (13, .int .i64 p0.params), (14, .int .i64 x13)] ∧ V6.le V' ∧ Ow V' (.pt b5 (.cells 0 [.string p0.name, .int .i64 p0.params, .int .i64 p0.regs, v1]) :: .os RT_Tflow_Span v11 xs12 :: Rs) ∧ itO (fun s => flow_Spans_l1b p0 s.1 s.2) n (xs12, x13) = some r) n19 _ ⟨(.slice none 0 0), [], 0, Z, .refl _, ow17, hn18⟩ (allCons (L 5 Z Z) (allCons (L 3 Z Z) (allCons (L 1 Z Z) (allCons (L 0 Z Z) allNil)))) ?_
 rintro _ _ V20 ⟨v11, xs12, x13, rfl, le21, ow22, h26⟩
 obtain ⟨m23, q24, rfl, h27, e25⟩ := itS h26
 replace h27 : flow_Spans_l1b p0 xs12 x13 = some q24 := h27
 unfold flow_Spans_l1b at h27
 refine WP.usreg Z ?_
 refine U.p Z Z (.inl Z) (S.lss Z (L 3 Z Z) (L 2 Z Z)) ?_
 refine U.done (nr Z) ?_
 refine WP.seq ?_
 refine WP.cond _ (L 0 Z Z) Z (fun c28 => ?_) (fun c28 => ?_)
 ·have h29 := ifT c28 h27
  refine WP.skip ?_
  refine sqN ?_
  refine WP.seq ?_
  refine WP.blk ?_
  refine WP.usreg Z ?_
  refine U.p Z Z (.inl Z) (S.move Z (L 4 Z Z)) ?_
  refine U.p Z Z (.inl Z) (S.assign Z (L 0 Z Z)) ?_
  refine U.done (nr Z) ?_
  refine WP.ureg Z ?_
  refine U.p Z Z (.inl Z) (S.move Z (L 4 Z Z)) ?_
  refine U.p Z Z (.inl Z) (S.move Z (L 1 Z Z)) ?_
  have ow30 := ow22.pick 1 Z
  obtain ⟨x31, hx32, h33⟩ := bindS h29
  refine O.call (V := V20) Z Z (.inl Z) Z en26 (aC (L 1 Z Z) (aC (L 0 Z Z) (aC K aN))) (wk_flow_grow V20 _ xs12 x13 0 v11 ow30 _ hx32) (fun _ _ _ _ => nd) (fun v34 V35 le36 hp37 => ?_)
  obtain ⟨_, rfl, ow38⟩ := hp37
  refine U.p Z Z (.inl Z) (S.assign Z (L 0 Z Z)) ?_
  refine U.done (nr Z) ?_
  refine blkN (sqN ?_)
  refine WP.ureg Z ?_
  refine U.p Z Z (.inl Z) (S.add Z (L 10 Z Z) K) ?_
  refine U.p Z Z (.inl Z) (S.move Z (L 0 Z Z)) ?_
  refine U.done (nr Z) ?_
  refine sqN ?_
  have ow41 := ow38.pick 0 Z
  have ow42 := ow41.pick 1 Z
  exact ⟨_, V35, Z, ⟨m23, Nat.lt_succ_self _, v34, x31, w64 (x13 + 1), Z, (le21.trans le36), ow42, backS h33 e25⟩, (allCons (L 9 Z Z) (allCons (L 2 Z Z) (allCons (L 11 Z Z) (allCons (L 0 Z Z) allNil))))⟩
 ·have h43 := ifF c28 h27
  refine WP.exit ?_
  refine sqE (sqE (blkE (sqN ?_)))
  have h44 := exitS h43 e25
  refine WP.seq ?_
  refine WP.usreg Z ?_
  refine U.k Z Z (.inl Z) (S.loadB Z (L 1 Z Z) Try.underlying24 Z ti24 (ow22.own (k := 0) Z).get Z) nd ?_
  have f45 := f2.up (le7.trans le21)
  obtain ⟨x46, hx47, h48⟩ := bindS h44
  refine O.call (V := V20) Z Z (.inl Z) Z en27 (aC (L 0 Z Z) aN) (wk_flow_Live V20 _ p0 v1 f45 ow22 _ hx47) (fun _ _ _ _ => nd) (fun v49 V50 le51 hp52 => ?_)
  obtain ⟨_, rfl, ow53⟩ := hp52
  refine U.p Z Z (.inl Z) (ow53.oslen (k := 0) Z Z (L 0 Z Z) Try.underlying62) ?_
  refine U.p Z Z (.inl Z) (S.move Z K) ?_
  refine U.done (nr Z) ?_
  refine WP.blk ?_
  have ow60 := ow53.pick 0 Z
  have ow61 := ow60.pick 2 Z
  have ow62 := ow61.pick 2 Z
  unfold flow_Spans_l2 at h48
  obtain ⟨n64, hn63⟩ := loopO_some.1 h48
  refine WP.loopI2 (fun n l V' => ∃ (v57 : Value) (xs58 : List Tflow_Span) (x59 : Int), l = [(1, .pointer (some ⟨b5, 0, none⟩)), (3, v57), (22, v49), (23, .int .i64 (x46.length : Int)), (24, .int .i64 x59)] ∧ V50.le V' ∧ Ow V' (.pt b5 (.cells 0 [.string p0.name, .int .i64 p0.params, .int .i64 p0.regs, v1]) :: .os RT_Tflow_Span v57 xs58 :: .os (RT.sl RT.bool) v49 x46 :: Rs) ∧ itO (fun s => flow_Spans_l2b p0 x46 s.1 s.2) n (xs58, x59) = some r) n64 _ ⟨v11, xs12, 0, Z, .refl _, ow62, hn63⟩ (allCons (L 5 Z Z) (allCons (L 6 Z Z) (allCons (L 2 Z Z) (allCons (L 1 Z Z) (allCons (L 0 Z Z) allNil))))) ?_
  rintro _ _ V65 ⟨v57, xs58, x59, rfl, le66, ow67, h71⟩
  obtain ⟨m68, q69, rfl, h72, e70⟩ := itS h71
  replace h72 : flow_Spans_l2b p0 x46 xs58 x59 = some q69 := h72
  unfold flow_Spans_l2b at h72
  refine WP.usreg Z ?_
  refine U.p Z Z (.inl Z) (S.lss Z (L 4 Z Z) (L 3 Z Z)) ?_
  refine U.done (nr Z) ?_
  refine WP.seq ?_
  refine WP.cond _ (L 0 Z Z) Z (fun c73 => ?_) (fun c73 => ?_)
  ·have h74 := ifT c73 h72
   refine WP.skip ?_
   refine sqN ?_
   refine WP.seq ?_
   refine WP.blk ?_
   refine WP.usreg Z ?_
   refine U.p Z Z (.inl Z) (S.move Z (L 5 Z Z)) ?_
   obtain ⟨x75, hx76, h77⟩ := bindS h74
   obtain ⟨b78, o79, n80, c81, hv82⟩ := ow67.ospt (k := 2) Z hx76
   obtain ⟨_, hv83, _⟩ := ow67.osel (k := 2) Z hv82 hx76
   refine U.p Z Z (.inl Z) (S.index Z ((L 4 Z Z).trans hv83) (L 6 Z Z) Try.underlying62 ti43 (ix_ge hx76) (ix_lt hx76)) ?_
   obtain ⟨cs84, hv85, hlt86, hr87, hc88⟩ := ow67.osel (k := 2) Z hv82 hx76
   obtain ⟨v89, rfl, f90⟩ := hr87
   refine U.k Z Z (.inl Z) (S.load Z (L 0 Z Z) Try.underlying43 Z (hc88 0 _ Z)) nd ?_
   refine U.p Z Z (.inl Z) (S.assign Z (L 2 Z Z)) ?_
   refine U.p Z Z (.inl Z) (S.assign Z (L 1 Z Z)) ?_
   refine U.done (nr Z) ?_
   refine WP.seq ?_
   refine WP.usreg Z ?_
   refine U.p Z Z (.inl Z) (S.move Z (L 0 Z Z)) ?_
   refine U.p Z Z (.inl Z) (f90.1.len Z (L 0 Z Z) Try.underlying43) ?_
   refine U.p Z Z (.inl Z) (S.move Z K) ?_
   refine U.done (nr Z) ?_
   refine WP.blk ?_
   unfold flow_Spans_l3 at h77
   obtain ⟨n96, hn95⟩ := loopO_some.1 h77
   refine WP.loopI2 (fun n l V' => ∃ (v92 : Value) (xs93 : List Tflow_Span) (x94 : Int), l = [(1, .pointer (some ⟨b5, 0, none⟩)), (3, v92), (5, .int .i64 x59), (22, v49), (23, .int .i64 (x46.length : Int)), (24, .int .i64 x59), (29, v89), (30, .int .i64 (x75.length : Int)), (31, .int .i64 x94)] ∧ V65.le V' ∧ Ow V' (.pt b5 (.cells 0 [.string p0.name, .int .i64 p0.params, .int .i64 p0.regs, v1]) :: .os RT_Tflow_Span v92 xs93 :: .os (RT.sl RT.bool) v49 x46 :: Rs) ∧ itO (fun s => flow_Spans_l3b p0 x59 x75 s.1 s.2) n (xs93, x94) = some q69) n96 _ ⟨v57, xs58, 0, Z, .refl _, ow67, hn95⟩ (allCons (L 9 Z Z) (allCons (L 10 Z Z) (allCons (L 4 Z Z) (allCons (L 11 Z Z) (allCons (L 12 Z Z) (allCons (L 13 Z Z) (allCons (L 2 Z Z) (allCons (L 1 Z Z) (allCons (L 0 Z Z) allNil))))))))) ?_
   rintro _ _ V97 ⟨v92, xs93, x94, rfl, le98, ow99, h103⟩
   obtain ⟨m100, q101, rfl, h104, e102⟩ := itS h103
   replace h104 : flow_Spans_l3b p0 x59 x75 xs93 x94 = some q101 := h104
   unfold flow_Spans_l3b at h104
   refine WP.usreg Z ?_
   refine U.p Z Z (.inl Z) (S.lss Z (L 8 Z Z) (L 7 Z Z)) ?_
   refine U.done (nr Z) ?_
   refine WP.seq ?_
   refine WP.cond _ (L 0 Z Z) Z (fun c105 => ?_) (fun c105 => ?_)
   ·have h106 := ifT c105 h104
    refine WP.skip ?_
    refine sqN ?_
    refine WP.seqI (fun l V' => ∃ (v108 : Value) (xs109 : List Tflow_Span), l = [(1, .pointer (some ⟨b5, 0, none⟩)), (3, v108), (5, .int .i64 x59), (22, v49), (23, .int .i64 (x46.length : Int)), (24, .int .i64 x59), (29, v89), (30, .int .i64 (x75.length : Int)), (31, .int .i64 x94)] ∧ V97.le V' ∧ Ow V' (.pt b5 (.cells 0 [.string p0.name, .int .i64 p0.params, .int .i64 p0.regs, v1]) :: .os RT_Tflow_Span v108 xs109 :: .os (RT.sl RT.bool) v49 x46 :: Rs) ∧ flow_Spans_k1 x94 xs109 = some q101) ?_ ?_
    ·rintro _ V110 ⟨v108, xs109, rfl, le111, ow112, h113⟩
     unfold flow_Spans_k1 at h113
     refine WP.ureg Z ?_
     refine U.p Z Z (.inl Z) (S.add Z (L 8 Z Z) K) ?_
     refine U.p Z Z (.inl Z) (S.move Z (L 0 Z Z)) ?_
     refine U.done (nr Z) ?_
     refine sqN ?_
     exact ⟨_, V110, Z, ⟨m100, Nat.lt_succ_self _, v108, xs109, w64 (x94 + 1), Z, (le98.trans le111), ow112, backS h113 e102⟩, (allCons (L 2 Z Z) (allCons (L 3 Z Z) (allCons (L 4 Z Z) (allCons (L 5 Z Z) (allCons (L 6 Z Z) (allCons (L 7 Z Z) (allCons (L 8 Z Z) (allCons (L 9 Z Z) (allCons (L 0 Z Z) allNil)))))))))⟩
    ·skip
     refine WP.blk ?_
     refine WP.usreg Z ?_
     refine U.p Z Z (.inl Z) (S.move Z (L 9 Z Z)) ?_
     obtain ⟨x114, hx115, h116⟩ := bindS h106
     obtain ⟨b117, o118, c119, cs120, hv121, hf122, hr123, hc124⟩ := f90.at hx115
     obtain rfl : cs120 = [.bool x114] := hr123
     refine U.p Z Z (.inl Z) (S.index Z ((L 8 Z Z).trans hv121) (L 10 Z Z) Try.underlying43 ti4 (ix_ge hx115) (ix_lt hx115)) ?_
     refine U.k Z Z (.inl Z) (S.load Z (L 0 Z Z) Try.underlying4 Z (le98.cell hf122 (hc124 0 _ Z))) nd ?_
     refine U.p Z Z (.inl Z) (S.assign Z (L 2 Z Z)) ?_
     refine U.p Z Z (.inl Z) (S.assign Z (L 1 Z Z)) ?_
     refine U.done (nr Z) ?_
     refine WP.usreg Z ?_
     refine U.p Z Z (.inl Z) (S.move Z (L 0 Z Z)) ?_
     refine U.done (nr Z) ?_
     refine WP.cond _ (L 0 Z Z) Z (fun c125 => ?_) (fun c125 => ?_)
     ·have h126 := ifT c125 h116
      refine WP.ureg Z ?_
      refine U.p Z Z (.inl Z) (S.move Z (L 8 Z Z)) ?_
      refine U.p Z Z (.inl Z) (S.move Z (L 3 Z Z)) ?_
      refine U.p Z Z (.inl Z) (S.move Z (L 11 Z Z)) ?_
      have ow127 := ow99.pick 1 Z
      obtain ⟨x128, hx129, h130⟩ := bindS h126
      refine O.call (V := V97) Z Z (.inl Z) Z en26 (aC (L 2 Z Z) (aC (L 1 Z Z) (aC (L 0 Z Z) aN))) (wk_flow_grow V97 _ xs93 x94 x59 v92 ow127 _ hx129) (fun _ _ _ _ => nd) (fun v131 V132 le133 hp134 => ?_)
      obtain ⟨_, rfl, ow135⟩ := hp134
      refine U.p Z Z (.inl Z) (S.assign Z (L 0 Z Z)) ?_
      refine U.done (nr Z) ?_
      refine blkN (sqN ?_)
      have ow138 := ow135.pick 2 Z
      have ow139 := ow138.pick 1 Z
      have ow140 := ow139.pick 2 Z
      exact ⟨_, V132, Z, ⟨v131, x128, Z, le133, ow140, h130⟩, (allCons (L 12 Z Z) (allCons (L 0 Z Z) (allCons (L 14 Z Z) (allCons (L 15 Z Z) (allCons (L 16 Z Z) (allCons (L 17 Z Z) (allCons (L 18 Z Z) (allCons (L 19 Z Z) (allCons (L 20 Z Z) allNil)))))))))⟩
     ·have h141 := ifF c125 h116
      refine WP.skip ?_
      refine blkN (sqN ?_)
      exact ⟨_, V97, Z, ⟨v92, xs93, Z, (.refl _), ow99, h141⟩, (allCons (L 7 Z Z) (allCons (L 8 Z Z) (allCons (L 9 Z Z) (allCons (L 10 Z Z) (allCons (L 11 Z Z) (allCons (L 12 Z Z) (allCons (L 13 Z Z) (allCons (L 14 Z Z) (allCons (L 15 Z Z) allNil)))))))))⟩
   ·have h142 := ifF c105 h104
    refine WP.exit ?_
    refine sqE (sqE (blkE (sqN ?_)))
    have h143 := exitS h142 e102
    refine WP.usreg Z ?_
    refine U.p (v := .pointer (some ⟨b5, 3, none⟩)) Z Z (.inl Z) (S.fieldAddr Z (L 1 Z Z) Try.underlying24 Z ti22 Z Z) ?_
    refine U.k Z Z (.inl Z) (S.load Z (L 0 Z Z) Try.underlying22 Z ((ow99.own (k := 0) Z).cell Z)) nd ?_
    refine U.p Z Z (.inl Z) (S.move Z (L 5 Z Z)) ?_
    obtain ⟨x144, hx145, h146⟩ := bindS h143
    obtain ⟨b147, o148, c149, cs150, hv151, hf152, hr153, hc154⟩ := f45.at hx145
    obtain ⟨v155, rfl, f156⟩ := hr153
    refine U.p Z Z (.inl Z) (S.index Z ((L 1 Z Z).trans hv151) (L 0 Z Z) Try.underlying22 ti29 (ix_ge hx145) (ix_lt hx145)) ?_
    refine U.k Z Z (.inl Z) (S.loadN (cs := [.int .i64 x144.op, .int .i64 x144.d, .int .i64 x144.a, .int .i64 x144.b, .int .i64 x144.imm, v155, .int .i64 x144.what, .bool x144.volatile, .bool x144.final]) Z (L 0 Z Z) Try.underlying29 Z ti29 Z (fun j v hj => ((le51.trans le66).trans le98).cell hf152 (hc154 j v hj))) nd ?_
    refine O.alloc ow99 Z Z (.inl Z) Z ti29 Z Z nd (fun b157 V158 le159 ow160 => ?_)
    refine O.store (k := 0) (cs := [.int .i64 x144.op, .int .i64 x144.d, .int .i64 x144.a, .int .i64 x144.b, .int .i64 x144.imm, v155, .int .i64 x144.what, .bool x144.volatile, .bool x144.final]) (c' := [.int .i64 x144.op, .int .i64 x144.d, .int .i64 x144.a, .int .i64 x144.b, .int .i64 x144.imm, v155, .int .i64 x144.what, .bool x144.volatile, .bool x144.final]) ow160 Z Z Z (.inl Z) Z (L 0 Z Z) (L 1 Z Z) ti29 (by simp [topV]) Z Z (nr Z) (by have q0 := f156.one; simp only [List.all_cons, List.all_nil, q0]; rfl) Z nd (fun V162 le163 ow164 => ?_)
    refine U.done (nr Z) ?_
    refine WP.usdreg Z Z Z ?_
    refine U.k Z Z (.inl Z) (S.loadB Z (L 0 Z Z) Try.underlying29 Z ti29 (ow164.own (k := 0) Z).get Z) (fun _ => (okH.nil (fun r h => by cases h; exact (ow164.own (k := 0) Z).lt))) ?_
    have f165 := f156.up ((((le51.trans le66).trans le98).trans le159).trans le163)
    obtain ⟨x166, hx167, h168⟩ := bindS h146
    refine O.call (V := V162) Z Z (.inl Z) Z en28 (aC (L 0 Z Z) aN) (wk_ir_Uses V162 _ x144 v155 f165 ow164 _ hx167) (fun v169 V170 le171 hp172 => by obtain ⟨_, rfl, ow173⟩ := hp172; exact (fun _ => (okH.cons (Or.inl Z) (okH.nil (fun r h => nomatch h))))) (fun v169 V170 le171 hp172 => ?_)
    obtain ⟨_, rfl, ow173⟩ := hp172
    refine U.k Z Z (.inl Z) (S.loadB Z (L 2 Z Z) Try.underlying29 Z ti29 (ow173.own (k := 1) Z).get Z) (fun _ => (okH.cons (Or.inr (Or.inl ((ow173.own (k := 1) Z).get.trans (ow164.own (k := 0) Z).get.symm))) (okH.cons trivial (okH.nil (fun r h => by cases h; exact (ow173.own (k := 1) Z).lt))))) ?_
    have f176 := f165.up le171
    obtain ⟨x177, hx178, h179⟩ := bindS h168
    refine O.call (V := V170) Z Z (.inl Z) Z en29 (aC (L 0 Z Z) aN) (wk_ir_Def V170 _ x144 v155 f176 ow173 _ hx178) (fun v180 V181 le182 hp183 => by obtain ⟨rfl, ow184⟩ := hp183; exact (fun _ => (okH.cons (Or.inl Z) (okH.cons Z (okH.cons (Or.inl Z) (okH.nil (fun r h => nomatch h))))))) (fun v180 V181 le182 hp183 => ?_)
    obtain ⟨rfl, ow184⟩ := hp183
    refine O.lit (R := (RT.int .i64)) ow184 Z Z (.inl Z) Z Try.underlying27 ti3 Z Z Z (nr Z) Z (aC (L 0 Z Z) aN) (.cons _ _ x177 _ (by simp [topV]) Z .nil) (fun _ => (fun _ => (okH.cons trivial (okH.cons trivial (okH.cons trivial (okH.cons trivial (okH.nil (fun r h => nomatch h)))))))) (fun v185 V186 le187 ow188 => ?_)
    obtain ⟨xs190, hx191, h192⟩ := bindS h179
    refine O.appendW (k := 1) ow188 Z Z Z (.inl Z) Z (L 3 Z Z) (L 0 Z Z) Try.underlying27 ti3 Z Z (nr Z) (ow188.src (k := 0) Z Try.underlying27) hx191 (fun V1 hs => (fun _ => (okH.cons (Or.inl Z) (okH.cons Z (okH.cons (Or.inl Z) (okH.cons Z (okH.cons (Or.inl Z) (okH.nil (fun r h => nomatch h))))))))) (fun v193 V194 le195 ow196 => ?_)
    refine U.p Z Z (.inl Z) (ow196.oslen (k := 1) Z Z (L 0 Z Z) Try.underlying27) ?_
    refine U.p Z Z (.inl Z) (S.move Z K) ?_
    refine U.done (nr Z) ?_
    refine WP.blk ?_
    have ow202 := ow196.drop 0 Z
    have ow203 := ow202.drop 1 Z
    have ow204 := ow203.pick 0 Z
    have ow205 := ow204.pick 3 Z
    have ow206 := ow205.pick 3 Z
    have ow207 := ow206.pick 3 Z
    unfold flow_Spans_l4 at h192
    obtain ⟨n209, hn208⟩ := loopO_some.1 h192
    refine WP.loopI2 (fun n l V' => ∃ (v199 : Value) (xs200 : List Tflow_Span) (x201 : Int), l = [(1, .pointer (some ⟨b5, 0, none⟩)), (3, v199), (5, .int .i64 x59), (22, v49), (23, .int .i64 (x46.length : Int)), (24, .int .i64 x59), (52, v193), (53, .int .i64 (xs190.length : Int)), (54, .int .i64 x201)] ∧ V194.le V' ∧ Ow V' (.pt b5 (.cells 0 [.string p0.name, .int .i64 p0.params, .int .i64 p0.regs, v1]) :: .os RT_Tflow_Span v199 xs200 :: .os (RT.sl RT.bool) v49 x46 :: .os (RT.int .i64) v193 xs190 :: Rs) ∧ itO (fun s => flow_Spans_l4b x59 xs190 s.1 s.2) n (xs200, x201) = some q69) n209 _ ⟨v92, xs93, 0, Z, .refl _, ow207, hn208⟩ (allCons (L 15 Z Z) (allCons (L 16 Z Z) (allCons (L 17 Z Z) (allCons (L 18 Z Z) (allCons (L 19 Z Z) (allCons (L 20 Z Z) (allCons (L 2 Z Z) (allCons (L 1 Z Z) (allCons (L 0 Z Z) allNil))))))))) ?_
    rintro _ _ V210 ⟨v199, xs200, x201, rfl, le211, ow212, h216⟩
    obtain ⟨m213, q214, rfl, h217, e215⟩ := itS h216
    replace h217 : flow_Spans_l4b x59 xs190 xs200 x201 = some q214 := h217
    unfold flow_Spans_l4b at h217
    refine WP.usreg Z ?_
    refine U.p Z Z (.inl Z) (S.lss Z (L 8 Z Z) (L 7 Z Z)) ?_
    refine U.done (nr Z) ?_
    refine WP.seq ?_
    refine WP.cond _ (L 0 Z Z) Z (fun c218 => ?_) (fun c218 => ?_)
    ·have h219 := ifT c218 h217
     refine WP.skip ?_
     refine sqN ?_
     refine WP.seqI (fun l V' => ∃ (v221 : Value) (xs222 : List Tflow_Span), l = [(1, .pointer (some ⟨b5, 0, none⟩)), (3, v221), (5, .int .i64 x59), (22, v49), (23, .int .i64 (x46.length : Int)), (24, .int .i64 x59), (52, v193), (53, .int .i64 (xs190.length : Int)), (54, .int .i64 x201)] ∧ V210.le V' ∧ Ow V' (.pt b5 (.cells 0 [.string p0.name, .int .i64 p0.params, .int .i64 p0.regs, v1]) :: .os RT_Tflow_Span v221 xs222 :: .os (RT.sl RT.bool) v49 x46 :: .os (RT.int .i64) v193 xs190 :: Rs) ∧ flow_Spans_k2 x201 xs222 = some q214) ?_ ?_
     ·rintro _ V223 ⟨v221, xs222, rfl, le224, ow225, h226⟩
      unfold flow_Spans_k2 at h226
      refine WP.ureg Z ?_
      refine U.p Z Z (.inl Z) (S.add Z (L 8 Z Z) K) ?_
      refine U.p Z Z (.inl Z) (S.move Z (L 0 Z Z)) ?_
      refine U.done (nr Z) ?_
      refine sqN ?_
      exact ⟨_, V223, Z, ⟨m213, Nat.lt_succ_self _, v221, xs222, w64 (x201 + 1), Z, (le211.trans le224), ow225, backS h226 e215⟩, (allCons (L 2 Z Z) (allCons (L 3 Z Z) (allCons (L 4 Z Z) (allCons (L 5 Z Z) (allCons (L 6 Z Z) (allCons (L 7 Z Z) (allCons (L 8 Z Z) (allCons (L 9 Z Z) (allCons (L 0 Z Z) allNil)))))))))⟩
     ·skip
      refine WP.blk ?_
      refine WP.usreg Z ?_
      obtain ⟨x227, hx228, h229⟩ := bindS h219
      obtain ⟨b230, o231, n232, c233, hv234⟩ := ow212.ospt (k := 3) Z hx228
      obtain ⟨_, hv235, _⟩ := ow212.osel (k := 3) Z hv234 hx228
      refine U.p Z Z (.inl Z) (S.index Z ((L 7 Z Z).trans hv235) (L 9 Z Z) Try.underlying27 ti3 (ix_ge hx228) (ix_lt hx228)) ?_
      obtain ⟨cs236, hv237, hlt238, hr239, hc240⟩ := ow212.osel (k := 3) Z hv234 hx228
      obtain rfl : cs236 = [.int .i64 x227] := hr239
      refine U.k Z Z (.inl Z) (S.load Z (L 0 Z Z) Try.underlying3 Z (hc240 0 _ Z)) nd ?_
      refine U.p Z Z (.inl Z) (S.assign Z (L 0 Z Z)) ?_
      refine U.done (nr Z) ?_
      refine WP.usreg Z ?_
      refine U.p Z Z (.inl Z) (S.move Z (L 0 Z Z)) ?_
      refine U.p Z Z (.inl Z) (S.geq Z (L 0 Z Z) K) ?_
      refine U.done (nr Z) ?_
      refine WP.cond _ (L 0 Z Z) Z (fun c241 => ?_) (fun c241 => ?_)
      ·have h242 := ifT c241 h229
       refine WP.ureg Z ?_
       refine U.p Z Z (.inl Z) (S.move Z (L 7 Z Z)) ?_
       refine U.p Z Z (.inl Z) (S.move Z (L 3 Z Z)) ?_
       refine U.p Z Z (.inl Z) (S.move Z (L 10 Z Z)) ?_
       have ow243 := ow212.pick 1 Z
       obtain ⟨x244, hx245, h246⟩ := bindS h242
       refine O.call (V := V210) Z Z (.inl Z) Z en26 (aC (L 2 Z Z) (aC (L 1 Z Z) (aC (L 0 Z Z) aN))) (wk_flow_grow V210 _ xs200 x227 x59 v199 ow243 _ hx245) (fun _ _ _ _ => nd) (fun v247 V248 le249 hp250 => ?_)
       obtain ⟨_, rfl, ow251⟩ := hp250
       refine U.p Z Z (.inl Z) (S.assign Z (L 0 Z Z)) ?_
       refine U.done (nr Z) ?_
       refine blkN (sqN ?_)
       have ow254 := ow251.pick 3 Z
       have ow255 := ow254.pick 3 Z
       have ow256 := ow255.pick 2 Z
       have ow257 := ow256.pick 3 Z
       exact ⟨_, V248, Z, ⟨v247, x244, Z, le249, ow257, h246⟩, (allCons (L 11 Z Z) (allCons (L 0 Z Z) (allCons (L 13 Z Z) (allCons (L 14 Z Z) (allCons (L 15 Z Z) (allCons (L 16 Z Z) (allCons (L 17 Z Z) (allCons (L 18 Z Z) (allCons (L 19 Z Z) allNil)))))))))⟩
      ·have h258 := ifF c241 h229
       refine WP.skip ?_
       refine blkN (sqN ?_)
       exact ⟨_, V210, Z, ⟨v199, xs200, Z, (.refl _), ow212, h258⟩, (allCons (L 6 Z Z) (allCons (L 7 Z Z) (allCons (L 8 Z Z) (allCons (L 9 Z Z) (allCons (L 10 Z Z) (allCons (L 11 Z Z) (allCons (L 12 Z Z) (allCons (L 13 Z Z) (allCons (L 14 Z Z) allNil)))))))))⟩
    ·have h259 := ifF c218 h217
     refine WP.exit ?_
     refine sqE (sqE (blkE (blkN (sqN ?_))))
     have h260 := exitS h259 e215
     refine WP.ureg Z ?_
     refine U.p Z Z (.inl Z) (S.add Z (L 6 Z Z) K) ?_
     refine U.p Z Z (.inl Z) (S.move Z (L 0 Z Z)) ?_
     refine U.done (nr Z) ?_
     refine sqN ?_
     have ow261 := ow212.drop 3 Z
     exact ⟨_, V210, Z, ⟨m68, Nat.lt_succ_self _, v199, xs200, w64 (x59 + 1), Z, ((((((((le66.trans le98).trans le159).trans le163).trans le171).trans le182).trans le187).trans le195).trans le211), ow261, backS h260 e70⟩, (allCons (L 3 Z Z) (allCons (L 4 Z Z) (allCons (L 6 Z Z) (allCons (L 7 Z Z) (allCons (L 0 Z Z) allNil)))))⟩
  ·have h262 := ifF c73 h72
   refine WP.exit ?_
   refine sqE (sqE (blkE (sqN ?_)))
   have h263 := exitS h262 e70
   refine WP.usreg Z ?_
   refine U.p Z Z (.inl Z) (S.move Z (L 2 Z Z)) ?_
   have ow264 := ow67.pick 1 Z
   obtain ⟨x265, hx266, h267⟩ := bindS h263
   refine O.call (V := V65) Z Z (.inl Z) Z en30 (aC (L 0 Z Z) (aC Fu aN)) (wk_slices_SortFunc V65 _ xs58 v57 ow264 _ hx266) (fun _ _ _ _ => nd) (fun v268 V269 le270 hp271 => ?_)
   have ow272 := hp271
   refine U.done (nr Z) ?_
   refine WP.usreg Z ?_
   refine U.p Z Z (.inl Z) (S.move Z (L 4 Z Z)) ?_
   refine U.p Z Z (.inl Z) (S.assign Z (L 0 Z Z)) ?_
   refine U.done (nr Z) ?_
   refine WP.ret ?_
   refine fin.slot (.inr Z) Z (L 0 Z Z) ⟨V269, Z, ((((le7.trans le21).trans le51).trans le66).trans le270), ?_⟩
   have ow273 := ow272.drop 1 Z
   have ow274 := ow273.drop 1 Z
   have e275 := Option.some.inj h267
   subst e275
   exact ⟨v57, Z, ow274⟩
theorem wk_regs_scan_expire_c1 (V : Vw) (Rs : List At) (p0 : Tflow_Span) (p1 : Int) (p2 : Tregs_scan) (b1 : Nat) (z2 : Nat) (b4 : Nat) (z5 : Nat) (b7 : Nat) (z8 : Nat) (v10 : Value) (v12 : Value) (v13 : Value) (ow : Ow V (.pt b1 (.cells z2 [.int .i64 p1]) :: .pt b4 (.cells z5 [.pointer (some ⟨b7, 0, none⟩)]) :: .pt b7 (.cells z8 [v10, v12, v13, .int .i64 p2.spills]) :: .os (RT.int .i64) v10 p2.at_ :: .os RT.bool v13 p2.free :: Rs)) (r : Bool × Tregs_scan) (h : regs_scan_expire_c1 p0 p1 p2 = some r) : ∃ v V', Cl Try.prog 0 33 #[.agg #[.int .i64 p0.reg, .int .i64 p0.from_, .int .i64 p0.to_], .pointer (some ⟨b1, 0, none⟩), .pointer (some ⟨b4, 0, none⟩)] V.H v V'.H ∧ V.le V' ∧ (∃ (v15 : Value), v = .bool r.1 ∧ Ow V' (.pt b1 (.cells z2 [.int .i64 p1]) :: .pt b4 (.cells z5 [.pointer (some ⟨b7, 0, none⟩)]) :: .pt b7 (.cells z8 [v10, v15, v13, .int .i64 r.2.spills]) :: .os (RT.int .i64) v10 r.2.at_ :: .os RT.bool v13 r.2.free :: Rs)) := by
 refine Ct.of (Nat.zero_le _) Try.func33 Z (nr Z) ?_
 unfold regs_scan_expire_c1 at h
 refine WP.usreg Z ?_
 refine O.box ow Z Z (.inl Z) Z (L 0 Z Z) (by simp [topV]) Z nd (fun b16 V17 le18 ow19 => ?_)
 refine U.p Z Z (.inl Z) (S.assign Z K) ?_
 refine U.done (nr Z) ?_
 refine WP.seq ?_
 refine WP.usreg Z ?_
 refine U.p (v := .pointer (some ⟨b16, 2, none⟩)) Z Z (.inl Z) (S.fieldAddr Z (L 1 Z Z) Try.underlying49 Z ti3 Z Z) ?_
 refine U.k Z Z (.inl Z) (S.load Z (L 0 Z Z) Try.underlying3 Z ((ow19.own (k := 0) Z).cell Z)) nd ?_
 refine U.k Z Z (.inl Z) (S.load Z (L 5 Z Z) Try.underlying3 Z ((ow19.own (k := 1) Z).cell Z)) nd ?_
 refine U.p Z Z (.inl Z) (S.lss Z (L 1 Z Z) (L 0 Z Z)) ?_
 refine U.done (nr Z) ?_
 refine WP.cond _ (L 0 Z Z) Z (fun c21 => ?_) (fun c21 => ?_)
 ·have h22 := ifT c21 h
  refine WP.usdreg Z Z Z ?_
  refine U.k Z Z (.inl Z) (S.loadC Z (L 8 Z Z) Try.underlying42 Z ((ow19.own (k := 2) Z).cell Z)) (fun _ => (okH.nil (fun r h => by cases h; exact (ow19.own (k := 2) Z).lt))) ?_
  refine U.p Z Z (.inl Z) (S.nilCheck Z (L 0 Z Z)) ?_
  refine U.p (v := .pointer (some ⟨b7, 2, none⟩)) Z Z (.inl Z) (S.fieldAddr Z (L 0 Z Z) Try.underlying46 Z ti43 Z Z) ?_
  refine U.k Z Z (.inl Z) (S.loadC Z (L 0 Z Z) Try.underlying43 Z ((ow19.own (k := 3) Z).cell Z)) (fun _ => (okH.cons trivial (okH.nil (fun r h => by cases h; exact (ow19.own (k := 3) Z).lt)))) ?_
  refine U.k Z Z (.inl Z) (S.loadC Z (L 12 Z Z) Try.underlying42 Z ((ow19.own (k := 2) Z).cell Z)) (fun _ => (okH.cons trivial (okH.cons trivial (okH.nil (fun r h => by cases h; exact (ow19.own (k := 2) Z).lt))))) ?_
  refine U.p Z Z (.inl Z) (S.nilCheck Z (L 0 Z Z)) ?_
  refine U.p (v := .pointer (some ⟨b7, 0, none⟩)) Z Z (.inl Z) (S.fieldAddr Z (L 0 Z Z) Try.underlying46 Z ti27 Z Z) ?_
  refine U.k Z Z (.inl Z) (S.loadC Z (L 0 Z Z) Try.underlying27 Z ((ow19.own (k := 3) Z).cell Z)) (fun _ => (okH.cons trivial (okH.cons trivial (okH.cons trivial (okH.nil (fun r h => by cases h; exact (ow19.own (k := 3) Z).lt)))))) ?_
  refine U.p (v := .pointer (some ⟨b16, 0, none⟩)) Z Z (.inl Z) (S.fieldAddr Z (L 13 Z Z) Try.underlying49 Z ti3 Z Z) ?_
  refine U.k Z Z (.inl Z) (S.loadC Z (L 0 Z Z) Try.underlying3 Z ((ow19.own (k := 0) Z).cell Z)) (fun _ => (okH.cons trivial (okH.cons trivial (okH.cons trivial (okH.cons trivial (okH.nil (fun r h => by cases h; exact (ow19.own (k := 0) Z).lt))))))) ?_
  obtain ⟨x23, hx24, h25⟩ := bindS h22
  obtain ⟨b26, o27, n28, c29, hv30⟩ := ow19.ospt (k := 4) Z hx24
  obtain ⟨_, hv31, _⟩ := ow19.osel (k := 4) Z hv30 hx24
  refine U.p Z Z (.inl Z) (S.index Z ((L 2 Z Z).trans hv31) (L 0 Z Z) Try.underlying27 ti3 (ix_ge hx24) (ix_lt hx24)) ?_
  obtain ⟨cs32, hv33, hlt34, hr35, hc36⟩ := ow19.osel (k := 4) Z hv30 hx24
  obtain rfl : cs32 = [.int .i64 x23] := hr35
  refine U.k Z Z (.inl Z) (S.load Z (L 0 Z Z) Try.underlying3 Z (hc36 0 _ Z)) (fun _ => (okH.cons trivial (okH.cons trivial (okH.cons trivial (okH.cons trivial (okH.cons trivial (okH.nil (fun r h => by cases h; exact hlt34)))))))) ?_
  obtain ⟨x37, hx38, h39⟩ := bindS h25
  obtain ⟨b40, o41, n42, c43, hv44⟩ := ow19.ospt (k := 5) Z hx38
  obtain ⟨_, hv45, _⟩ := ow19.osel (k := 5) Z hv44 hx38
  refine U.p Z Z (.inl Z) (S.index Z ((L 8 Z Z).trans hv45) (L 0 Z Z) Try.underlying43 ti4 (ix_ge hx38) (ix_lt hx38)) ?_
  obtain ⟨cs46, hv47, hlt48, hr49, hc50⟩ := ow19.osel (k := 5) Z hv44 hx38
  obtain rfl : cs46 = [.bool x37] := hr49
  refine O.storeE (k := 5) (R := RT.bool) (j := 0) (y := true) (cs := [.bool true]) ow19 Z hv47 Z Z (.inl Z) Z (L 0 Z Z) K ti4 hx38 (by simp [topV]) Z Z Z (full Z) (fun H1 hs => (fun _ => (okH.cons (Or.inl Z) (okH.cons (Or.inl Z) (okH.cons (Or.inl Z) (okH.cons (Or.inl Z) (okH.cons (Or.inl Z) (okH.cons (Or.inl Z) (okH.nil (fun r h => nomatch h)))))))))) (fun V51 le52 ow53 => ?_)
  refine U.done (nr Z) ?_
  refine WP.usreg Z ?_
  refine U.p Z Z (.inl Z) (S.assign Z K) ?_
  refine U.done (nr Z) ?_
  refine WP.ret ?_
  refine sqR ?_
  refine fin.slot (.inr Z) Z (L 0 Z Z) ⟨V51, Z, (le18.trans le52), ?_⟩
  have ow54 := ow53.drop 0 Z
  have e55 := Option.some.inj h39
  subst e55
  exact ⟨v12, Z, ow54⟩
 ·have h56 := ifF c21 h
  refine WP.skip ?_
  refine sqN ?_
  refine WP.usreg Z ?_
  refine U.p Z Z (.inl Z) (S.assign Z K) ?_
  refine U.done (nr Z) ?_
  refine WP.ret ?_
  refine fin.slot (.inr Z) Z (L 0 Z Z) ⟨V17, Z, le18, ?_⟩
  have ow57 := ow19.drop 0 Z
  have e58 := Option.some.inj h56
  subst e58
  exact ⟨v12, Z, ow57⟩
theorem wk_slices_IndexFunc_4 (V : Vw) (Rs : List At) (p0 : List Tflow_Span) (p1_10 : Int) (p1_11 : Tregs_scan) (v1 : Value) (b3 : Nat) (z4 : Nat) (b6 : Nat) (z7 : Nat) (b9 : Nat) (z10 : Nat) (v12 : Value) (v14 : Value) (v15 : Value) (ow : Ow V (.os RT_Tflow_Span v1 p0 :: .pt b3 (.cells z4 [.int .i64 p1_10]) :: .pt b6 (.cells z7 [.pointer (some ⟨b9, 0, none⟩)]) :: .pt b9 (.cells z10 [v12, v14, v15, .int .i64 p1_11.spills]) :: .os (RT.int .i64) v12 p1_11.at_ :: .os RT.bool v15 p1_11.free :: Rs)) (r : Int × Tregs_scan) (h : slices_IndexFunc_4 p0 p1_10 p1_11 = some r) : ∃ v V', Cl Try.prog 0 39 #[v1, .func (.func 33) #[] #[.pointer (some ⟨b3, 0, none⟩), .pointer (some ⟨b6, 0, none⟩)]] V.H v V'.H ∧ V.le V' ∧ (∃ (v17 : Value), v = .int .i64 r.1 ∧ Ow V' (.os RT_Tflow_Span v1 p0 :: .pt b3 (.cells z4 [.int .i64 p1_10]) :: .pt b6 (.cells z7 [.pointer (some ⟨b9, 0, none⟩)]) :: .pt b9 (.cells z10 [v12, v17, v15, .int .i64 r.2.spills]) :: .os (RT.int .i64) v12 r.2.at_ :: .os RT.bool v15 r.2.free :: Rs)) := by
 refine Ct.of (Nat.zero_le _) Try.func39 Z (nr Z) ?_
 unfold slices_IndexFunc_4 at h
 refine WP.usreg Z ?_
 refine U.p Z Z (.inl Z) (S.assign Z K) ?_
 refine U.done (nr Z) ?_
 refine WP.seq ?_
 refine WP.usreg Z ?_
 refine U.p Z Z (.inl Z) (S.move Z (L 1 Z Z)) ?_
 refine U.p Z Z (.inl Z) (ow.oslen (k := 0) Z Z (L 0 Z Z) Try.underlying44) ?_
 refine U.p Z Z (.inl Z) (S.move Z K) ?_
 refine U.done (nr Z) ?_
 refine WP.blk ?_
 unfold slices_IndexFunc_4_l1 at h
 obtain ⟨n24, hn23⟩ := loopO_some.1 h
 refine WP.loopI2 (fun n l V' => ∃ (xs18 : List Int) (u19 : Value) (xs20 : List Bool) (x21 : Int) (x22 : Int), l = [(0, v1), (1, .func (.func 33) #[] #[.pointer (some ⟨b3, 0, none⟩), .pointer (some ⟨b6, 0, none⟩)]), (7, .int .i64 (p0.length : Int)), (8, .int .i64 x22)] ∧ V.le V' ∧ Ow V' (.os RT_Tflow_Span v1 p0 :: .pt b3 (.cells z4 [.int .i64 p1_10]) :: .pt b6 (.cells z7 [.pointer (some ⟨b9, 0, none⟩)]) :: .pt b9 (.cells z10 [v12, u19, v15, .int .i64 x21]) :: .os (RT.int .i64) v12 xs18 :: .os RT.bool v15 xs20 :: Rs) ∧ itO (fun s => slices_IndexFunc_4_l1b p0 p1_10 s.1 s.2.1 s.2.2.1 s.2.2.2) n (xs18, xs20, x21, x22) = some r) n24 _ ⟨p1_11.at_, v14, p1_11.free, p1_11.spills, 0, Z, .refl _, ow, hn23⟩ (allCons (L 4 Z Z) (allCons (L 5 Z Z) (allCons (L 1 Z Z) (allCons (L 0 Z Z) allNil)))) ?_
 rintro _ _ V25 ⟨xs18, u19, xs20, x21, x22, rfl, le26, ow27, h31⟩
 obtain ⟨m28, q29, rfl, h32, e30⟩ := itS h31
 replace h32 : slices_IndexFunc_4_l1b p0 p1_10 xs18 xs20 x21 x22 = some q29 := h32
 unfold slices_IndexFunc_4_l1b at h32
 refine WP.usreg Z ?_
 refine U.p Z Z (.inl Z) (S.lss Z (L 3 Z Z) (L 2 Z Z)) ?_
 refine U.done (nr Z) ?_
 refine WP.seq ?_
 refine WP.cond _ (L 0 Z Z) Z (fun c33 => ?_) (fun c33 => ?_)
 ·have h34 := ifT c33 h32
  refine WP.skip ?_
  refine sqN ?_
  refine WP.seq ?_
  refine WP.blk ?_
  refine WP.usreg Z ?_
  refine U.p Z Z (.inl Z) (S.move Z (L 4 Z Z)) ?_
  refine U.p Z Z (.inl Z) (S.assign Z (L 0 Z Z)) ?_
  refine U.done (nr Z) ?_
  refine WP.usreg Z ?_
  refine U.p Z Z (.inl Z) (S.move Z (L 4 Z Z)) ?_
  refine U.p Z Z (.inl Z) (S.move Z (L 4 Z Z)) ?_
  refine U.p Z Z (.inl Z) (S.move Z (L 2 Z Z)) ?_
  obtain ⟨x35, hx36, h37⟩ := bindS h34
  obtain ⟨b38, o39, n40, c41, hv42⟩ := ow27.ospt (k := 0) Z hx36
  obtain ⟨_, hv43, _⟩ := ow27.osel (k := 0) Z hv42 hx36
  refine U.p Z Z (.inl Z) (S.index Z ((L 1 Z Z).trans hv43) (L 0 Z Z) Try.underlying44 ti49 (ix_ge hx36) (ix_lt hx36)) ?_
  obtain ⟨cs44, hv45, hlt46, hr47, hc48⟩ := ow27.osel (k := 0) Z hv42 hx36
  obtain rfl : cs44 = [.int .i64 x35.reg, .int .i64 x35.from_, .int .i64 x35.to_] := hr47
  refine U.k Z Z (.inl Z) (S.loadN (cs := [.int .i64 x35.reg, .int .i64 x35.from_, .int .i64 x35.to_]) Z (L 0 Z Z) Try.underlying49 Z ti49 Z hc48) nd ?_
  have ow49 := ow27.pick 5 Z
  have ow50 := ow49.pick 5 Z
  have ow51 := ow50.pick 5 Z
  have ow52 := ow51.pick 5 Z
  have ow53 := ow52.pick 5 Z
  obtain ⟨x54, hx55, h56⟩ := bindS h37
  refine O.callv (V := V25) Z Z (.inl Z) Z (L 4 Z Z) en33 (aC (L 0 Z Z) aN) (wk_regs_scan_expire_c1 V25 _ x35 p1_10 (⟨xs18, [], xs20, x21⟩ : Tregs_scan) b3 z4 b6 z7 b9 z10 v12 u19 v15 ow53 _ hx55) (fun _ _ _ _ => nd) (fun v57 V58 le59 hp60 => ?_)
  obtain ⟨v62, rfl, ow61⟩ := hp60
  refine U.done (nr Z) ?_
  refine WP.cond _ (L 0 Z Z) Z (fun c63 => ?_) (fun c63 => ?_)
  ·have h64 := ifT c63 h56
   refine WP.usreg Z ?_
   refine U.p Z Z (.inl Z) (S.move Z (L 6 Z Z)) ?_
   refine U.p Z Z (.inl Z) (S.assign Z (L 0 Z Z)) ?_
   refine U.done (nr Z) ?_
   refine WP.ret ?_
   refine blkR (sqR (sqR (blkR (sqR ?_))))
   have h65 := exitS h64 e30
   refine fin.slot (.inr Z) Z (L 0 Z Z) ⟨V58, Z, (le26.trans le59), ?_⟩
   have ow66 := ow61.pick 4 Z
   have ow67 := ow66.pick 4 Z
   have ow68 := ow67.pick 4 Z
   have ow69 := ow68.pick 4 Z
   have ow70 := ow69.pick 4 Z
   have ow71 := ow70.pick 5 Z
   have e72 := Option.some.inj h65
   subst e72
   exact ⟨v62, Z, ow71⟩
  ·have h73 := ifF c63 h56
   refine WP.skip ?_
   refine blkN (sqN ?_)
   refine WP.ureg Z ?_
   refine U.p Z Z (.inl Z) (S.add Z (L 12 Z Z) K) ?_
   refine U.p Z Z (.inl Z) (S.move Z (L 0 Z Z)) ?_
   refine U.done (nr Z) ?_
   refine sqN ?_
   have ow74 := ow61.pick 4 Z
   have ow75 := ow74.pick 4 Z
   have ow76 := ow75.pick 4 Z
   have ow77 := ow76.pick 4 Z
   have ow78 := ow77.pick 4 Z
   have ow79 := ow78.pick 5 Z
   exact ⟨_, V58, Z, ⟨m28, Nat.lt_succ_self _, x54.2.at_, v62, x54.2.free, x54.2.spills, w64 (x22 + 1), Z, (le26.trans le59), ow79, backS h73 e30⟩, (allCons (L 11 Z Z) (allCons (L 12 Z Z) (allCons (L 13 Z Z) (allCons (L 0 Z Z) allNil))))⟩
 ·have h80 := ifF c33 h32
  refine WP.exit ?_
  refine sqE (sqE (blkE (sqN ?_)))
  have h81 := exitS h80 e30
  refine WP.usreg Z ?_
  refine U.p Z Z (.inl Z) (S.assign Z K) ?_
  refine U.done (nr Z) ?_
  refine WP.ret ?_
  refine fin.slot (.inr Z) Z (L 0 Z Z) ⟨V25, Z, le26, ?_⟩
  have e82 := Option.some.inj h81
  subst e82
  exact ⟨u19, Z, ow27⟩
theorem wk_slices_DeleteFunc (V : Vw) (Rs : List At) (p0 : List Tflow_Span) (p1_10 : Int) (p1_11 : Tregs_scan) (v1 : Value) (b3 : Nat) (z4 : Nat) (b6 : Nat) (z7 : Nat) (b9 : Nat) (z10 : Nat) (v12 : Value) (v14 : Value) (v15 : Value) (ow : Ow V (.os RT_Tflow_Span v1 p0 :: .pt b3 (.cells z4 [.int .i64 p1_10]) :: .pt b6 (.cells z7 [.pointer (some ⟨b9, 0, none⟩)]) :: .pt b9 (.cells z10 [v12, v14, v15, .int .i64 p1_11.spills]) :: .os (RT.int .i64) v12 p1_11.at_ :: .os RT.bool v15 p1_11.free :: Rs)) (r : (List Tflow_Span) × Tregs_scan) (h : slices_DeleteFunc p0 p1_10 p1_11 = some r) : ∃ v V', Cl Try.prog 0 32 #[v1, .func (.func 33) #[] #[.pointer (some ⟨b3, 0, none⟩), .pointer (some ⟨b6, 0, none⟩)]] V.H v V'.H ∧ V.le V' ∧ (∃ (v17 : Value) (v19 : Value), v = v17 ∧ Ow V' (.os RT_Tflow_Span v17 r.1 :: .pt b3 (.cells z4 [.int .i64 p1_10]) :: .pt b6 (.cells z7 [.pointer (some ⟨b9, 0, none⟩)]) :: .pt b9 (.cells z10 [v12, v19, v15, .int .i64 r.2.spills]) :: .os (RT.int .i64) v12 r.2.at_ :: .os RT.bool v15 r.2.free :: Rs)) := by
 refine Ct.of (Nat.zero_le _) Try.func32 Z (nr Z) ?_
 unfold slices_DeleteFunc at h
 refine WP.usreg Z ?_
 refine U.p Z Z (.inl Z) (S.assign Z K) ?_
 refine U.done (nr Z) ?_
 refine WP.usreg Z ?_
 refine U.p Z Z (.inl Z) (S.move Z (L 1 Z Z)) ?_
 refine U.p Z Z (.inl Z) (S.move Z (L 3 Z Z)) ?_
 have ow20 := ow.pick 5 Z
 have ow21 := ow20.pick 5 Z
 have ow22 := ow21.pick 5 Z
 have ow23 := ow22.pick 5 Z
 have ow24 := ow23.pick 5 Z
 have ow25 := ow24.pick 5 Z
 obtain ⟨x26, hx27, h28⟩ := bindS h
 refine O.call (V := V) Z Z (.inl Z) Z en39 (aC (L 1 Z Z) (aC (L 0 Z Z) aN)) (wk_slices_IndexFunc_4 V _ p0 p1_10 (⟨p1_11.at_, [], p1_11.free, p1_11.spills⟩ : Tregs_scan) v1 b3 z4 b6 z7 b9 z10 v12 v14 v15 ow25 _ hx27) (fun _ _ _ _ => nd) (fun v29 V30 le31 hp32 => ?_)
 obtain ⟨v34, rfl, ow33⟩ := hp32
 refine U.p Z Z (.inl Z) (S.assign Z (L 0 Z Z)) ?_
 refine U.done (nr Z) ?_
 refine WP.seq ?_
 refine WP.usreg Z ?_
 refine U.p Z Z (.inl Z) (S.move Z (L 0 Z Z)) ?_
 refine U.p Z Z (.inl Z) (S.eqlI Z (L 0 Z Z) K) ?_
 refine U.done (nr Z) ?_
 refine WP.cond _ (L 0 Z Z) Z (fun c35 => ?_) (fun c35 => ?_)
 ·have h36 := ifT c35 h28
  refine WP.usreg Z ?_
  refine U.p Z Z (.inl Z) (S.move Z (L 7 Z Z)) ?_
  refine U.p Z Z (.inl Z) (S.assign Z (L 0 Z Z)) ?_
  refine U.done (nr Z) ?_
  refine WP.ret ?_
  refine sqR ?_
  refine fin.slot (.inr Z) Z (L 0 Z Z) ⟨V30, Z, le31, ?_⟩
  have e37 := Option.some.inj h36
  subst e37
  exact ⟨v1, v34, Z, ow33⟩
 ·have h38 := ifF c35 h28
  refine WP.skip ?_
  refine sqN ?_
  refine WP.seq ?_
  refine WP.usreg Z ?_
  refine U.p Z Z (.inl Z) (S.move Z (L 2 Z Z)) ?_
  refine U.p Z Z (.inl Z) (S.add Z (L 0 Z Z) K) ?_
  refine U.p Z Z (.inl Z) (S.assign Z (L 0 Z Z)) ?_
  refine U.done (nr Z) ?_
  refine WP.blk ?_
  unfold slices_DeleteFunc_l1 at h38
  obtain ⟨n47, hn46⟩ := loopO_some.1 h38
  refine WP.loopI2 (fun n l V' => ∃ (xs39 : List Tflow_Span) (xs40 : List Int) (u41 : Value) (xs42 : List Bool) (x43 : Int) (x44 : Int) (x45 : Int), l = [(0, v1), (1, .func (.func 33) #[] #[.pointer (some ⟨b3, 0, none⟩), .pointer (some ⟨b6, 0, none⟩)]), (5, .int .i64 x44), (6, .int .i64 x45)] ∧ V30.le V' ∧ Ow V' (.os RT_Tflow_Span v1 xs39 :: .pt b3 (.cells z4 [.int .i64 p1_10]) :: .pt b6 (.cells z7 [.pointer (some ⟨b9, 0, none⟩)]) :: .pt b9 (.cells z10 [v12, u41, v15, .int .i64 x43]) :: .os (RT.int .i64) v12 xs40 :: .os RT.bool v15 xs42 :: Rs) ∧ itO (fun s => slices_DeleteFunc_l1b p1_10 s.1 s.2.1 s.2.2.1 s.2.2.2.1 s.2.2.2.2.1 s.2.2.2.2.2) n (xs39, xs40, xs42, x43, x44, x45) = some r) n47 _ ⟨p0, x26.2.at_, v34, x26.2.free, x26.2.spills, x26.1, w64 (x26.1 + 1), Z, .refl _, ow33, hn46⟩ (allCons (L 10 Z Z) (allCons (L 11 Z Z) (allCons (L 5 Z Z) (allCons (L 0 Z Z) allNil)))) ?_
  rintro _ _ V48 ⟨xs39, xs40, u41, xs42, x43, x44, x45, rfl, le49, ow50, h54⟩
  obtain ⟨m51, q52, rfl, h55, e53⟩ := itS h54
  replace h55 : slices_DeleteFunc_l1b p1_10 xs39 xs40 xs42 x43 x44 x45 = some q52 := h55
  unfold slices_DeleteFunc_l1b at h55
  refine WP.seq ?_
  refine WP.usreg Z ?_
  refine U.p Z Z (.inl Z) (S.move Z (L 3 Z Z)) ?_
  refine U.p Z Z (.inl Z) (S.move Z (L 1 Z Z)) ?_
  refine U.p Z Z (.inl Z) (ow50.oslen (k := 0) Z Z (L 0 Z Z) Try.underlying44) ?_
  refine U.p Z Z (.inl Z) (S.lss Z (L 2 Z Z) (L 0 Z Z)) ?_
  refine U.done (nr Z) ?_
  refine WP.cond _ (L 0 Z Z) Z (fun c56 => ?_) (fun c56 => ?_)
  ·have h57 := ifT c56 h55
   refine WP.skip ?_
   refine sqN ?_
   refine WP.seqI (fun l V' => ∃ (xs58 : List Tflow_Span) (xs59 : List Int) (u60 : Value) (xs61 : List Bool) (x62 : Int) (x63 : Int), l = [(0, v1), (1, .func (.func 33) #[] #[.pointer (some ⟨b3, 0, none⟩), .pointer (some ⟨b6, 0, none⟩)]), (5, .int .i64 x63), (6, .int .i64 x45)] ∧ V48.le V' ∧ Ow V' (.os RT_Tflow_Span v1 xs58 :: .pt b3 (.cells z4 [.int .i64 p1_10]) :: .pt b6 (.cells z7 [.pointer (some ⟨b9, 0, none⟩)]) :: .pt b9 (.cells z10 [v12, u60, v15, .int .i64 x62]) :: .os (RT.int .i64) v12 xs59 :: .os RT.bool v15 xs61 :: Rs) ∧ slices_DeleteFunc_k1 x45 xs58 xs59 xs61 x62 x63 = some q52) ?_ ?_
   ·rintro _ V64 ⟨xs58, xs59, u60, xs61, x62, x63, rfl, le65, ow66, h67⟩
    unfold slices_DeleteFunc_k1 at h67
    refine WP.ureg Z ?_
    refine U.p Z Z (.inl Z) (S.move Z (L 3 Z Z)) ?_
    refine U.p Z Z (.inl Z) (S.add Z (L 0 Z Z) K) ?_
    refine U.p Z Z (.inl Z) (S.assign Z (L 0 Z Z)) ?_
    refine U.done (nr Z) ?_
    refine sqN ?_
    exact ⟨_, V64, Z, ⟨m51, Nat.lt_succ_self _, xs58, xs59, u60, xs61, x62, x63, w64 (x45 + 1), Z, (le49.trans le65), ow66, backS h67 e53⟩, (allCons (L 3 Z Z) (allCons (L 4 Z Z) (allCons (L 5 Z Z) (allCons (L 0 Z Z) allNil))))⟩
   ·skip
    refine WP.blk ?_
    refine WP.usreg Z ?_
    refine U.p Z Z (.inl Z) (S.move Z (L 4 Z Z)) ?_
    refine U.p Z Z (.inl Z) (S.move Z (L 8 Z Z)) ?_
    obtain ⟨x68, hx69, h70⟩ := bindS h57
    obtain ⟨b71, o72, n73, c74, hv75⟩ := ow50.ospt (k := 0) Z hx69
    obtain ⟨_, hv76, _⟩ := ow50.osel (k := 0) Z hv75 hx69
    refine U.p Z Z (.inl Z) (S.index Z ((L 1 Z Z).trans hv76) (L 0 Z Z) Try.underlying44 ti49 (ix_ge hx69) (ix_lt hx69)) ?_
    obtain ⟨cs77, hv78, hlt79, hr80, hc81⟩ := ow50.osel (k := 0) Z hv75 hx69
    obtain rfl : cs77 = [.int .i64 x68.reg, .int .i64 x68.from_, .int .i64 x68.to_] := hr80
    refine U.k Z Z (.inl Z) (S.loadN (cs := [.int .i64 x68.reg, .int .i64 x68.from_, .int .i64 x68.to_]) Z (L 0 Z Z) Try.underlying49 Z ti49 Z hc81) nd ?_
    refine O.alloc ow50 Z Z (.inl Z) Z ti49 Z Z nd (fun b82 V83 le84 ow85 => ?_)
    refine O.store (k := 0) (cs := [.int .i64 x68.reg, .int .i64 x68.from_, .int .i64 x68.to_]) (c' := [.int .i64 x68.reg, .int .i64 x68.from_, .int .i64 x68.to_]) ow85 Z Z Z (.inl Z) Z (L 0 Z Z) (L 1 Z Z) ti49 (by simp [topV]) Z Z (nr Z) Z Z nd (fun V87 le88 ow89 => ?_)
    refine U.done (nr Z) ?_
    refine WP.usreg Z ?_
    refine U.p Z Z (.inl Z) (S.move Z (L 10 Z Z)) ?_
    refine U.k Z Z (.inl Z) (S.loadB Z (L 1 Z Z) Try.underlying49 Z ti49 (ow89.own (k := 0) Z).get Z) nd ?_
    have ow90 := ow89.pick 6 Z
    have ow91 := ow90.pick 6 Z
    have ow92 := ow91.pick 6 Z
    have ow93 := ow92.pick 6 Z
    have ow94 := ow93.pick 6 Z
    obtain ⟨x95, hx96, h97⟩ := bindS h70
    refine O.callv (V := V87) Z Z (.inl Z) Z (L 1 Z Z) en33 (aC (L 0 Z Z) aN) (wk_regs_scan_expire_c1 V87 _ x68 p1_10 (⟨xs40, [], xs42, x43⟩ : Tregs_scan) b3 z4 b6 z7 b9 z10 v12 u41 v15 ow94 _ hx96) (fun _ _ _ _ => nd) (fun v98 V99 le100 hp101 => ?_)
    obtain ⟨v103, rfl, ow102⟩ := hp101
    refine U.p Z Z (.inl Z) (S.not Z (L 0 Z Z)) ?_
    refine U.done (nr Z) ?_
    refine WP.cond _ (L 0 Z Z) Z (fun c104 => ?_) (fun c104 => ?_)
    ·have h105 := ifT c104 h97
     have k106 : x95.1 = false := nT c104
     refine WP.usreg Z ?_
     refine U.p Z Z (.inl Z) (S.move Z (L 13 Z Z)) ?_
     refine U.p Z Z (.inl Z) (S.move Z (L 16 Z Z)) ?_
     refine U.k Z Z (.inl Z) (S.loadB Z (L 6 Z Z) Try.underlying49 Z ti49 (ow102.own (k := 5) Z).get Z) nd ?_
     obtain ⟨x107, hx108, h109⟩ := bindS h105
     obtain ⟨_, hv110, _⟩ := ow102.osel (k := 6) Z hv75 hx108
     refine U.p Z Z (.inl Z) (S.index Z ((L 2 Z Z).trans hv110) (L 1 Z Z) Try.underlying44 ti49 (ix_ge hx108) (ix_lt hx108)) ?_
     obtain ⟨cs111, hv112, hlt113, hr114, hc115⟩ := ow102.osel (k := 6) Z hv75 hx108
     obtain rfl : cs111 = [.int .i64 x107.reg, .int .i64 x107.from_, .int .i64 x107.to_] := hr114
     refine O.storeE (k := 6) (R := RT_Tflow_Span) (j := 0) (y := x68) (cs := [.int .i64 x68.reg, .int .i64 x68.from_, .int .i64 x68.to_]) ow102 Z hv112 Z Z (.inl Z) Z (L 0 Z Z) (L 1 Z Z) ti49 hx108 (by simp [topV]) Z Z Z (full Z) (fun _ _ => nd) (fun V116 le117 ow118 => ?_)
     refine U.done (nr Z) ?_
     refine WP.ureg Z ?_
     refine U.p Z Z (.inl Z) (S.move Z (L 19 Z Z)) ?_
     refine U.p Z Z (.inl Z) (S.add Z (L 0 Z Z) K) ?_
     refine U.p Z Z (.inl Z) (S.assign Z (L 0 Z Z)) ?_
     refine U.done (nr Z) ?_
     refine blkN (sqN ?_)
     have ow119 := ow118.drop 5 Z
     have ow120 := ow119.pick 4 Z
     have ow121 := ow120.pick 4 Z
     have ow122 := ow121.pick 4 Z
     have ow123 := ow122.pick 4 Z
     have ow124 := ow123.pick 4 Z
     have ow125 := ow124.pick 5 Z
     exact ⟨_, V116, Z, ⟨xs39.set (Int.toNat x44) x68, x95.2.at_, v103, x95.2.free, x95.2.spills, w64 (x44 + 1), Z, (((le84.trans le88).trans le100).trans le117), ow125, h109⟩, (allCons (L 20 Z Z) (allCons (L 21 Z Z) (allCons (L 0 Z Z) (allCons (L 23 Z Z) allNil))))⟩
    ·have h126 := ifF c104 h97
     have k127 : x95.1 = true := nF c104
     refine WP.skip ?_
     refine blkN (sqN ?_)
     have ow128 := ow102.drop 5 Z
     have ow129 := ow128.pick 4 Z
     have ow130 := ow129.pick 4 Z
     have ow131 := ow130.pick 4 Z
     have ow132 := ow131.pick 4 Z
     have ow133 := ow132.pick 4 Z
     have ow134 := ow133.pick 5 Z
     exact ⟨_, V99, Z, ⟨xs39, x95.2.at_, v103, x95.2.free, x95.2.spills, x44, Z, ((le84.trans le88).trans le100), ow134, h126⟩, (allCons (L 13 Z Z) (allCons (L 14 Z Z) (allCons (L 15 Z Z) (allCons (L 16 Z Z) allNil))))⟩
  ·have h135 := ifF c56 h55
   refine WP.exit ?_
   refine sqE (sqE (blkE (sqN ?_)))
   have h136 := exitS h135 e53
   refine WP.usreg Z ?_
   refine U.p Z Z (.inl Z) (S.move Z (L 4 Z Z)) ?_
   refine U.p Z Z (.inl Z) (S.move Z (L 7 Z Z)) ?_
   obtain ⟨xs137, hx138, h139⟩ := bindS h136
   refine O.tailT (k := 0) ow50 Z hx138 Z Z (.inl Z) Z (L 1 Z Z) Try.underlying44 ti49 (.inr ⟨_, _, Z, (L 0 Z Z)⟩) (fun v140 f141 => ?_)
   refine O.clearT (k := 0) ow50 Z hx138 f141 Z Z (.inl Z) Z (L 0 Z Z) Try.underlying44 ti49 Z Z (fun _ => nd) (fun V142 le143 ow144 => ?_)
   refine U.done (nr Z) ?_
   refine WP.usreg Z ?_
   refine U.p Z Z (.inl Z) (S.move Z (L 7 Z Z)) ?_
   refine U.p Z Z (.inl Z) (S.move Z (L 10 Z Z)) ?_
   refine O.subOt (k := 0) ow144 Z (cut_len hx138) Z Z (.inl Z) Z (L 1 Z Z) (L 0 Z Z) Try.underlying44 ti49 (fun v145 ow146 => ?_)
   refine U.p Z Z (.inl Z) (S.assign Z (L 0 Z Z)) ?_
   refine U.done (nr Z) ?_
   refine WP.ret ?_
   refine fin.slot (.inr Z) Z (L 0 Z Z) ⟨V142, Z, ((le31.trans le49).trans le143), ?_⟩
   have e148 := Option.some.inj h139
   subst e148
   exact ⟨v145, u41, Z, ow146⟩
theorem wk_regs_scan_expire (V : Vw) (Rs : List At) (p0 : Tregs_scan) (p1 : Int) (b1 : Nat) (z2 : Nat) (v4 : Value) (v6 : Value) (v8 : Value) (ow : Ow V (.pt b1 (.cells z2 [v4, v6, v8, .int .i64 p0.spills]) :: .os (RT.int .i64) v4 p0.at_ :: .os RT_Tflow_Span v6 p0.active :: .os RT.bool v8 p0.free :: Rs)) (r : Tregs_scan) (h : regs_scan_expire p0 p1 = some r) : ∃ v V', Cl Try.prog 0 17 #[.pointer (some ⟨b1, 0, none⟩), .int .i64 p1] V.H v V'.H ∧ V.le V' ∧ (∃ (v10 : Value), Ow V' (.pt b1 (.cells z2 [v4, v10, v8, .int .i64 r.spills]) :: .os (RT.int .i64) v4 r.at_ :: .os RT_Tflow_Span v10 r.active :: .os RT.bool v8 r.free :: Rs)) := by
 refine Ct.of (Nat.zero_le _) Try.func17 Z (nr Z) ?_
 unfold regs_scan_expire at h
 refine WP.usreg Z ?_
 refine O.box ow Z Z (.inl Z) Z (L 0 Z Z) (by simp [topV]) Z nd (fun b12 V13 le14 ow15 => ?_)
 refine O.box ow15 Z Z (.inl Z) Z (L 2 Z Z) (by simp [topV]) Z nd (fun b17 V18 le19 ow20 => ?_)
 refine U.done (nr Z) ?_
 refine WP.udreg Z Z Z ?_
 refine U.k Z Z (.inl Z) (S.loadC Z (L 1 Z Z) Try.underlying42 Z ((ow20.own (k := 1) Z).cell Z)) (fun _ => (okH.nil (fun r h => by cases h; exact (ow20.own (k := 1) Z).lt))) ?_
 refine U.k Z Z (.inl Z) (S.loadC Z (L 2 Z Z) Try.underlying42 Z ((ow20.own (k := 1) Z).cell Z)) (fun _ => (okH.cons trivial (okH.nil (fun r h => by cases h; exact (ow20.own (k := 1) Z).lt)))) ?_
 refine U.p Z Z (.inl Z) (S.nilCheck Z (L 0 Z Z)) ?_
 refine U.p (v := .pointer (some ⟨b1, 1, none⟩)) Z Z (.inl Z) (S.fieldAddr Z (L 0 Z Z) Try.underlying46 Z ti44 Z Z) ?_
 refine U.k Z Z (.inl Z) (S.loadC Z (L 0 Z Z) Try.underlying44 Z ((ow20.own (k := 2) Z).cell Z)) (fun _ => (okH.cons trivial (okH.cons trivial (okH.nil (fun r h => by cases h; exact (ow20.own (k := 2) Z).lt))))) ?_
 refine U.p (v := .func (.func 33) #[] #[.pointer (some ⟨b17, 0, none⟩), .pointer (some ⟨b12, 0, none⟩)]) Z Z (.inl Z) (S.makeFunc' Z (amN) (am2 (L 5 Z Z) (L 6 Z Z))) ?_
 have ow22 := ow20.pick 5 Z
 have ow23 := ow22.pick 4 Z
 have ow24 := ow23.pick 4 Z
 have ow25 := ow24.pick 4 Z
 have ow26 := ow25.pick 4 Z
 have ow27 := ow26.pick 5 Z
 obtain ⟨x28, hx29, h30⟩ := bindS h
 refine O.call (V := V18) Z Z (.inl Z) Z en32 (aC (L 1 Z Z) (aC (L 0 Z Z) aN)) (wk_slices_DeleteFunc V18 _ p0.active p1 (⟨p0.at_, [], p0.free, p0.spills⟩ : Tregs_scan) v6 b17 0 b12 0 b1 z2 v4 v6 v8 ow27 _ hx29) (fun v31 V32 le33 hp34 => by obtain ⟨_, v38, rfl, ow35⟩ := hp34; exact (fun _ => (okH.cons (Or.inl Z) (okH.cons (Or.inl Z) (okH.cons (Or.inr ((lookC ((ow35.own (k := 2) Z).cell Z) ((ow27.own (k := 2) Z).cell Z)))) (okH.nil (fun r h => nomatch h))))))) (fun v31 V32 le33 hp34 => ?_)
 obtain ⟨_, v38, rfl, ow35⟩ := hp34
 refine U.p Z Z (.inl Z) (S.nilCheck Z (L 6 Z Z)) ?_
 refine U.p (v := .pointer (some ⟨b1, 1, none⟩)) Z Z (.inl Z) (S.fieldAddr Z (L 0 Z Z) Try.underlying46 Z ti44 Z Z) ?_
 refine O.store (k := 3) (cs := [v31]) (c' := [v4, v31, v8, .int .i64 x28.2.spills]) ow35 Z Z Z (.inl Z) Z (L 0 Z Z) (L 2 Z Z) ti44 (ow35.osne (k := 0) Z) (by rw [ow35.oscells (k := 0) rfl]) Z (nr Z) (by have q0 := (ow35.osone (k := 0) Z); simp only [List.all_cons, List.all_nil, q0]; rfl) Z (fun _ => (okH.cons Z (okH.cons (Or.inl Z) (okH.cons (Or.inl Z) (okH.cons (Or.inl Z) (okH.nil (fun r h => nomatch h))))))) (fun V39 le40 ow41 => ?_)
 refine U.done (nr Z) ?_
 refine fin.slots' (.inl Z) fsN Z ⟨V39, Z, (((le14.trans le19).trans le33).trans le40), ?_⟩
 have ow42 := ow41.drop 1 Z
 have ow43 := ow42.drop 1 Z
 have ow44 := ow43.pick 3 Z
 have ow45 := ow44.pick 1 Z
 have ow46 := ow45.pick 3 Z
 have ow47 := ow46.pick 3 Z
 have e48 := Option.some.inj h30
 subst e48
 exact ⟨v31, ow47⟩
theorem wk_slices_Index_2 (V : Vw) (Rs : List At) (p0 : List Bool) (p1 : Bool) (v1 : Value) (ow : Ow V (.os RT.bool v1 p0 :: Rs)) (r : Int) (h : slices_Index_2 p0 p1 = some r) : ∃ v V', Cl Try.prog 0 34 #[v1, .bool p1] V.H v V'.H ∧ V.le V' ∧ (v = .int .i64 r ∧ Ow V' (.os RT.bool v1 p0 :: Rs)) := by
 refine Ct.of (Nat.zero_le _) Try.func34 Z (nr Z) ?_
 unfold slices_Index_2 at h
 refine WP.usreg Z ?_
 refine U.p Z Z (.inl Z) (S.assign Z K) ?_
 refine U.done (nr Z) ?_
 refine WP.seq ?_
 refine WP.usreg Z ?_
 refine U.p Z Z (.inl Z) (S.move Z (L 1 Z Z)) ?_
 refine U.p Z Z (.inl Z) (ow.oslen (k := 0) Z Z (L 0 Z Z) Try.underlying43) ?_
 refine U.p Z Z (.inl Z) (S.move Z K) ?_
 refine U.done (nr Z) ?_
 refine WP.blk ?_
 unfold slices_Index_2_l1 at h
 obtain ⟨n5, hn4⟩ := loopO_some.1 h
 refine WP.loopI2 (fun n l V' => ∃ (x3 : Int), l = [(0, v1), (1, .bool p1), (7, .int .i64 (p0.length : Int)), (8, .int .i64 x3)] ∧ V.le V' ∧ Ow V' (.os RT.bool v1 p0 :: Rs) ∧ itO (fun s => slices_Index_2_l1b p0 p1 s) n x3 = some r) n5 _ ⟨0, Z, .refl _, ow, hn4⟩ (allCons (L 4 Z Z) (allCons (L 5 Z Z) (allCons (L 1 Z Z) (allCons (L 0 Z Z) allNil)))) ?_
 rintro _ _ V6 ⟨x3, rfl, le7, ow8, h12⟩
 obtain ⟨m9, q10, rfl, h13, e11⟩ := itS h12
 replace h13 : slices_Index_2_l1b p0 p1 x3 = some q10 := h13
 unfold slices_Index_2_l1b at h13
 refine WP.usreg Z ?_
 refine U.p Z Z (.inl Z) (S.lss Z (L 3 Z Z) (L 2 Z Z)) ?_
 refine U.done (nr Z) ?_
 refine WP.seq ?_
 refine WP.cond _ (L 0 Z Z) Z (fun c14 => ?_) (fun c14 => ?_)
 ·have h15 := ifT c14 h13
  refine WP.skip ?_
  refine sqN ?_
  refine WP.seq ?_
  refine WP.blk ?_
  refine WP.usreg Z ?_
  refine U.p Z Z (.inl Z) (S.move Z (L 4 Z Z)) ?_
  refine U.p Z Z (.inl Z) (S.assign Z (L 0 Z Z)) ?_
  refine U.done (nr Z) ?_
  refine WP.usreg Z ?_
  refine U.p Z Z (.inl Z) (S.move Z (L 4 Z Z)) ?_
  refine U.p Z Z (.inl Z) (S.move Z (L 4 Z Z)) ?_
  refine U.p Z Z (.inl Z) (S.move Z (L 2 Z Z)) ?_
  obtain ⟨x16, hx17, h18⟩ := bindS h15
  obtain ⟨b19, o20, n21, c22, hv23⟩ := ow8.ospt (k := 0) Z hx17
  obtain ⟨_, hv24, _⟩ := ow8.osel (k := 0) Z hv23 hx17
  refine U.p Z Z (.inl Z) (S.index Z ((L 1 Z Z).trans hv24) (L 0 Z Z) Try.underlying43 ti4 (ix_ge hx17) (ix_lt hx17)) ?_
  obtain ⟨cs25, hv26, hlt27, hr28, hc29⟩ := ow8.osel (k := 0) Z hv23 hx17
  obtain rfl : cs25 = [.bool x16] := hr28
  refine U.k Z Z (.inl Z) (S.load Z (L 0 Z Z) Try.underlying4 Z (hc29 0 _ Z)) nd ?_
  refine U.p Z Z (.inl Z) (S.eqlB Z (L 4 Z Z) (L 0 Z Z) Try.underlying4) ?_
  refine U.done (nr Z) ?_
  refine WP.cond _ (L 0 Z Z) Z (fun c30 => ?_) (fun c30 => ?_)
  ·have h31 := ifT c30 h18
   refine WP.usreg Z ?_
   refine U.p Z Z (.inl Z) (S.move Z (L 6 Z Z)) ?_
   refine U.p Z Z (.inl Z) (S.assign Z (L 0 Z Z)) ?_
   refine U.done (nr Z) ?_
   refine WP.ret ?_
   refine blkR (sqR (sqR (blkR (sqR ?_))))
   have h32 := exitS h31 e11
   refine fin.slot (.inr Z) Z (L 0 Z Z) ⟨V6, Z, le7, ?_⟩
   have e33 := Option.some.inj h32
   subst e33
   exact ⟨rfl, ow8⟩
  ·have h34 := ifF c30 h18
   refine WP.skip ?_
   refine blkN (sqN ?_)
   refine WP.ureg Z ?_
   refine U.p Z Z (.inl Z) (S.add Z (L 12 Z Z) K) ?_
   refine U.p Z Z (.inl Z) (S.move Z (L 0 Z Z)) ?_
   refine U.done (nr Z) ?_
   refine sqN ?_
   exact ⟨_, V6, Z, ⟨m9, Nat.lt_succ_self _, w64 (x3 + 1), Z, le7, ow8, backS h34 e11⟩, (allCons (L 11 Z Z) (allCons (L 12 Z Z) (allCons (L 13 Z Z) (allCons (L 0 Z Z) allNil))))⟩
 ·have h35 := ifF c14 h13
  refine WP.exit ?_
  refine sqE (sqE (blkE (sqN ?_)))
  have h36 := exitS h35 e11
  refine WP.usreg Z ?_
  refine U.p Z Z (.inl Z) (S.assign Z K) ?_
  refine U.done (nr Z) ?_
  refine WP.ret ?_
  refine fin.slot (.inr Z) Z (L 0 Z Z) ⟨V6, Z, le7, ?_⟩
  have e37 := Option.some.inj h36
  subst e37
  exact ⟨rfl, ow8⟩
theorem wk_regs_scan_spill (V : Vw) (Rs : List At) (p0 : Tregs_scan) (b1 : Nat) (z2 : Nat) (v4 : Value) (v6 : Value) (v8 : Value) (ow : Ow V (.pt b1 (.cells z2 [v4, v6, v8, .int .i64 p0.spills]) :: .os (RT.int .i64) v4 p0.at_ :: .os RT_Tflow_Span v6 p0.active :: .os RT.bool v8 p0.free :: Rs)) (r : Int × Tregs_scan) (h : regs_scan_spill p0 = some r) : ∃ v V', Cl Try.prog 0 35 #[.pointer (some ⟨b1, 0, none⟩)] V.H v V'.H ∧ V.le V' ∧ (v = .int .i64 r.1 ∧ Ow V' (.pt b1 (.cells z2 [v4, v6, v8, .int .i64 r.2.spills]) :: .os (RT.int .i64) v4 r.2.at_ :: .os RT_Tflow_Span v6 r.2.active :: .os RT.bool v8 r.2.free :: Rs)) := by
 refine Ct.of (Nat.zero_le _) Try.func35 Z (nr Z) ?_
 unfold regs_scan_spill at h
 refine WP.usreg Z ?_
 refine U.p Z Z (.inl Z) (S.assign Z K) ?_
 refine U.done (nr Z) ?_
 refine WP.usreg Z ?_
 refine U.p Z Z (.inl Z) (S.move Z (L 1 Z Z)) ?_
 refine U.p Z Z (.inl Z) (S.nilCheck Z (L 0 Z Z)) ?_
 refine U.p (v := .pointer (some ⟨b1, 3, none⟩)) Z Z (.inl Z) (S.fieldAddr Z (L 0 Z Z) Try.underlying46 Z ti3 Z Z) ?_
 refine U.k Z Z (.inl Z) (S.load Z (L 0 Z Z) Try.underlying3 Z ((ow.own (k := 0) Z).cell Z)) nd ?_
 refine U.p Z Z (.inl Z) (S.add Z (L 0 Z Z) K) ?_
 refine U.p Z Z (.inl Z) (S.nilCheck Z (L 4 Z Z)) ?_
 refine U.p (v := .pointer (some ⟨b1, 3, none⟩)) Z Z (.inl Z) (S.fieldAddr Z (L 0 Z Z) Try.underlying46 Z ti3 Z Z) ?_
 refine O.store (k := 0) (cs := [.int .i64 (w64 (p0.spills + 1))]) (c' := [v4, v6, v8, .int .i64 (w64 (p0.spills + 1))]) ow Z Z Z (.inl Z) Z (L 0 Z Z) (L 2 Z Z) ti3 (by simp [topV]) Z Z (nr Z) Z Z nd (fun V10 le11 ow12 => ?_)
 refine U.done (nr Z) ?_
 refine WP.usreg Z ?_
 refine U.p Z Z (.inl Z) (S.move Z (L 8 Z Z)) ?_
 refine U.p Z Z (.inl Z) (S.nilCheck Z (L 0 Z Z)) ?_
 refine U.p (v := .pointer (some ⟨b1, 3, none⟩)) Z Z (.inl Z) (S.fieldAddr Z (L 0 Z Z) Try.underlying46 Z ti3 Z Z) ?_
 refine U.k Z Z (.inl Z) (S.load Z (L 0 Z Z) Try.underlying3 Z ((ow12.own (k := 0) Z).cell Z)) nd ?_
 refine U.p Z Z (.inl Z) (S.add Z K (L 0 Z Z)) ?_
 refine U.p Z Z (.inl Z) (S.sub Z (L 0 Z Z) K) ?_
 refine U.p Z Z (.inl Z) (S.assign Z (L 0 Z Z)) ?_
 refine U.done (nr Z) ?_
 refine WP.ret ?_
 refine fin.slot (.inr Z) Z (L 0 Z Z) ⟨V10, Z, le11, ?_⟩
 have e13 := Option.some.inj h
 subst e13
 exact ⟨rfl, ow12⟩
theorem wk_regs_scan_put (V : Vw) (Rs : List At) (p0 : Tregs_scan) (p1 : Tflow_Span) (b1 : Nat) (z2 : Nat) (v4 : Value) (v6 : Value) (v8 : Value) (ow : Ow V (.pt b1 (.cells z2 [v4, v6, v8, .int .i64 p0.spills]) :: .os (RT.int .i64) v4 p0.at_ :: .os RT_Tflow_Span v6 p0.active :: .os RT.bool v8 p0.free :: Rs)) (r : Tregs_scan) (h : regs_scan_put p0 p1 = some r) : ∃ v V', Cl Try.prog 0 18 #[.pointer (some ⟨b1, 0, none⟩), .agg #[.int .i64 p1.reg, .int .i64 p1.from_, .int .i64 p1.to_]] V.H v V'.H ∧ V.le V' ∧ (∃ (v10 : Value), Ow V' (.pt b1 (.cells z2 [v4, v10, v8, .int .i64 r.spills]) :: .os (RT.int .i64) v4 r.at_ :: .os RT_Tflow_Span v10 r.active :: .os RT.bool v8 r.free :: Rs)) := by
 refine Ct.of (Nat.zero_le _) Try.func18 Z (nr Z) ?_
 unfold regs_scan_put at h
 refine WP.usreg Z ?_
 refine O.box ow Z Z (.inl Z) Z (L 1 Z Z) (by simp [topV]) Z nd (fun b12 V13 le14 ow15 => ?_)
 refine U.done (nr Z) ?_
 refine WP.seq ?_
 refine WP.usreg Z ?_
 refine U.p Z Z (.inl Z) (S.move Z (L 1 Z Z)) ?_
 refine U.p Z Z (.inl Z) (S.nilCheck Z (L 0 Z Z)) ?_
 refine U.p (v := .pointer (some ⟨b1, 2, none⟩)) Z Z (.inl Z) (S.fieldAddr Z (L 0 Z Z) Try.underlying46 Z ti43 Z Z) ?_
 refine U.k Z Z (.inl Z) (S.load Z (L 0 Z Z) Try.underlying43 Z ((ow15.own (k := 1) Z).cell Z)) nd ?_
 have ow17 := ow15.pick 4 Z
 obtain ⟨x18, hx19, h20⟩ := bindS h
 refine O.call (V := V13) Z Z (.inl Z) Z en34 (aC (L 0 Z Z) (aC K aN)) (wk_slices_Index_2 V13 _ p0.free true v8 ow17 _ hx19) (fun _ _ _ _ => nd) (fun v21 V22 le23 hp24 => ?_)
 obtain ⟨rfl, ow25⟩ := hp24
 refine U.p Z Z (.inl Z) (S.assign Z (L 0 Z Z)) ?_
 refine U.done (nr Z) ?_
 refine WP.usreg Z ?_
 refine U.p Z Z (.inl Z) (S.move Z (L 0 Z Z)) ?_
 refine U.p Z Z (.inl Z) (S.geq Z (L 0 Z Z) K) ?_
 refine U.done (nr Z) ?_
 refine WP.cond _ (L 0 Z Z) Z (fun c26 => ?_) (fun c26 => ?_)
 ·have h27 := ifT c26 h20
  refine WP.usreg Z ?_
  refine U.p Z Z (.inl Z) (S.move Z (L 9 Z Z)) ?_
  refine U.p Z Z (.inl Z) (S.nilCheck Z (L 0 Z Z)) ?_
  refine U.p (v := .pointer (some ⟨b1, 2, none⟩)) Z Z (.inl Z) (S.fieldAddr Z (L 0 Z Z) Try.underlying46 Z ti43 Z Z) ?_
  refine U.k Z Z (.inl Z) (S.load Z (L 0 Z Z) Try.underlying43 Z ((ow25.own (k := 2) Z).cell Z)) nd ?_
  refine U.p Z Z (.inl Z) (S.move Z (L 6 Z Z)) ?_
  obtain ⟨x28, hx29, h30⟩ := bindS h27
  obtain ⟨b31, o32, n33, c34, hv35⟩ := ow25.ospt (k := 0) Z hx29
  obtain ⟨_, hv36, _⟩ := ow25.osel (k := 0) Z hv35 hx29
  refine U.p Z Z (.inl Z) (S.index Z ((L 1 Z Z).trans hv36) (L 0 Z Z) Try.underlying43 ti4 (ix_ge hx29) (ix_lt hx29)) ?_
  obtain ⟨cs37, hv38, hlt39, hr40, hc41⟩ := ow25.osel (k := 0) Z hv35 hx29
  obtain rfl : cs37 = [.bool x28] := hr40
  refine O.storeE (k := 0) (R := RT.bool) (j := 0) (y := false) (cs := [.bool false]) ow25 Z hv38 Z Z (.inl Z) Z (L 0 Z Z) K ti4 hx29 (by simp [topV]) Z Z Z (full Z) (fun _ _ => nd) (fun V42 le43 ow44 => ?_)
  refine U.done (nr Z) ?_
  refine WP.usdreg Z Z Z ?_
  refine U.p Z Z (.inl Z) (S.move Z (L 15 Z Z)) ?_
  refine U.p Z Z (.inl Z) (S.nilCheck Z (L 0 Z Z)) ?_
  refine U.p (v := .pointer (some ⟨b1, 0, none⟩)) Z Z (.inl Z) (S.fieldAddr Z (L 0 Z Z) Try.underlying46 Z ti27 Z Z) ?_
  refine U.k Z Z (.inl Z) (S.loadC Z (L 0 Z Z) Try.underlying27 Z ((ow44.own (k := 2) Z).cell Z)) (fun _ => (okH.nil (fun r h => by cases h; exact (ow44.own (k := 2) Z).lt))) ?_
  refine U.p (v := .pointer (some ⟨b12, 0, none⟩)) Z Z (.inl Z) (S.fieldAddr Z (L 18 Z Z) Try.underlying49 Z ti3 Z Z) ?_
  refine U.k Z Z (.inl Z) (S.loadC Z (L 0 Z Z) Try.underlying3 Z ((ow44.own (k := 1) Z).cell Z)) (fun _ => (okH.cons trivial (okH.nil (fun r h => by cases h; exact (ow44.own (k := 1) Z).lt)))) ?_
  refine U.p Z Z (.inl Z) (S.move Z (L 14 Z Z)) ?_
  obtain ⟨x45, hx46, h47⟩ := bindS h30
  obtain ⟨b48, o49, n50, c51, hv52⟩ := ow44.ospt (k := 3) Z hx46
  obtain ⟨_, hv53, _⟩ := ow44.osel (k := 3) Z hv52 hx46
  refine U.p Z Z (.inl Z) (S.index Z ((L 3 Z Z).trans hv53) (L 1 Z Z) Try.underlying27 ti3 (ix_ge hx46) (ix_lt hx46)) ?_
  obtain ⟨cs54, hv55, hlt56, hr57, hc58⟩ := ow44.osel (k := 3) Z hv52 hx46
  obtain rfl : cs54 = [.int .i64 x45] := hr57
  refine O.storeE (k := 3) (R := (RT.int .i64)) (j := 0) (y := x18) (cs := [.int .i64 x18]) ow44 Z hv55 Z Z (.inl Z) Z (L 0 Z Z) (L 1 Z Z) ti3 hx46 (by simp [topV]) Z Z Z (full Z) (fun H1 hs => (fun _ => (okH.cons (Or.inl Z) (okH.cons (Or.inl Z) (okH.nil (fun r h => nomatch h)))))) (fun V59 le60 ow61 => ?_)
  refine U.done (nr Z) ?_
  refine WP.usdreg Z Z Z ?_
  refine U.p Z Z (.inl Z) (S.move Z (L 23 Z Z)) ?_
  refine U.p Z Z (.inl Z) (S.move Z (L 24 Z Z)) ?_
  refine U.p Z Z (.inl Z) (S.nilCheck Z (L 0 Z Z)) ?_
  refine U.p (v := .pointer (some ⟨b1, 1, none⟩)) Z Z (.inl Z) (S.fieldAddr Z (L 0 Z Z) Try.underlying46 Z ti44 Z Z) ?_
  refine U.k Z Z (.inl Z) (S.loadC Z (L 0 Z Z) Try.underlying44 Z ((ow61.own (k := 2) Z).cell Z)) (fun _ => (okH.nil (fun r h => by cases h; exact (ow61.own (k := 2) Z).lt))) ?_
  refine U.k Z Z (.inl Z) (S.loadB Z (L 27 Z Z) Try.underlying49 Z ti49 (ow61.own (k := 1) Z).get Z) (fun _ => (okH.cons trivial (okH.nil (fun r h => by cases h; exact (ow61.own (k := 1) Z).lt)))) ?_
  refine O.lit (R := RT_Tflow_Span) ow61 Z Z (.inl Z) Z Try.underlying44 ti49 Z Z Z (nr Z) Z (aC (L 0 Z Z) aN) (.cons _ _ p1 _ (by simp [topV]) Z .nil) (fun _ => (fun _ => (okH.cons trivial (okH.cons trivial (okH.nil (fun r h => nomatch h)))))) (fun v62 V63 le64 ow65 => ?_)
  obtain ⟨xs67, hx68, h69⟩ := bindS h47
  refine O.append (k := 5) ow65 Z Z Z (.inl Z) Z (L 2 Z Z) (L 0 Z Z) Try.underlying44 ti49 Z Z (nr Z) (ow65.src (k := 0) Z Try.underlying44) hx68 (fun V1 hs => (fun _ => (okH.cons (Or.inl Z) (okH.cons (Or.inl Z) (okH.cons (Or.inl Z) (okH.nil (fun r h => nomatch h))))))) (fun v70 V71 le72 ow73 => ?_)
  refine U.p Z Z (.inl Z) (S.nilCheck Z (L 7 Z Z)) ?_
  refine U.p (v := .pointer (some ⟨b1, 1, none⟩)) Z Z (.inl Z) (S.fieldAddr Z (L 0 Z Z) Try.underlying46 Z ti44 Z Z) ?_
  refine O.store (k := 3) (cs := [v70]) (c' := [v4, v70, v8, .int .i64 p0.spills]) ow73 Z Z Z (.inl Z) Z (L 0 Z Z) (L 2 Z Z) ti44 (ow73.osne (k := 5) Z) (by rw [ow73.oscells (k := 5) rfl]) Z (nr Z) (by have q0 := (ow73.osone (k := 5) Z); simp only [List.all_cons, List.all_nil, q0]; rfl) Z (fun _ => (okH.cons Z (okH.cons (Or.inl Z) (okH.cons (Or.inl Z) (okH.cons (Or.inl Z) (okH.nil (fun r h => nomatch h))))))) (fun V75 le76 ow77 => ?_)
  refine U.done (nr Z) ?_
  refine WP.ret ?_
  refine sqR ?_
  refine fin.slots' (.inr Z) fsN Z ⟨V75, Z, ((((((le14.trans le23).trans le43).trans le60).trans le64).trans le72).trans le76), ?_⟩
  have ow78 := ow77.drop 0 Z
  have ow79 := ow78.drop 1 Z
  have ow80 := ow79.pick 0 Z
  have ow81 := ow80.pick 3 Z
  have ow82 := ow81.pick 3 Z
  have ow83 := ow82.pick 3 Z
  have e84 := Option.some.inj h69
  subst e84
  exact ⟨v70, ow83⟩
 ·have h85 := ifF c26 h20
  refine WP.skip ?_
  refine sqN ?_
  refine WP.usreg Z ?_
  refine U.p Z Z (.inl Z) (S.assign Z K) ?_
  refine U.done (nr Z) ?_
  refine WP.seq ?_
  refine WP.usreg Z ?_
  refine U.p Z Z (.inl Z) (S.move Z (L 10 Z Z)) ?_
  refine U.p Z Z (.inl Z) (S.nilCheck Z (L 0 Z Z)) ?_
  refine U.p (v := .pointer (some ⟨b1, 1, none⟩)) Z Z (.inl Z) (S.fieldAddr Z (L 0 Z Z) Try.underlying46 Z ti44 Z Z) ?_
  refine U.k Z Z (.inl Z) (S.load Z (L 0 Z Z) Try.underlying44 Z ((ow25.own (k := 2) Z).cell Z)) nd ?_
  refine U.p Z Z (.inl Z) (ow25.oslen (k := 4) Z Z (L 0 Z Z) Try.underlying44) ?_
  refine U.p Z Z (.inl Z) (S.move Z K) ?_
  refine U.done (nr Z) ?_
  refine WP.blk ?_
  have ow88 := ow25.pick 1 Z
  have ow89 := ow88.pick 1 Z
  have ow90 := ow89.pick 4 Z
  have ow91 := ow90.pick 4 Z
  have ow92 := ow91.pick 4 Z
  unfold regs_scan_put_l1 at h85
  obtain ⟨n94, hn93⟩ := loopO_some.1 h85
  refine WP.loopI2 (fun n l V' => ∃ (x86 : Int) (x87 : Int), l = [(0, .pointer (some ⟨b1, 0, none⟩)), (3, .pointer (some ⟨b12, 0, none⟩)), (5, .int .i64 x86), (43, v6), (44, .int .i64 (p0.active.length : Int)), (45, .int .i64 x87)] ∧ V22.le V' ∧ Ow V' (.pt b1 (.cells z2 [v4, v6, v8, .int .i64 p0.spills]) :: .os (RT.int .i64) v4 p0.at_ :: .os RT_Tflow_Span v6 p0.active :: .os RT.bool v8 p0.free :: .pt b12 (.cells 0 [.int .i64 p1.reg, .int .i64 p1.from_, .int .i64 p1.to_]) :: Rs) ∧ itO (fun s => regs_scan_put_l1b p0 p1 s.1 s.2) n (x86, x87) = some r) n94 _ ⟨0, 0, Z, .refl _, ow92, hn93⟩ (allCons (L 16 Z Z) (allCons (L 15 Z Z) (allCons (L 6 Z Z) (allCons (L 2 Z Z) (allCons (L 1 Z Z) (allCons (L 0 Z Z) allNil)))))) ?_
  rintro _ _ V95 ⟨x86, x87, rfl, le96, ow97, h101⟩
  obtain ⟨m98, q99, rfl, h102, e100⟩ := itS h101
  replace h102 : regs_scan_put_l1b p0 p1 x86 x87 = some q99 := h102
  unfold regs_scan_put_l1b at h102
  refine WP.usreg Z ?_
  refine U.p Z Z (.inl Z) (S.lss Z (L 5 Z Z) (L 4 Z Z)) ?_
  refine U.done (nr Z) ?_
  refine WP.seq ?_
  refine WP.cond _ (L 0 Z Z) Z (fun c103 => ?_) (fun c103 => ?_)
  ·have h104 := ifT c103 h102
   refine WP.skip ?_
   refine sqN ?_
   refine WP.seqI (fun l V' => ∃ (x105 : Int), l = [(0, .pointer (some ⟨b1, 0, none⟩)), (3, .pointer (some ⟨b12, 0, none⟩)), (5, .int .i64 x105), (43, v6), (44, .int .i64 (p0.active.length : Int)), (45, .int .i64 x87)] ∧ V95.le V' ∧ Ow V' (.pt b1 (.cells z2 [v4, v6, v8, .int .i64 p0.spills]) :: .os (RT.int .i64) v4 p0.at_ :: .os RT_Tflow_Span v6 p0.active :: .os RT.bool v8 p0.free :: .pt b12 (.cells 0 [.int .i64 p1.reg, .int .i64 p1.from_, .int .i64 p1.to_]) :: Rs) ∧ regs_scan_put_k1 x87 x105 = some q99) ?_ ?_
   ·rintro _ V106 ⟨x105, rfl, le107, ow108, h109⟩
    unfold regs_scan_put_k1 at h109
    refine WP.ureg Z ?_
    refine U.p Z Z (.inl Z) (S.add Z (L 5 Z Z) K) ?_
    refine U.p Z Z (.inl Z) (S.move Z (L 0 Z Z)) ?_
    refine U.done (nr Z) ?_
    refine sqN ?_
    exact ⟨_, V106, Z, ⟨m98, Nat.lt_succ_self _, x105, w64 (x87 + 1), Z, (le96.trans le107), ow108, backS h109 e100⟩, (allCons (L 2 Z Z) (allCons (L 3 Z Z) (allCons (L 4 Z Z) (allCons (L 5 Z Z) (allCons (L 6 Z Z) (allCons (L 0 Z Z) allNil))))))⟩
   ·skip
    refine WP.blk ?_
    refine WP.usreg Z ?_
    refine U.p Z Z (.inl Z) (S.move Z (L 6 Z Z)) ?_
    obtain ⟨x110, hx111, h112⟩ := bindS h104
    obtain ⟨b113, o114, n115, c116, hv117⟩ := ow97.ospt (k := 2) Z hx111
    obtain ⟨_, hv118, _⟩ := ow97.osel (k := 2) Z hv117 hx111
    refine U.p Z Z (.inl Z) (S.index Z ((L 5 Z Z).trans hv118) (L 7 Z Z) Try.underlying44 ti49 (ix_ge hx111) (ix_lt hx111)) ?_
    obtain ⟨cs119, hv120, hlt121, hr122, hc123⟩ := ow97.osel (k := 2) Z hv117 hx111
    obtain rfl : cs119 = [.int .i64 x110.reg, .int .i64 x110.from_, .int .i64 x110.to_] := hr122
    refine U.k Z Z (.inl Z) (S.loadN (cs := [.int .i64 x110.reg, .int .i64 x110.from_, .int .i64 x110.to_]) Z (L 0 Z Z) Try.underlying49 Z ti49 Z hc123) nd ?_
    refine O.alloc ow97 Z Z (.inl Z) Z ti49 Z Z nd (fun b124 V125 le126 ow127 => ?_)
    refine U.p Z Z (.inl Z) (S.assign Z (L 3 Z Z)) ?_
    refine O.store (k := 0) (cs := [.int .i64 x110.reg, .int .i64 x110.from_, .int .i64 x110.to_]) (c' := [.int .i64 x110.reg, .int .i64 x110.from_, .int .i64 x110.to_]) ow127 Z Z Z (.inl Z) Z (L 1 Z Z) (L 2 Z Z) ti49 (by simp [topV]) Z Z (nr Z) Z Z nd (fun V129 le130 ow131 => ?_)
    refine U.done (nr Z) ?_
    refine WP.usdreg Z Z Z ?_
    refine U.p (v := .pointer (some ⟨b124, 2, none⟩)) Z Z (.inl Z) (S.fieldAddr Z (L 1 Z Z) Try.underlying49 Z ti3 Z Z) ?_
    refine U.k Z Z (.inl Z) (S.loadC Z (L 0 Z Z) Try.underlying3 Z ((ow131.own (k := 0) Z).cell Z)) (fun _ => (okH.nil (fun r h => by cases h; exact (ow131.own (k := 0) Z).lt))) ?_
    refine U.p Z Z (.inl Z) (S.move Z (L 8 Z Z)) ?_
    refine U.p Z Z (.inl Z) (S.nilCheck Z (L 0 Z Z)) ?_
    refine U.p (v := .pointer (some ⟨b1, 1, none⟩)) Z Z (.inl Z) (S.fieldAddr Z (L 0 Z Z) Try.underlying46 Z ti44 Z Z) ?_
    refine U.k Z Z (.inl Z) (S.loadC Z (L 0 Z Z) Try.underlying44 Z ((ow131.own (k := 1) Z).cell Z)) (fun _ => (okH.cons trivial (okH.nil (fun r h => by cases h; exact (ow131.own (k := 1) Z).lt)))) ?_
    refine U.p Z Z (.inl Z) (S.move Z (L 14 Z Z)) ?_
    obtain ⟨x132, hx133, h134⟩ := bindS h112
    obtain ⟨_, hv135, _⟩ := ow131.osel (k := 3) Z hv117 hx133
    refine U.p Z Z (.inl Z) (S.index Z ((L 1 Z Z).trans hv135) (L 0 Z Z) Try.underlying44 ti49 (ix_ge hx133) (ix_lt hx133)) ?_
    refine U.p (v := .pointer (some ⟨b113, o114 + Int.toNat x86 * 3 + 2, none⟩)) Z Z (.inl Z) (S.fieldAddr Z (L 0 Z Z) Try.underlying49 Z ti3 Z Z) ?_
    obtain ⟨cs136, hv137, hlt138, hr139, hc140⟩ := ow131.osel (k := 3) Z hv117 hx133
    obtain rfl : cs136 = [.int .i64 x132.reg, .int .i64 x132.from_, .int .i64 x132.to_] := hr139
    refine U.k Z Z (.inl Z) (S.load Z (L 0 Z Z) Try.underlying3 Z (hc140 2 _ Z)) (fun _ => (okH.cons trivial (okH.cons trivial (okH.nil (fun r h => by cases h; exact hlt138))))) ?_
    refine U.p Z Z (.inl Z) (S.gtr Z (L 8 Z Z) (L 0 Z Z)) ?_
    refine U.done (nr Z) ?_
    refine WP.cond _ (L 0 Z Z) Z (fun c141 => ?_) (fun c141 => ?_)
    ·have h142 := ifT c141 h134
     refine WP.ureg Z ?_
     refine U.p Z Z (.inl Z) (S.move Z (L 11 Z Z)) ?_
     refine U.p Z Z (.inl Z) (S.assign Z (L 0 Z Z)) ?_
     refine U.done (nr Z) ?_
     refine blkN (sqN ?_)
     have ow143 := ow131.drop 0 Z
     exact ⟨_, V129, Z, ⟨x87, Z, (le126.trans le130), ow143, h142⟩, (allCons (L 19 Z Z) (allCons (L 20 Z Z) (allCons (L 0 Z Z) (allCons (L 22 Z Z) (allCons (L 23 Z Z) (allCons (L 24 Z Z) allNil))))))⟩
    ·have h144 := ifF c141 h134
     refine WP.skip ?_
     refine blkN (sqN ?_)
     have ow145 := ow131.drop 0 Z
     exact ⟨_, V129, Z, ⟨x86, Z, (le126.trans le130), ow145, h144⟩, (allCons (L 17 Z Z) (allCons (L 18 Z Z) (allCons (L 19 Z Z) (allCons (L 20 Z Z) (allCons (L 21 Z Z) (allCons (L 22 Z Z) allNil))))))⟩
  ·have h146 := ifF c103 h102
   refine WP.exit ?_
   refine sqE (sqE (blkE (sqN ?_)))
   have h147 := exitS h146 e100
   refine WP.seq ?_
   refine WP.usreg Z ?_
   refine U.p Z Z (.inl Z) (S.move Z (L 1 Z Z)) ?_
   refine U.p Z Z (.inl Z) (S.nilCheck Z (L 0 Z Z)) ?_
   refine U.p (v := .pointer (some ⟨b1, 1, none⟩)) Z Z (.inl Z) (S.fieldAddr Z (L 0 Z Z) Try.underlying46 Z ti44 Z Z) ?_
   refine U.k Z Z (.inl Z) (S.load Z (L 0 Z Z) Try.underlying44 Z ((ow97.own (k := 0) Z).cell Z)) nd ?_
   refine U.p Z Z (.inl Z) (S.move Z (L 7 Z Z)) ?_
   obtain ⟨x148, hx149, h150⟩ := bindS h147
   obtain ⟨b151, o152, n153, c154, hv155⟩ := ow97.ospt (k := 2) Z hx149
   obtain ⟨_, hv156, _⟩ := ow97.osel (k := 2) Z hv155 hx149
   refine U.p Z Z (.inl Z) (S.index Z ((L 1 Z Z).trans hv156) (L 0 Z Z) Try.underlying44 ti49 (ix_ge hx149) (ix_lt hx149)) ?_
   obtain ⟨cs157, hv158, hlt159, hr160, hc161⟩ := ow97.osel (k := 2) Z hv155 hx149
   obtain rfl : cs157 = [.int .i64 x148.reg, .int .i64 x148.from_, .int .i64 x148.to_] := hr160
   refine U.k Z Z (.inl Z) (S.loadN (cs := [.int .i64 x148.reg, .int .i64 x148.from_, .int .i64 x148.to_]) Z (L 0 Z Z) Try.underlying49 Z ti49 Z hc161) nd ?_
   refine O.alloc ow97 Z Z (.inl Z) Z ti49 Z Z nd (fun b162 V163 le164 ow165 => ?_)
   refine O.store (k := 0) (cs := [.int .i64 x148.reg, .int .i64 x148.from_, .int .i64 x148.to_]) (c' := [.int .i64 x148.reg, .int .i64 x148.from_, .int .i64 x148.to_]) ow165 Z Z Z (.inl Z) Z (L 0 Z Z) (L 1 Z Z) ti49 (by simp [topV]) Z Z (nr Z) Z Z nd (fun V167 le168 ow169 => ?_)
   refine U.done (nr Z) ?_
   refine WP.usreg Z ?_
   refine U.p (v := .pointer (some ⟨b162, 2, none⟩)) Z Z (.inl Z) (S.fieldAddr Z (L 0 Z Z) Try.underlying49 Z ti3 Z Z) ?_
   refine U.k Z Z (.inl Z) (S.load Z (L 0 Z Z) Try.underlying3 Z ((ow169.own (k := 0) Z).cell Z)) nd ?_
   refine U.p (v := .pointer (some ⟨b12, 2, none⟩)) Z Z (.inl Z) (S.fieldAddr Z (L 12 Z Z) Try.underlying49 Z ti3 Z Z) ?_
   refine U.k Z Z (.inl Z) (S.load Z (L 0 Z Z) Try.underlying3 Z ((ow169.own (k := 5) Z).cell Z)) nd ?_
   refine U.p Z Z (.inl Z) (S.gtr Z (L 2 Z Z) (L 0 Z Z)) ?_
   refine U.done (nr Z) ?_
   refine WP.cond _ (L 0 Z Z) Z (fun c170 => ?_) (fun c170 => ?_)
   ·have h171 := ifT c170 h150
    refine WP.usdreg Z Z Z ?_
    refine U.p Z Z (.inl Z) (S.move Z (L 14 Z Z)) ?_
    refine U.p Z Z (.inl Z) (S.nilCheck Z (L 0 Z Z)) ?_
    refine U.p (v := .pointer (some ⟨b1, 0, none⟩)) Z Z (.inl Z) (S.fieldAddr Z (L 0 Z Z) Try.underlying46 Z ti27 Z Z) ?_
    refine U.k Z Z (.inl Z) (S.loadC Z (L 0 Z Z) Try.underlying27 Z ((ow169.own (k := 1) Z).cell Z)) (fun _ => (okH.nil (fun r h => by cases h; exact (ow169.own (k := 1) Z).lt))) ?_
    refine U.p (v := .pointer (some ⟨b12, 0, none⟩)) Z Z (.inl Z) (S.fieldAddr Z (L 19 Z Z) Try.underlying49 Z ti3 Z Z) ?_
    refine U.k Z Z (.inl Z) (S.loadC Z (L 0 Z Z) Try.underlying3 Z ((ow169.own (k := 5) Z).cell Z)) (fun _ => (okH.cons trivial (okH.nil (fun r h => by cases h; exact (ow169.own (k := 5) Z).lt)))) ?_
    refine U.p Z Z (.inl Z) (S.move Z (L 20 Z Z)) ?_
    refine U.p Z Z (.inl Z) (S.nilCheck Z (L 0 Z Z)) ?_
    refine U.p (v := .pointer (some ⟨b1, 0, none⟩)) Z Z (.inl Z) (S.fieldAddr Z (L 0 Z Z) Try.underlying46 Z ti27 Z Z) ?_
    refine U.k Z Z (.inl Z) (S.loadC Z (L 0 Z Z) Try.underlying27 Z ((ow169.own (k := 1) Z).cell Z)) (fun _ => (okH.cons trivial (okH.cons trivial (okH.nil (fun r h => by cases h; exact (ow169.own (k := 1) Z).lt))))) ?_
    refine U.p (v := .pointer (some ⟨b162, 0, none⟩)) Z Z (.inl Z) (S.fieldAddr Z (L 15 Z Z) Try.underlying49 Z ti3 Z Z) ?_
    refine U.k Z Z (.inl Z) (S.loadC Z (L 0 Z Z) Try.underlying3 Z ((ow169.own (k := 0) Z).cell Z)) (fun _ => (okH.cons trivial (okH.cons trivial (okH.cons trivial (okH.nil (fun r h => by cases h; exact (ow169.own (k := 0) Z).lt)))))) ?_
    obtain ⟨x172, hx173, h174⟩ := bindS h171
    obtain ⟨b175, o176, n177, c178, hv179⟩ := ow169.ospt (k := 2) Z hx173
    obtain ⟨_, hv180, _⟩ := ow169.osel (k := 2) Z hv179 hx173
    refine U.p Z Z (.inl Z) (S.index Z ((L 2 Z Z).trans hv180) (L 0 Z Z) Try.underlying27 ti3 (ix_ge hx173) (ix_lt hx173)) ?_
    obtain ⟨cs181, hv182, hlt183, hr184, hc185⟩ := ow169.osel (k := 2) Z hv179 hx173
    obtain rfl : cs181 = [.int .i64 x172] := hr184
    refine U.k Z Z (.inl Z) (S.load Z (L 0 Z Z) Try.underlying3 Z (hc185 0 _ Z)) (fun _ => (okH.cons trivial (okH.cons trivial (okH.cons trivial (okH.cons trivial (okH.nil (fun r h => by cases h; exact hlt183))))))) ?_
    obtain ⟨x186, hx187, h188⟩ := bindS h174
    obtain ⟨_, hv189, _⟩ := ow169.osel (k := 2) Z hv179 hx187
    refine U.p Z Z (.inl Z) (S.index Z ((L 10 Z Z).trans hv189) (L 8 Z Z) Try.underlying27 ti3 (ix_ge hx187) (ix_lt hx187)) ?_
    obtain ⟨cs190, hv191, hlt192, hr193, hc194⟩ := ow169.osel (k := 2) Z hv179 hx187
    obtain rfl : cs190 = [.int .i64 x186] := hr193
    refine O.storeE (k := 2) (R := (RT.int .i64)) (j := 0) (y := x172) (cs := [.int .i64 x172]) ow169 Z hv191 Z Z (.inl Z) Z (L 0 Z Z) (L 1 Z Z) ti3 hx187 (by simp [topV]) Z Z Z (full Z) (fun H1 hs => (fun _ => (okH.cons (Or.inl Z) (okH.cons (Or.inl Z) (okH.cons (Or.inl Z) (okH.cons (Or.inl Z) (okH.cons (Or.inl Z) (okH.nil (fun r h => nomatch h))))))))) (fun V195 le196 ow197 => ?_)
    refine U.done (nr Z) ?_
    refine WP.usdreg Z Z Z ?_
    refine U.p Z Z (.inl Z) (S.move Z (L 29 Z Z)) ?_
    refine U.p Z Z (.inl Z) (S.nilCheck Z (L 0 Z Z)) ?_
    refine U.p (v := .pointer (some ⟨b1, 0, none⟩)) Z Z (.inl Z) (S.fieldAddr Z (L 0 Z Z) Try.underlying46 Z ti27 Z Z) ?_
    refine U.k Z Z (.inl Z) (S.loadC Z (L 0 Z Z) Try.underlying27 Z ((ow197.own (k := 1) Z).cell Z)) (fun _ => (okH.nil (fun r h => by cases h; exact (ow197.own (k := 1) Z).lt))) ?_
    refine U.p (v := .pointer (some ⟨b162, 0, none⟩)) Z Z (.inl Z) (S.fieldAddr Z (L 24 Z Z) Try.underlying49 Z ti3 Z Z) ?_
    refine U.k Z Z (.inl Z) (S.loadC Z (L 0 Z Z) Try.underlying3 Z ((ow197.own (k := 0) Z).cell Z)) (fun _ => (okH.cons trivial (okH.nil (fun r h => by cases h; exact (ow197.own (k := 0) Z).lt)))) ?_
    refine U.p Z Z (.inl Z) (S.move Z (L 35 Z Z)) ?_
    have ow198 := ow197.pick 4 Z
    have ow199 := ow198.pick 4 Z
    have ow200 := ow199.pick 4 Z
    have ow201 := ow200.pick 4 Z
    obtain ⟨x202, hx203, h204⟩ := bindS h188
    refine O.call (V := V195) Z Z (.inl Z) Z en35 (aC (L 0 Z Z) aN) (wk_regs_scan_spill V195 _ (⟨p0.at_.set (Int.toNat p1.reg) x172, p0.active, p0.free, p0.spills⟩ : Tregs_scan) b1 z2 v4 v6 v8 ow201 _ hx203) (fun v205 V206 le207 hp208 => by obtain ⟨rfl, ow209⟩ := hp208; exact (fun _ => (okH.cons (Or.inr ((lookC ((ow209.own (k := 4) Z).cell Z) ((ow201.own (k := 4) Z).cell Z)))) (okH.cons (Or.inr ((lookC ((ow209.own (k := 0) Z).cell Z) ((ow201.own (k := 0) Z).cell Z)))) (okH.nil (fun r h => nomatch h)))))) (fun v205 V206 le207 hp208 => ?_)
    obtain ⟨rfl, ow209⟩ := hp208
    obtain ⟨x210, hx211, h212⟩ := bindS h204
    obtain ⟨_, hv213, _⟩ := ow209.osel (k := 1) Z hv179 hx211
    refine U.p Z Z (.inl Z) (S.index Z ((L 4 Z Z).trans hv213) (L 2 Z Z) Try.underlying27 ti3 (ix_ge hx211) (ix_lt hx211)) ?_
    obtain ⟨cs214, hv215, hlt216, hr217, hc218⟩ := ow209.osel (k := 1) Z hv179 hx211
    obtain rfl : cs214 = [.int .i64 x210] := hr217
    refine O.storeE (k := 1) (R := (RT.int .i64)) (j := 0) (y := x202.1) (cs := [.int .i64 x202.1]) ow209 Z hv215 Z Z (.inl Z) Z (L 0 Z Z) (L 1 Z Z) ti3 hx211 (by simp [topV]) Z Z Z (full Z) (fun H1 hs => (fun _ => (okH.cons Z (okH.cons (Or.inl Z) (okH.cons (Or.inl Z) (okH.nil (fun r h => nomatch h))))))) (fun V219 le220 ow221 => ?_)
    refine U.done (nr Z) ?_
    refine WP.usdreg Z Z Z ?_
    refine U.p Z Z (.inl Z) (S.move Z (L 38 Z Z)) ?_
    refine U.p Z Z (.inl Z) (S.nilCheck Z (L 0 Z Z)) ?_
    refine U.p (v := .pointer (some ⟨b1, 1, none⟩)) Z Z (.inl Z) (S.fieldAddr Z (L 0 Z Z) Try.underlying46 Z ti44 Z Z) ?_
    refine U.k Z Z (.inl Z) (S.loadC Z (L 0 Z Z) Try.underlying44 Z ((ow221.own (k := 0) Z).cell Z)) (fun _ => (okH.nil (fun r h => by cases h; exact (ow221.own (k := 0) Z).lt))) ?_
    refine U.p Z Z (.inl Z) (S.move Z (L 44 Z Z)) ?_
    refine U.k Z Z (.inl Z) (S.loadB Z (L 44 Z Z) Try.underlying49 Z ti49 (ow221.own (k := 5) Z).get Z) (fun _ => (okH.cons trivial (okH.nil (fun r h => by cases h; exact (ow221.own (k := 5) Z).lt)))) ?_
    obtain ⟨x222, hx223, h224⟩ := bindS h212
    obtain ⟨_, hv225, _⟩ := ow221.osel (k := 2) Z hv155 hx223
    refine U.p Z Z (.inl Z) (S.index Z ((L 2 Z Z).trans hv225) (L 1 Z Z) Try.underlying44 ti49 (ix_ge hx223) (ix_lt hx223)) ?_
    obtain ⟨cs226, hv227, hlt228, hr229, hc230⟩ := ow221.osel (k := 2) Z hv155 hx223
    obtain rfl : cs226 = [.int .i64 x222.reg, .int .i64 x222.from_, .int .i64 x222.to_] := hr229
    refine O.storeE (k := 2) (R := RT_Tflow_Span) (j := 0) (y := p1) (cs := [.int .i64 p1.reg, .int .i64 p1.from_, .int .i64 p1.to_]) ow221 Z hv227 Z Z (.inl Z) Z (L 0 Z Z) (L 1 Z Z) ti49 hx223 (by simp [topV]) Z Z Z (full Z) (fun H1 hs => (fun _ => (okH.cons (Or.inl Z) (okH.cons (Or.inl Z) (okH.nil (fun r h => nomatch h)))))) (fun V231 le232 ow233 => ?_)
    refine U.done (nr Z) ?_
    refine WP.ret ?_
    refine sqR ?_
    refine fin.slots' (.inr Z) fsN Z ⟨V231, Z, ((((((((le14.trans le23).trans le96).trans le164).trans le168).trans le196).trans le207).trans le220).trans le232), ?_⟩
    have ow234 := ow233.drop 4 Z
    have ow235 := ow234.drop 4 Z
    have e236 := Option.some.inj h224
    subst e236
    exact ⟨v6, ow235⟩
   ·have h237 := ifF c170 h150
    refine WP.skip ?_
    refine sqN ?_
    refine WP.udreg Z Z Z ?_
    refine U.p Z Z (.inl Z) (S.move Z (L 14 Z Z)) ?_
    refine U.p Z Z (.inl Z) (S.nilCheck Z (L 0 Z Z)) ?_
    refine U.p (v := .pointer (some ⟨b1, 0, none⟩)) Z Z (.inl Z) (S.fieldAddr Z (L 0 Z Z) Try.underlying46 Z ti27 Z Z) ?_
    refine U.k Z Z (.inl Z) (S.loadC Z (L 0 Z Z) Try.underlying27 Z ((ow169.own (k := 1) Z).cell Z)) (fun _ => (okH.nil (fun r h => by cases h; exact (ow169.own (k := 1) Z).lt))) ?_
    refine U.p (v := .pointer (some ⟨b12, 0, none⟩)) Z Z (.inl Z) (S.fieldAddr Z (L 19 Z Z) Try.underlying49 Z ti3 Z Z) ?_
    refine U.k Z Z (.inl Z) (S.loadC Z (L 0 Z Z) Try.underlying3 Z ((ow169.own (k := 5) Z).cell Z)) (fun _ => (okH.cons trivial (okH.nil (fun r h => by cases h; exact (ow169.own (k := 5) Z).lt)))) ?_
    refine U.p Z Z (.inl Z) (S.move Z (L 20 Z Z)) ?_
    have ow238 := ow169.pick 4 Z
    have ow239 := ow238.pick 4 Z
    have ow240 := ow239.pick 4 Z
    have ow241 := ow240.pick 4 Z
    obtain ⟨x242, hx243, h244⟩ := bindS h237
    refine O.call (V := V167) Z Z (.inl Z) Z en35 (aC (L 0 Z Z) aN) (wk_regs_scan_spill V167 _ p0 b1 z2 v4 v6 v8 ow241 _ hx243) (fun v245 V246 le247 hp248 => by obtain ⟨rfl, ow249⟩ := hp248; exact (fun _ => (okH.cons (Or.inr ((lookC ((ow249.own (k := 5) Z).cell Z) ((ow241.own (k := 5) Z).cell Z)))) (okH.cons (Or.inr ((lookC ((ow249.own (k := 0) Z).cell Z) ((ow241.own (k := 0) Z).cell Z)))) (okH.nil (fun r h => nomatch h)))))) (fun v245 V246 le247 hp248 => ?_)
    obtain ⟨rfl, ow249⟩ := hp248
    obtain ⟨x250, hx251, h252⟩ := bindS h244
    obtain ⟨b253, o254, n255, c256, hv257⟩ := ow249.ospt (k := 1) Z hx251
    obtain ⟨_, hv258, _⟩ := ow249.osel (k := 1) Z hv257 hx251
    refine U.p Z Z (.inl Z) (S.index Z ((L 4 Z Z).trans hv258) (L 2 Z Z) Try.underlying27 ti3 (ix_ge hx251) (ix_lt hx251)) ?_
    obtain ⟨cs259, hv260, hlt261, hr262, hc263⟩ := ow249.osel (k := 1) Z hv257 hx251
    obtain rfl : cs259 = [.int .i64 x250] := hr262
    refine O.storeE (k := 1) (R := (RT.int .i64)) (j := 0) (y := x242.1) (cs := [.int .i64 x242.1]) ow249 Z hv260 Z Z (.inl Z) Z (L 0 Z Z) (L 1 Z Z) ti3 hx251 (by simp [topV]) Z Z Z (full Z) (fun H1 hs => (fun _ => (okH.cons Z (okH.cons (Or.inl Z) (okH.cons (Or.inl Z) (okH.nil (fun r h => nomatch h))))))) (fun V264 le265 ow266 => ?_)
    refine U.done (nr Z) ?_
    refine fin.slots' (.inl Z) fsN Z ⟨V264, Z, ((((((le14.trans le23).trans le96).trans le164).trans le168).trans le247).trans le265), ?_⟩
    have ow267 := ow266.drop 4 Z
    have ow268 := ow267.drop 4 Z
    have e269 := Option.some.inj h252
    subst e269
    exact ⟨v6, ow268⟩
theorem wk_regs_Assign (V : Vw) (Rs : List At) (p0 : TFunc) (v1 : Value) (f2 : Fz RT_TIns V v1 p0.code) (ow : Ow V (Rs)) (r : Tregs_Map) (h : regs_Assign p0 = some r) : ∃ v V', Cl Try.prog 0 8 #[.agg #[.string p0.name, .int .i64 p0.params, .int .i64 p0.regs, v1]] V.H v V'.H ∧ V.le V' ∧ (∃ (v3 : Value), v = .agg #[v3, .int .i64 r.spill] ∧ Fz (RT.int .i64) V' v3 r.at_ ∧ Ow V' (Rs)) := by
 refine Ct.of (Nat.zero_le _) Try.func8 Z (nr Z) ?_
 unfold regs_Assign at h
 refine WP.usreg Z ?_
 refine O.box ow Z Z (.inl Z) Z (L 0 Z Z) (by simp [topV]) Z nd (fun b5 V6 le7 ow8 => ?_)
 refine O.alloc ow8 Z Z (.inl Z) Z ti31 Z Z nd (fun b10 V11 le12 ow13 => ?_)
 refine U.done (nr Z) ?_
 refine WP.usdreg Z Z Z ?_
 refine U.p (v := .pointer (some ⟨b5, 2, none⟩)) Z Z (.inl Z) (S.fieldAddr Z (L 1 Z Z) Try.underlying24 Z ti3 Z Z) ?_
 refine U.k Z Z (.inl Z) (S.loadC Z (L 0 Z Z) Try.underlying3 Z ((ow13.own (k := 1) Z).cell Z)) (fun _ => (okH.nil (fun r h => by cases h; exact (ow13.own (k := 1) Z).lt))) ?_
 refine U.p Z Z (.inl Z) (S.maxI Z (L 0 Z Z) K) ?_
 obtain ⟨xs15, hx16, h17⟩ := bindS h
 refine O.make (R := (RT.int .i64)) ow13 Z Z (.inl Z) Z (L 0 Z Z) (L 0 Z Z) Try.underlying27 ti3 Z Z Z (nr Z) Z hx16 (fun _ => (fun _ => (okH.cons trivial (okH.nil (fun r h => nomatch h))))) (fun v18 V19 le20 ow21 => ?_)
 obtain ⟨xs23, hx24, h25⟩ := bindS h17
 refine O.make (R := RT.bool) ow21 Z Z (.inl Z) Z K K Try.underlying43 ti4 Z Z Z (nr Z) Z hx24 (fun _ => (fun _ => (okH.cons trivial (okH.cons trivial (okH.nil (fun r h => nomatch h)))))) (fun v26 V27 le28 ow29 => ?_)
 refine U.p (v := .agg #[v18, .slice none 0 0, v26, .int .i64 0]) Z Z (.inl Z) (S.build (vs := [v18, v26]) Z ti46 Z pl46 (aC (L 1 Z Z) (aC (L 0 Z Z) aN)) (allC (ow29.osne (k := 1) Z) (allC (ow29.osne (k := 0) Z) allN)) (fill1 Z (ow29.oscells (k := 1) Z) (nr Z) (fill1 Z (ow29.oscells (k := 0) Z) (nr Z) Z))) ?_
 refine O.box ow29 Z Z (.inl Z) Z (L 0 Z Z) (by simp [topV]) Z (fun _ => (okH.cons trivial (okH.cons trivial (okH.cons trivial (okH.nil (fun r h => nomatch h)))))) (fun b31 V32 le33 ow34 => ?_)
 refine U.p Z Z (.inl Z) (S.assign Z (L 0 Z Z)) ?_
 refine U.done (nr Z) ?_
 refine WP.seq ?_
 refine WP.usreg Z ?_
 refine U.p Z Z (.inl Z) (S.move Z (L 0 Z Z)) ?_
 refine U.p Z Z (.inl Z) (S.nilCheck Z (L 0 Z Z)) ?_
 refine U.p (v := .pointer (some ⟨b31, 0, none⟩)) Z Z (.inl Z) (S.fieldAddr Z (L 0 Z Z) Try.underlying46 Z ti27 Z Z) ?_
 refine U.k Z Z (.inl Z) (S.load Z (L 0 Z Z) Try.underlying27 Z ((ow34.own (k := 0) Z).cell Z)) nd ?_
 refine U.p Z Z (.inl Z) (ow34.oslen (k := 2) Z Z (L 0 Z Z) Try.underlying27) ?_
 refine U.p Z Z (.inl Z) (S.move Z K) ?_
 refine U.done (nr Z) ?_
 refine WP.blk ?_
 have ow38 := ow34.pick 1 Z
 have ow39 := ow38.pick 2 Z
 have ow40 := ow39.pick 2 Z
 have ow41 := ow40.pick 3 Z
 have ow42 := ow41.pick 4 Z
 unfold regs_Assign_l1 at h25
 obtain ⟨n44, hn43⟩ := loopO_some.1 h25
 refine WP.loopI2 (fun n l V' => ∃ (xs36 : List Int) (x37 : Int), l = [(1, .pointer (some ⟨b5, 0, none⟩)), (2, .pointer (some ⟨b10, 0, none⟩)), (3, .pointer (some ⟨b31, 0, none⟩)), (19, .int .i64 (xs15.length : Int)), (20, .int .i64 x37)] ∧ V32.le V' ∧ Ow V' (.pt b5 (.cells 0 [.string p0.name, .int .i64 p0.params, .int .i64 p0.regs, v1]) :: .pt b10 (.cells 2 [.slice none 0 0, .int .i64 0]) :: .pt b31 (.cells 0 [v18, .slice none 0 0, v26, .int .i64 0]) :: .os (RT.int .i64) v18 xs36 :: .os RT.bool v26 xs23 :: Rs) ∧ itO (fun s => regs_Assign_l1b p0 xs15 xs23 s.1 s.2) n (xs36, x37) = some r) n44 _ ⟨xs15, 0, Z, .refl _, ow42, hn43⟩ (allCons (L 15 Z Z) (allCons (L 14 Z Z) (allCons (L 6 Z Z) (allCons (L 1 Z Z) (allCons (L 0 Z Z) allNil))))) ?_
 rintro _ _ V45 ⟨xs36, x37, rfl, le46, ow47, h51⟩
 obtain ⟨m48, q49, rfl, h52, e50⟩ := itS h51
 replace h52 : regs_Assign_l1b p0 xs15 xs23 xs36 x37 = some q49 := h52
 unfold regs_Assign_l1b at h52
 refine WP.usreg Z ?_
 refine U.p Z Z (.inl Z) (S.lss Z (L 4 Z Z) (L 3 Z Z)) ?_
 refine U.done (nr Z) ?_
 refine WP.seq ?_
 refine WP.cond _ (L 0 Z Z) Z (fun c53 => ?_) (fun c53 => ?_)
 ·have h54 := ifT c53 h52
  refine WP.skip ?_
  refine sqN ?_
  refine WP.seq ?_
  refine WP.blk ?_
  refine WP.usreg Z ?_
  refine U.p Z Z (.inl Z) (S.move Z (L 5 Z Z)) ?_
  refine U.p Z Z (.inl Z) (S.assign Z (L 0 Z Z)) ?_
  refine U.done (nr Z) ?_
  refine WP.ureg Z ?_
  refine U.p Z Z (.inl Z) (S.move Z (L 5 Z Z)) ?_
  refine U.p Z Z (.inl Z) (S.nilCheck Z (L 0 Z Z)) ?_
  refine U.p (v := .pointer (some ⟨b31, 0, none⟩)) Z Z (.inl Z) (S.fieldAddr Z (L 0 Z Z) Try.underlying46 Z ti27 Z Z) ?_
  refine U.k Z Z (.inl Z) (S.load Z (L 0 Z Z) Try.underlying27 Z ((ow47.own (k := 2) Z).cell Z)) nd ?_
  refine U.p Z Z (.inl Z) (S.move Z (L 4 Z Z)) ?_
  obtain ⟨x55, hx56, h57⟩ := bindS h54
  obtain ⟨b58, o59, n60, c61, hv62⟩ := ow47.ospt (k := 3) Z hx56
  obtain ⟨_, hv63, _⟩ := ow47.osel (k := 3) Z hv62 hx56
  refine U.p Z Z (.inl Z) (S.index Z ((L 1 Z Z).trans hv63) (L 0 Z Z) Try.underlying27 ti3 (ix_ge hx56) (ix_lt hx56)) ?_
  obtain ⟨cs64, hv65, hlt66, hr67, hc68⟩ := ow47.osel (k := 3) Z hv62 hx56
  obtain rfl : cs64 = [.int .i64 x55] := hr67
  refine O.storeE (k := 3) (R := (RT.int .i64)) (j := 0) (y := (-1)) (cs := [.int .i64 (-1)]) ow47 Z hv65 Z Z (.inl Z) Z (L 0 Z Z) K ti3 hx56 (by simp [topV]) Z Z Z (full Z) (fun _ _ => nd) (fun V69 le70 ow71 => ?_)
  refine U.done (nr Z) ?_
  refine blkN (sqN ?_)
  refine WP.ureg Z ?_
  refine U.p Z Z (.inl Z) (S.add Z (L 13 Z Z) K) ?_
  refine U.p Z Z (.inl Z) (S.move Z (L 0 Z Z)) ?_
  refine U.done (nr Z) ?_
  refine sqN ?_
  exact ⟨_, V69, Z, ⟨m48, Nat.lt_succ_self _, xs36.set (Int.toNat x37) (-1), w64 (x37 + 1), Z, (le46.trans le70), ow71, backS h57 e50⟩, (allCons (L 11 Z Z) (allCons (L 12 Z Z) (allCons (L 13 Z Z) (allCons (L 14 Z Z) (allCons (L 0 Z Z) allNil)))))⟩
 ·have h72 := ifF c53 h52
  refine WP.exit ?_
  refine sqE (sqE (blkE (sqN ?_)))
  have h73 := exitS h72 e50
  refine WP.seq ?_
  refine WP.usreg Z ?_
  refine U.p Z Z (.inl Z) (S.move Z (L 3 Z Z)) ?_
  refine U.p Z Z (.inl Z) (S.nilCheck Z (L 0 Z Z)) ?_
  refine U.p (v := .pointer (some ⟨b31, 2, none⟩)) Z Z (.inl Z) (S.fieldAddr Z (L 0 Z Z) Try.underlying46 Z ti43 Z Z) ?_
  refine U.k Z Z (.inl Z) (S.load Z (L 0 Z Z) Try.underlying43 Z ((ow47.own (k := 2) Z).cell Z)) nd ?_
  refine U.p Z Z (.inl Z) (ow47.oslen (k := 4) Z Z (L 0 Z Z) Try.underlying43) ?_
  refine U.p Z Z (.inl Z) (S.move Z K) ?_
  refine U.done (nr Z) ?_
  refine WP.blk ?_
  unfold regs_Assign_l2 at h73
  obtain ⟨n77, hn76⟩ := loopO_some.1 h73
  refine WP.loopI2 (fun n l V' => ∃ (xs74 : List Bool) (x75 : Int), l = [(1, .pointer (some ⟨b5, 0, none⟩)), (2, .pointer (some ⟨b10, 0, none⟩)), (3, .pointer (some ⟨b31, 0, none⟩)), (34, .int .i64 (xs23.length : Int)), (35, .int .i64 x75)] ∧ V45.le V' ∧ Ow V' (.pt b5 (.cells 0 [.string p0.name, .int .i64 p0.params, .int .i64 p0.regs, v1]) :: .pt b10 (.cells 2 [.slice none 0 0, .int .i64 0]) :: .pt b31 (.cells 0 [v18, .slice none 0 0, v26, .int .i64 0]) :: .os (RT.int .i64) v18 xs36 :: .os RT.bool v26 xs74 :: Rs) ∧ itO (fun s => regs_Assign_l2b p0 xs23 xs36 s.1 s.2) n (xs74, x75) = some r) n77 _ ⟨xs23, 0, Z, .refl _, ow47, hn76⟩ (allCons (L 7 Z Z) (allCons (L 8 Z Z) (allCons (L 9 Z Z) (allCons (L 1 Z Z) (allCons (L 0 Z Z) allNil))))) ?_
  rintro _ _ V78 ⟨xs74, x75, rfl, le79, ow80, h84⟩
  obtain ⟨m81, q82, rfl, h85, e83⟩ := itS h84
  replace h85 : regs_Assign_l2b p0 xs23 xs36 xs74 x75 = some q82 := h85
  unfold regs_Assign_l2b at h85
  refine WP.usreg Z ?_
  refine U.p Z Z (.inl Z) (S.lss Z (L 4 Z Z) (L 3 Z Z)) ?_
  refine U.done (nr Z) ?_
  refine WP.seq ?_
  refine WP.cond _ (L 0 Z Z) Z (fun c86 => ?_) (fun c86 => ?_)
  ·have h87 := ifT c86 h85
   refine WP.skip ?_
   refine sqN ?_
   refine WP.seq ?_
   refine WP.blk ?_
   refine WP.usreg Z ?_
   refine U.p Z Z (.inl Z) (S.move Z (L 5 Z Z)) ?_
   refine U.p Z Z (.inl Z) (S.assign Z (L 0 Z Z)) ?_
   refine U.done (nr Z) ?_
   refine WP.ureg Z ?_
   refine U.p Z Z (.inl Z) (S.move Z (L 5 Z Z)) ?_
   refine U.p Z Z (.inl Z) (S.nilCheck Z (L 0 Z Z)) ?_
   refine U.p (v := .pointer (some ⟨b31, 2, none⟩)) Z Z (.inl Z) (S.fieldAddr Z (L 0 Z Z) Try.underlying46 Z ti43 Z Z) ?_
   refine U.k Z Z (.inl Z) (S.load Z (L 0 Z Z) Try.underlying43 Z ((ow80.own (k := 2) Z).cell Z)) nd ?_
   refine U.p Z Z (.inl Z) (S.move Z (L 4 Z Z)) ?_
   obtain ⟨x88, hx89, h90⟩ := bindS h87
   obtain ⟨b91, o92, n93, c94, hv95⟩ := ow80.ospt (k := 4) Z hx89
   obtain ⟨_, hv96, _⟩ := ow80.osel (k := 4) Z hv95 hx89
   refine U.p Z Z (.inl Z) (S.index Z ((L 1 Z Z).trans hv96) (L 0 Z Z) Try.underlying43 ti4 (ix_ge hx89) (ix_lt hx89)) ?_
   obtain ⟨cs97, hv98, hlt99, hr100, hc101⟩ := ow80.osel (k := 4) Z hv95 hx89
   obtain rfl : cs97 = [.bool x88] := hr100
   refine O.storeE (k := 4) (R := RT.bool) (j := 0) (y := true) (cs := [.bool true]) ow80 Z hv98 Z Z (.inl Z) Z (L 0 Z Z) K ti4 hx89 (by simp [topV]) Z Z Z (full Z) (fun _ _ => nd) (fun V102 le103 ow104 => ?_)
   refine U.done (nr Z) ?_
   refine blkN (sqN ?_)
   refine WP.ureg Z ?_
   refine U.p Z Z (.inl Z) (S.add Z (L 13 Z Z) K) ?_
   refine U.p Z Z (.inl Z) (S.move Z (L 0 Z Z)) ?_
   refine U.done (nr Z) ?_
   refine sqN ?_
   exact ⟨_, V102, Z, ⟨m81, Nat.lt_succ_self _, xs74.set (Int.toNat x75) true, w64 (x75 + 1), Z, (le79.trans le103), ow104, backS h90 e83⟩, (allCons (L 11 Z Z) (allCons (L 12 Z Z) (allCons (L 13 Z Z) (allCons (L 14 Z Z) (allCons (L 0 Z Z) allNil)))))⟩
  ·have h105 := ifF c86 h85
   refine WP.exit ?_
   refine sqE (sqE (blkE (sqN ?_)))
   have h106 := exitS h105 e83
   refine WP.seq ?_
   refine WP.usreg Z ?_
   refine U.k Z Z (.inl Z) (S.loadB Z (L 1 Z Z) Try.underlying24 Z ti24 (ow80.own (k := 0) Z).get Z) nd ?_
   have f107 := f2.up ((((((le7.trans le12).trans le20).trans le28).trans le33).trans le46).trans le79)
   obtain ⟨x108, hx109, h110⟩ := bindS h106
   refine O.call (V := V78) Z Z (.inl Z) Z en16 (aC (L 0 Z Z) aN) (wk_flow_Spans V78 _ p0 v1 f107 ow80 _ hx109) (fun _ _ _ _ => nd) (fun v111 V112 le113 hp114 => ?_)
   obtain ⟨_, rfl, ow115⟩ := hp114
   refine U.p Z Z (.inl Z) (ow115.oslen (k := 0) Z Z (L 0 Z Z) Try.underlying44) ?_
   refine U.p Z Z (.inl Z) (S.move Z K) ?_
   refine U.done (nr Z) ?_
   refine WP.blk ?_
   have ow125 := ow115.nil RT_Tflow_Span
   have ow127 := ow125.drop 2 Z
   have ow128 := ow127.pick 1 Z
   have ow129 := ow128.pick 5 Z
   have ow130 := ow129.pick 2 Z
   have ow131 := ow130.pick 5 Z
   have ow132 := ow131.pick 5 Z
   have ow133 := ow132.pick 5 Z
   unfold regs_Assign_l3 at h110
   obtain ⟨n135, hn134⟩ := loopO_some.1 h110
   refine WP.loopI2 (fun n l V' => ∃ (xs118 : List Int) (v120 : Value) (xs121 : List Tflow_Span) (xs122 : List Bool) (x123 : Int) (x124 : Int), l = [(2, .pointer (some ⟨b10, 0, none⟩)), (3, .pointer (some ⟨b31, 0, none⟩)), (46, v111), (47, .int .i64 (x108.length : Int)), (48, .int .i64 x124)] ∧ V112.le V' ∧ Ow V' (.pt b10 (.cells 2 [.slice none 0 0, .int .i64 0]) :: .pt b31 (.cells 0 [v18, v120, v26, .int .i64 x123]) :: .os (RT.int .i64) v18 xs118 :: .os RT_Tflow_Span v120 xs121 :: .os RT.bool v26 xs122 :: .os RT_Tflow_Span v111 x108 :: Rs) ∧ itO (fun s => regs_Assign_l3b x108 s.1 s.2.1 s.2.2.1 s.2.2.2.1 s.2.2.2.2) n (xs118, xs121, xs122, x123, x124) = some r) n135 _ ⟨xs36, (.slice none 0 0), [], xs74, 0, 0, Z, .refl _, ow133, hn134⟩ (allCons (L 6 Z Z) (allCons (L 7 Z Z) (allCons (L 2 Z Z) (allCons (L 1 Z Z) (allCons (L 0 Z Z) allNil))))) ?_
   rintro _ _ V136 ⟨xs118, v120, xs121, xs122, x123, x124, rfl, le137, ow138, h142⟩
   obtain ⟨m139, q140, rfl, h143, e141⟩ := itS h142
   replace h143 : regs_Assign_l3b x108 xs118 xs121 xs122 x123 x124 = some q140 := h143
   unfold regs_Assign_l3b at h143
   refine WP.usreg Z ?_
   refine U.p Z Z (.inl Z) (S.lss Z (L 4 Z Z) (L 3 Z Z)) ?_
   refine U.done (nr Z) ?_
   refine WP.seq ?_
   refine WP.cond _ (L 0 Z Z) Z (fun c144 => ?_) (fun c144 => ?_)
   ·have h145 := ifT c144 h143
    refine WP.skip ?_
    refine sqN ?_
    refine WP.seq ?_
    refine WP.blk ?_
    refine WP.usreg Z ?_
    obtain ⟨x146, hx147, h148⟩ := bindS h145
    obtain ⟨b149, o150, n151, c152, hv153⟩ := ow138.ospt (k := 5) Z hx147
    obtain ⟨_, hv154, _⟩ := ow138.osel (k := 5) Z hv153 hx147
    refine U.p Z Z (.inl Z) (S.index Z ((L 3 Z Z).trans hv154) (L 5 Z Z) Try.underlying44 ti49 (ix_ge hx147) (ix_lt hx147)) ?_
    obtain ⟨cs155, hv156, hlt157, hr158, hc159⟩ := ow138.osel (k := 5) Z hv153 hx147
    obtain rfl : cs155 = [.int .i64 x146.reg, .int .i64 x146.from_, .int .i64 x146.to_] := hr158
    refine U.k Z Z (.inl Z) (S.loadN (cs := [.int .i64 x146.reg, .int .i64 x146.from_, .int .i64 x146.to_]) Z (L 0 Z Z) Try.underlying49 Z ti49 Z hc159) nd ?_
    refine O.alloc ow138 Z Z (.inl Z) Z ti49 Z Z nd (fun b160 V161 le162 ow163 => ?_)
    refine O.store (k := 0) (cs := [.int .i64 x146.reg, .int .i64 x146.from_, .int .i64 x146.to_]) (c' := [.int .i64 x146.reg, .int .i64 x146.from_, .int .i64 x146.to_]) ow163 Z Z Z (.inl Z) Z (L 0 Z Z) (L 1 Z Z) ti49 (by simp [topV]) Z Z (nr Z) Z Z nd (fun V165 le166 ow167 => ?_)
    refine U.done (nr Z) ?_
    refine WP.usreg Z ?_
    refine U.p Z Z (.inl Z) (S.move Z (L 5 Z Z)) ?_
    refine U.p (v := .pointer (some ⟨b160, 1, none⟩)) Z Z (.inl Z) (S.fieldAddr Z (L 1 Z Z) Try.underlying49 Z ti3 Z Z) ?_
    refine U.k Z Z (.inl Z) (S.load Z (L 0 Z Z) Try.underlying3 Z ((ow167.own (k := 0) Z).cell Z)) nd ?_
    have ow168 := ow167.pick 5 Z
    have ow169 := ow168.pick 5 Z
    have ow170 := ow169.pick 5 Z
    have ow171 := ow170.pick 5 Z
    obtain ⟨x172, hx173, h174⟩ := bindS h148
    refine O.call (V := V165) Z Z (.inl Z) Z en17 (aC (L 2 Z Z) (aC (L 0 Z Z) aN)) (wk_regs_scan_expire V165 _ (⟨xs118, xs121, xs122, x123⟩ : Tregs_scan) x146.from_ b31 0 v18 v120 v26 ow171 _ hx173) (fun _ _ _ _ => nd) (fun v175 V176 le177 hp178 => ?_)
    obtain ⟨v180, ow179⟩ := hp178
    refine U.done (nr Z) ?_
    refine WP.ureg Z ?_
    refine U.p Z Z (.inl Z) (S.move Z (L 9 Z Z)) ?_
    refine U.k Z Z (.inl Z) (S.loadB Z (L 5 Z Z) Try.underlying49 Z ti49 (ow179.own (k := 4) Z).get Z) nd ?_
    have ow182 := ow179.pick 3 Z
    have ow183 := ow182.pick 3 Z
    have ow184 := ow183.pick 3 Z
    have ow185 := ow184.pick 3 Z
    obtain ⟨x186, hx187, h188⟩ := bindS h174
    refine O.call (V := V176) Z Z (.inl Z) Z en18 (aC (L 1 Z Z) (aC (L 0 Z Z) aN)) (wk_regs_scan_put V176 _ x172 x146 b31 0 v18 v180 v26 ow185 _ hx187) (fun _ _ _ _ => nd) (fun v189 V190 le191 hp192 => ?_)
    obtain ⟨v194, ow193⟩ := hp192
    refine U.done (nr Z) ?_
    refine blkN (sqN ?_)
    refine WP.ureg Z ?_
    refine U.p Z Z (.inl Z) (S.add Z (L 15 Z Z) K) ?_
    refine U.p Z Z (.inl Z) (S.move Z (L 0 Z Z)) ?_
    refine U.done (nr Z) ?_
    refine sqN ?_
    have ow196 := ow193.drop 4 Z
    have ow197 := ow196.pick 5 Z
    have ow198 := ow197.pick 4 Z
    have ow199 := ow198.pick 4 Z
    have ow200 := ow199.pick 4 Z
    have ow201 := ow200.pick 4 Z
    have ow202 := ow201.pick 5 Z
    exact ⟨_, V190, Z, ⟨m139, Nat.lt_succ_self _, x186.at_, v194, x186.active, x186.free, x186.spills, w64 (x124 + 1), Z, ((((le137.trans le162).trans le166).trans le177).trans le191), ow202, backS h188 e141⟩, (allCons (L 13 Z Z) (allCons (L 14 Z Z) (allCons (L 15 Z Z) (allCons (L 16 Z Z) (allCons (L 0 Z Z) allNil)))))⟩
   ·have h203 := ifF c144 h143
    refine WP.exit ?_
    refine sqE (sqE (blkE (sqN ?_)))
    have h204 := exitS h203 e141
    refine WP.usdreg Z Z Z ?_
    refine U.p Z Z (.inl Z) (S.move Z (L 2 Z Z)) ?_
    refine U.p Z Z (.inl Z) (S.nilCheck Z (L 0 Z Z)) ?_
    refine U.p (v := .pointer (some ⟨b31, 0, none⟩)) Z Z (.inl Z) (S.fieldAddr Z (L 0 Z Z) Try.underlying46 Z ti27 Z Z) ?_
    refine U.k Z Z (.inl Z) (S.loadC Z (L 0 Z Z) Try.underlying27 Z ((ow138.own (k := 1) Z).cell Z)) (fun _ => (okH.nil (fun r h => by cases h; exact (ow138.own (k := 1) Z).lt))) ?_
    refine U.p Z Z (.inl Z) (S.move Z (L 6 Z Z)) ?_
    refine U.p Z Z (.inl Z) (S.nilCheck Z (L 0 Z Z)) ?_
    refine U.p (v := .pointer (some ⟨b31, 3, none⟩)) Z Z (.inl Z) (S.fieldAddr Z (L 0 Z Z) Try.underlying46 Z ti3 Z Z) ?_
    refine U.k Z Z (.inl Z) (S.loadC Z (L 0 Z Z) Try.underlying3 Z ((ow138.own (k := 1) Z).cell Z)) (fun _ => (okH.cons trivial (okH.nil (fun r h => by cases h; exact (ow138.own (k := 1) Z).lt)))) ?_
    refine U.p (v := .agg #[v18, .int .i64 x123]) Z Z (.inl Z) (S.build (vs := [v18, .int .i64 x123]) Z ti31 Z pl31 (aC (L 4 Z Z) (aC (L 0 Z Z) aN)) (allC (ow138.osne (k := 2) Z) (allC (by simp [topV]) allN)) (fill1 Z (ow138.oscells (k := 2) Z) (nr Z) (fill1 Z Z (nr Z) Z))) ?_
    refine O.store (k := 0) (cs := [v18, .int .i64 x123]) (c' := [v18, .int .i64 x123]) ow138 Z Z Z (.inl Z) Z (L 10 Z Z) (L 0 Z Z) ti31 (by simp [topV]) Z Z (nr Z) (by have q0 := (ow138.osone (k := 2) Z); simp only [List.all_cons, List.all_nil, q0]; rfl) Z (fun _ => (okH.cons (Or.inl Z) (okH.cons (Or.inl Z) (okH.nil (fun r h => nomatch h))))) (fun V205 le206 ow207 => ?_)
    refine U.done (nr Z) ?_
    refine WP.ret ?_
    obtain ⟨V208, eV212, le209, f210, ow211⟩ := ow207.osfz (k := 2) Z
    rw [← eV212]
    refine fin.cellN (.inr Z) Z (L 10 Z Z) Try.underlying31 Z ti31 (ow211.own (k := 0) Z).get Z ⟨V208, Z, ((((((((((le7.trans le12).trans le20).trans le28).trans le33).trans le46).trans le79).trans le113).trans le137).trans le206).trans le209), ?_⟩
    have ow214 := ow211.drop 0 Z
    have ow215 := ow214.drop 0 Z
    have ow216 := ow215.drop 0 Z
    have ow217 := ow216.drop 0 Z
    have ow218 := ow217.drop 0 Z
    have e219 := Option.some.inj h204
    subst e219
    exact ⟨v18, Z, f210, ow218⟩
theorem wk_law13_alive (V : Vw) (Rs : List At) (ow : Ow V (Rs)) (r : Bool) (h : law13_alive = some r) : ∃ v V', Cl Try.prog 0 6 #[] V.H v V'.H ∧ V.le V' ∧ (v = .bool r ∧ Ow V' (Rs)) := by
 refine Ct.of (Nat.zero_le _) Try.func6 Z (nr Z) ?_
 unfold law13_alive at h
 refine WP.usreg Z ?_
 refine U.p Z Z (.inl Z) (S.assign Z K) ?_
 refine U.done (nr Z) ?_
 refine WP.usreg Z ?_
 refine U.p (v := .agg #[.int .i64 15, .int .i64 (-1), .int .i64 0, .int .i64 (-1), .int .i64 0, .slice none 0 0, .int .i64 0, .bool false, .bool false]) Z Z (.inl Z) (S.build (vs := [.int .i64 15, .int .i64 (-1), .int .i64 0, .int .i64 (-1)]) Z ti29 Z pl29 (aC K (aC K (aC K (aC K aN)))) (allC (by simp [topV]) (allC (by simp [topV]) (allC (by simp [topV]) (allC (by simp [topV]) allN)))) Z) ?_
 refine O.lit (R := RT_TIns) ow Z Z (.inl Z) Z Try.underlying22 ti29 Z Z Z (nr Z) Z (aC (L 0 Z Z) aN) (.cons _ _ (⟨15, (-1), 0, (-1), 0, [], 0, false, false⟩ : TIns) _ (by simp [topV]) ⟨_, Z, Fz.nil⟩ .nil) (fun _ => nd) (fun v1 V2 le3 ow4 => ?_)
 refine U.p (v := .agg #[.string ByteArray.empty, .int .i64 1, .int .i64 1, v1]) Z Z (.inl Z) (S.build (vs := [.int .i64 1, .int .i64 1, v1]) Z ti24 Z pl24 (aC K (aC K (aC (L 0 Z Z) aN))) (allC (by simp [topV]) (allC (by simp [topV]) (allC (ow4.osne (k := 0) Z) allN))) (fill1 Z Z (nr Z) (fill1 Z Z (nr Z) (fill1 Z (ow4.oscells (k := 0) Z) (nr Z) Z)))) ?_
 obtain ⟨V6, eV10, le7, f8, ow9⟩ := ow4.osfz (k := 0) Z
 rw [← eV10]
 obtain ⟨x12, hx13, h14⟩ := bindS h
 refine O.call (V := V6) Z Z (.inl Z) Z en8 (aC (L 0 Z Z) aN) (wk_regs_Assign V6 _ (⟨ByteArray.empty, 1, 1, [(⟨15, (-1), 0, (-1), 0, [], 0, false, false⟩ : TIns)]⟩ : TFunc) v1 f8 ow9 _ hx13) (fun _ _ _ _ => nd) (fun v15 V16 le17 hp18 => ?_)
 obtain ⟨v20, rfl, f21, ow19⟩ := hp18
 refine O.alloc ow19 Z Z (.inl Z) Z ti31 Z Z nd (fun b22 V23 le24 ow25 => ?_)
 refine O.store (k := 0) (cs := [v20, .int .i64 x12.spill]) (c' := [v20, .int .i64 x12.spill]) ow25 Z Z Z (.inl Z) Z (L 0 Z Z) (L 1 Z Z) ti31 (by simp [topV]) Z Z (nr Z) (by have q0 := f21.one; simp only [List.all_cons, List.all_nil, q0]; rfl) Z nd (fun V27 le28 ow29 => ?_)
 refine U.done (nr Z) ?_
 refine WP.usreg Z ?_
 refine U.p (v := .pointer (some ⟨b22, 0, none⟩)) Z Z (.inl Z) (S.fieldAddr Z (L 0 Z Z) Try.underlying31 Z ti27 Z Z) ?_
 refine U.k Z Z (.inl Z) (S.load Z (L 0 Z Z) Try.underlying27 Z ((ow29.own (k := 0) Z).cell Z)) nd ?_
 refine U.p Z Z (.inl Z) (f21.1.len Z (L 0 Z Z) Try.underlying27) ?_
 refine U.p Z Z (.inl Z) (S.eqlI Z (L 0 Z Z) K) ?_
 refine U.p Z Z (.inl Z) (S.move Z (L 0 Z Z)) ?_
 obtain ⟨y30, hy31, h32⟩ := bindS h14
 refine U.joinX 11 (fun e H => ∃ (u33 u34 u35 u36 u37 : Value), H = V27.H ∧ e = [(16, .bool y30), (15, u33), (14, u34), (13, u35), (12, u36), (11, u37)]) ?_ ?_
 ·rintro _ _ ⟨u33, u34, u35, u36, u37, rfl, rfl⟩
  refine U.p Z Z (.inl Z) (S.move Z (L 0 Z Z)) ?_
  refine U.joinX 16 (fun e H => ∃ (u41 u42 u43 : Value), H = V27.H ∧ e = [(21, .bool (y30 && (decide (x12.spill = 0)))), (20, u41), (19, u42), (18, u43)]) ?_ ?_
  ·rintro _ _ ⟨u41, u42, u43, rfl, rfl⟩
   refine U.p Z Z (.inl Z) (S.move Z (L 0 Z Z)) ?_
   refine U.p Z Z (.inl Z) (S.pickB Z (L 0 Z Z) K K) ?_
   refine U.p Z Z (.inl Z) (S.assign Z (L 0 Z Z)) ?_
   refine U.done (nr Z) ?_
   refine WP.ret ?_
   refine fin.slot (.inr Z) Z (L 0 Z Z) ⟨V27, Z, ((((le3.trans le7).trans le17).trans le24).trans le28), ?_⟩
   have ow47 := ow29.drop 0 Z
   have e48 := Option.some.inj h32
   subst e48
   exact ⟨rfl, ow47⟩
  ·intro kk
   refine bcase (b := y30) (fun g49 => ?_) (fun g49 => ?_)
   ·skip
    refine U.p (v := .pointer (some ⟨b22, 1, none⟩)) Z Z (.inr ⟨_, _, _, Z, Z, ((L 0 Z Z).trans (cB g49))⟩) (S.fieldAddr Z (L 12 Z Z) Try.underlying31 Z ti3 Z Z) ?_
    refine U.k Z Z (.inr ⟨_, _, _, Z, Z, ((L 1 Z Z).trans (cB g49))⟩) (S.load Z (L 0 Z Z) Try.underlying3 Z ((ow29.own (k := 0) Z).cell Z)) nd ?_
    refine U.p Z Z (.inr ⟨_, _, _, Z, Z, ((L 2 Z Z).trans (cB g49))⟩) (S.eqlI Z (L 0 Z Z) K) ?_
    refine U.p Z Z (.inl Z) (S.pickT Z ((L 3 Z Z).trans (cB g49)) (L 0 Z Z)) ?_
    exact kk [(21, .bool (decide (x12.spill = 0))), (20, .bool (decide (x12.spill = 0))), (19, .int .i64 x12.spill), (18, .pointer (some ⟨b22, 1, none⟩))] _ ⟨.bool (decide (x12.spill = 0)), .int .i64 x12.spill, .pointer (some ⟨b22, 1, none⟩), Z, (by rw [g49, Bool.true_and])⟩
   ·skip
    refine U.x Z Z Z Z ((L 0 Z Z).trans (cB g49)) (by decide) ?_
    refine U.x Z Z Z Z ((L 1 Z Z).trans (cB g49)) (by decide) ?_
    refine U.x Z Z Z Z ((L 2 Z Z).trans (cB g49)) (by decide) ?_
    refine U.p Z Z (.inl Z) (S.pickF Z ((L 3 Z Z).trans (cB g49)) K) ?_
    exact kk [(21, .bool false), (20, .tuple #[]), (19, .tuple #[]), (18, .tuple #[])] _ ⟨.tuple #[], .tuple #[], .tuple #[], Z, (by rw [g49, Bool.false_and])⟩
 ·intro kk
  refine bcase (b := decide ((x12.at_.length : Int) = 1)) (fun g50 => ?_) (fun g50 => ?_)
  ·have h51 := ifT g50 hy31
   refine U.p (v := .pointer (some ⟨b22, 0, none⟩)) Z Z (.inr ⟨_, _, _, Z, Z, ((L 0 Z Z).trans (cB g50))⟩) (S.fieldAddr Z (L 5 Z Z) Try.underlying31 Z ti27 Z Z) ?_
   refine U.k Z Z (.inr ⟨_, _, _, Z, Z, ((L 1 Z Z).trans (cB g50))⟩) (S.load Z (L 0 Z Z) Try.underlying27 Z ((ow29.own (k := 0) Z).cell Z)) nd ?_
   obtain ⟨x52, hx53, h54⟩ := bindS h51
   obtain ⟨b55, o56, c57, cs58, hv59, hf60, hr61, hc62⟩ := f21.at hx53
   obtain rfl : cs58 = [.int .i64 x52] := hr61
   refine U.p Z Z (.inr ⟨_, _, _, Z, Z, ((L 2 Z Z).trans (cB g50))⟩) (S.index Z ((L 0 Z Z).trans hv59) K Try.underlying27 ti3 (ix_ge hx53) (ix_lt hx53)) ?_
   refine U.k Z Z (.inr ⟨_, _, _, Z, Z, ((L 3 Z Z).trans (cB g50))⟩) (S.load Z (L 0 Z Z) Try.underlying3 Z ((le24.trans le28).cell hf60 (hc62 0 _ Z))) nd ?_
   refine U.p Z Z (.inr ⟨_, _, _, Z, Z, ((L 4 Z Z).trans (cB g50))⟩) (S.eqlI Z (L 0 Z Z) K) ?_
   refine U.p Z Z (.inl Z) (S.pickT Z ((L 5 Z Z).trans (cB g50)) (L 0 Z Z)) ?_
   have e63 := Option.some.inj h54
   subst e63
   exact kk [(16, .bool (decide (x52 = 0))), (15, .bool (decide (x52 = 0))), (14, .int .i64 x52), (13, .pointer (some ⟨b55, o56 + Int.toNat 0 * 1, none⟩)), (12, v20), (11, .pointer (some ⟨b22, 0, none⟩))] _ ⟨.bool (decide (x52 = 0)), .int .i64 x52, .pointer (some ⟨b55, o56 + Int.toNat 0 * 1, none⟩), v20, .pointer (some ⟨b22, 0, none⟩), Z, Z⟩
  ·have h64 := ifF g50 hy31
   refine U.x Z Z Z Z ((L 0 Z Z).trans (cB g50)) (by decide) ?_
   refine U.x Z Z Z Z ((L 1 Z Z).trans (cB g50)) (by decide) ?_
   refine U.x Z Z Z Z ((L 2 Z Z).trans (cB g50)) (by decide) ?_
   refine U.x Z Z Z Z ((L 3 Z Z).trans (cB g50)) (by decide) ?_
   refine U.x Z Z Z Z ((L 4 Z Z).trans (cB g50)) (by decide) ?_
   refine U.p Z Z (.inl Z) (S.pickF Z ((L 5 Z Z).trans (cB g50)) K) ?_
   have e65 := Option.some.inj h64
   subst e65
   exact kk [(16, .bool false), (15, .tuple #[]), (14, .tuple #[]), (13, .tuple #[]), (12, .tuple #[]), (11, .tuple #[])] _ ⟨.tuple #[], .tuple #[], .tuple #[], .tuple #[], .tuple #[], Z, Z⟩
end Go.Vm.G13s
