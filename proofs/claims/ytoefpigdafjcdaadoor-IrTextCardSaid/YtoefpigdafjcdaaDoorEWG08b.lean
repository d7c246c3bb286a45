/-
  What the functions compute is what the plain ones say, for all inputs at which those answer.
-/
import Derived.Test.YtoefpigdafjcdaaDoorEWG08
set_option linter.unusedSimpArgs false
set_option linter.unusedVariables false
namespace Go.Vm.G08
open Go Go.Proofs
set_option maxHeartbeats 4000000
set_option maxRecDepth 10000
theorem wk_ir_Good (V : Vw) (Rs : List At) (gl : Glb V) (p0 : TFunc) (v1 : Value) (f2 : Fz RT_TIns V v1 p0.code) (ow : Ow V (Rs)) (r : Bool) (h : ir_Good p0 = some r) : ∃ v V', Cl Tryd.prog NG 11 #[.agg #[.string p0.name, .int .i64 p0.params, .int .i64 p0.regs, v1]] V.H v V'.H ∧ V.le V' ∧ (v = .bool r ∧ Ow V' (Rs)) := by
 refine Ct.of gl.lo Tryd.func11 Z (nr Z) ?_
 unfold ir_Good at h
 refine WP.usreg Z ?_
 refine O.box ow Z Z (.inl Z) Z (L 0 Z Z) (by simp [topV]) Z nd (fun b3 V4 le5 ow6 => ?_)
 refine U.p Z Z (.inl Z) (S.assign Z K) ?_
 refine U.done (nr Z) ?_
 refine WP.usreg Z ?_
 refine U.k Z Z (.inl Z) (S.loadB Z (L 1 Z Z) Tryd.underlying24 Z ti24 (ow6.own (k := 0) Z).get Z) nd ?_
 have f8 := f2.up le5
 obtain ⟨x9, hx10, h11⟩ := bindS h
 refine O.call (V := V4) Z Z (.inl Z) Z en18 (aC (L 0 Z Z) aN) (wk_ir_Labels V4 _ (gl.up le5) p0 v1 f8 ow6 _ hx10) (fun _ _ _ _ => nd) (fun v12 V13 le14 hp15 => ?_)
 obtain ⟨_, rfl, ow16⟩ := hp15
 refine O.alloc ow16 Z Z (.inl Z) Z ti28 Z Z nd (fun b19 V20 le21 ow22 => ?_)
 refine O.store (k := 0) (cs := [v12]) (c' := [v12]) ow22 Z Z Z (.inl Z) Z (L 0 Z Z) (L 1 Z Z) ti28 (ow22.osne (k := 1) Z) (by rw [ow22.oscells (k := 1) rfl]) Z (nr Z) (by have q0 := (ow22.osone (k := 1) Z); simp only [List.all_cons, List.all_nil, q0]; rfl) Z nd (fun V24 le25 ow26 => ?_)
 refine U.done (nr Z) ?_
 refine WP.usreg Z ?_
 refine U.k Z Z (.inl Z) (S.load Z (L 0 Z Z) Tryd.underlying28 Z ((ow26.own (k := 0) Z).cell Z)) nd ?_
 have ow27 := ow26.pick 1 Z
 obtain ⟨x28, hx29, h30⟩ := bindS h11
 refine O.call (V := V24) Z Z (.inl Z) Z en19 (aC (L 0 Z Z) aN) (wk_slices_Clone V24 _ (gl.up (((le5.trans le14).trans le21).trans le25)) x9 v12 ow27 _ hx29) (fun _ _ _ _ => nd) (fun v31 V32 le33 hp34 => ?_)
 obtain ⟨_, rfl, ow35⟩ := hp34
 refine U.p Z Z (.inl Z) (S.assign Z (L 0 Z Z)) ?_
 refine U.done (nr Z) ?_
 refine WP.usreg Z ?_
 refine U.p Z Z (.inl Z) (S.move Z (L 0 Z Z)) ?_
 obtain ⟨x38, hx39, h40⟩ := bindS h30
 refine O.call (V := V32) Z Z (.inl Z) Z en20 (aC (L 0 Z Z) aN) (wk_slices_Sort V32 _ (gl.up ((((le5.trans le14).trans le21).trans le25).trans le33)) x28 v31 ow35 _ hx39) (fun _ _ _ _ => nd) (fun v41 V42 le43 hp44 => ?_)
 have ow45 := hp44
 refine U.done (nr Z) ?_
 refine WP.seq ?_
 refine WP.seqI (fun l V' => ∃ (x46 : Bool), l = [(1, .pointer (some ⟨b3, 0, none⟩)), (3, .pointer (some ⟨b19, 0, none⟩)), (35, .bool x46)] ∧ V42.le V' ∧ Ow V' (.pt b3 (.cells 0 [.string p0.name, .int .i64 p0.params, .int .i64 p0.regs, v1]) :: .pt b19 (.cells 1 [v12]) :: .os (RT.int .i64) v12 x9 :: Rs) ∧ ir_Good_k1 p0 x9 x46 = some r) ?_ ?_
 ·rintro _ V47 ⟨x46, rfl, le48, ow49, h50⟩
  unfold ir_Good_k1 at h50
  refine WP.cond _ (L 2 Z Z) Z (fun c51 => ?_) (fun c51 => ?_)
  ·have h52 := ifT c51 h50
   refine WP.usreg Z ?_
   refine U.p Z Z (.inl Z) (S.assign Z K) ?_
   refine U.done (nr Z) ?_
   refine WP.ret ?_
   refine sqR ?_
   refine fin.slot (.inr Z) Z (L 0 Z Z) ⟨V47, Z, ((((((le5.trans le14).trans le21).trans le25).trans le33).trans le43).trans le48), ?_⟩
   have ow53 := ow49.drop 0 Z
   have ow54 := ow53.drop 0 Z
   have ow55 := ow54.drop 0 Z
   have e56 := Option.some.inj h52
   subst e56
   exact ⟨rfl, ow55⟩
  ·have h57 := ifF c51 h50
   refine WP.skip ?_
   refine sqN ?_
   refine WP.seq ?_
   refine WP.usreg Z ?_
   refine U.p (v := .pointer (some ⟨b3, 3, none⟩)) Z Z (.inl Z) (S.fieldAddr Z (L 0 Z Z) Tryd.underlying24 Z ti22 Z Z) ?_
   refine U.k Z Z (.inl Z) (S.load Z (L 0 Z Z) Tryd.underlying22 Z ((ow49.own (k := 0) Z).cell Z)) nd ?_
   refine U.p (v := .pointer (some ⟨b3, 3, none⟩)) Z Z (.inl Z) (S.fieldAddr Z (L 2 Z Z) Tryd.underlying24 Z ti22 Z Z) ?_
   refine U.k Z Z (.inl Z) (S.load Z (L 0 Z Z) Tryd.underlying22 Z ((ow49.own (k := 0) Z).cell Z)) nd ?_
   refine U.p Z Z (.inl Z) (f8.1.len Z (L 0 Z Z) Tryd.underlying22) ?_
   refine U.p Z Z (.inl Z) (S.sub Z (L 0 Z Z) K) ?_
   obtain ⟨x58, hx59, h60⟩ := bindS h57
   obtain ⟨b61, o62, c63, cs64, hv65, hf66, hr67, hc68⟩ := f8.at hx59
   obtain ⟨v69, rfl, f70⟩ := hr67
   refine U.p Z Z (.inl Z) (S.index Z ((L 4 Z Z).trans hv65) (L 0 Z Z) Tryd.underlying22 ti30 (ix_ge hx59) (ix_lt hx59)) ?_
   refine U.p (v := .pointer (some ⟨b61, o62 + Int.toNat (w64 ((p0.code.length : Int) - 1)) * 9, none⟩)) Z Z (.inl Z) (S.fieldAddr Z (L 0 Z Z) Tryd.underlying30 Z ti3 Z Z) ?_
   refine U.k Z Z (.inl Z) (S.load Z (L 0 Z Z) Tryd.underlying3 Z ((((((le14.trans le21).trans le25).trans le33).trans le43).trans le48).cell hf66 (hc68 0 _ Z))) nd ?_
   refine U.p Z Z (.inl Z) (S.assign Z (L 0 Z Z)) ?_
   refine U.done (nr Z) ?_
   refine WP.usreg Z ?_
   refine U.p Z Z (.inl Z) (S.move Z (L 0 Z Z)) ?_
   refine U.p Z Z (.inl Z) (S.neqI Z (L 0 Z Z) K) ?_
   refine U.p Z Z (.inl Z) (S.move Z (L 0 Z Z)) ?_
   refine U.joinX 6 (fun e H => ∃ (u71 u72 : Value), H = V47.H ∧ e = [(50, .bool ((decide (x58.op ≠ 15)) && (decide (x58.op ≠ 12)))), (49, u71), (48, u72)]) ?_ ?_
   ·rintro _ _ ⟨u71, u72, rfl, rfl⟩
    refine U.p Z Z (.inl Z) (S.move Z (L 0 Z Z)) ?_
    refine U.joinX 10 (fun e H => ∃ (u76 u77 : Value), H = V47.H ∧ e = [(54, .bool (((decide (x58.op ≠ 15)) && (decide (x58.op ≠ 12))) && (decide (x58.op ≠ 16)))), (53, u76), (52, u77)]) ?_ ?_
    ·rintro _ _ ⟨u76, u77, rfl, rfl⟩
     refine U.done (nr Z) ?_
     refine WP.cond _ (L 0 Z Z) Z (fun c81 => ?_) (fun c81 => ?_)
     ·have h82 := ifT c81 h60
      refine WP.usreg Z ?_
      refine U.p Z Z (.inl Z) (S.assign Z K) ?_
      refine U.done (nr Z) ?_
      refine WP.ret ?_
      refine sqR ?_
      refine fin.slot (.inr Z) Z (L 0 Z Z) ⟨V47, Z, ((((((le5.trans le14).trans le21).trans le25).trans le33).trans le43).trans le48), ?_⟩
      have ow83 := ow49.drop 0 Z
      have ow84 := ow83.drop 0 Z
      have ow85 := ow84.drop 0 Z
      have e86 := Option.some.inj h82
      subst e86
      exact ⟨rfl, ow85⟩
     ·have h87 := ifF c81 h60
      refine WP.skip ?_
      refine sqN ?_
      refine WP.usreg Z ?_
      refine U.p (v := .pointer (some ⟨b3, 3, none⟩)) Z Z (.inl Z) (S.fieldAddr Z (L 20 Z Z) Tryd.underlying24 Z ti22 Z Z) ?_
      refine U.k Z Z (.inl Z) (S.load Z (L 0 Z Z) Tryd.underlying22 Z ((ow49.own (k := 0) Z).cell Z)) nd ?_
      refine U.p (v := .func (.func 23) #[] #[.pointer (some ⟨b3, 0, none⟩), .pointer (some ⟨b19, 0, none⟩)]) Z Z (.inl Z) (S.makeFunc' Z (amN) (am2 (L 22 Z Z) (L 23 Z Z))) ?_
      have f88 := f8.up (((((le14.trans le21).trans le25).trans le33).trans le43).trans le48)
      have ow89 := ow49.pick 2 Z
      have ow90 := ow89.pick 2 Z
      have ow91 := ow90.pick 2 Z
      obtain ⟨x92, hx93, h94⟩ := bindS h87
      refine O.call (V := V47) Z Z (.inl Z) Z en22 (aC (L 1 Z Z) (aC (L 0 Z Z) aN)) (wk_slices_ContainsFunc V47 _ (gl.up ((((((le5.trans le14).trans le21).trans le25).trans le33).trans le43).trans le48)) p0.code p0 x9 v1 b3 0 v1 b19 1 v12 f88 f88 ow91 _ hx93) (fun _ _ _ _ => nd) (fun v95 V96 le97 hp98 => ?_)
      obtain ⟨rfl, ow99⟩ := hp98
      refine U.p Z Z (.inl Z) (S.not Z (L 0 Z Z)) ?_
      refine U.p Z Z (.inl Z) (S.assign Z (L 0 Z Z)) ?_
      refine U.done (nr Z) ?_
      refine WP.ret ?_
      refine fin.slot (.inr Z) Z (L 0 Z Z) ⟨V96, Z, (((((((le5.trans le14).trans le21).trans le25).trans le33).trans le43).trans le48).trans le97), ?_⟩
      have ow100 := ow99.drop 0 Z
      have ow101 := ow100.drop 0 Z
      have ow102 := ow101.drop 0 Z
      have e103 := Option.some.inj h94
      subst e103
      exact ⟨rfl, ow102⟩
    ·intro kk
     refine bcase (b := (decide (x58.op ≠ 15)) && (decide (x58.op ≠ 12))) (fun g104 => ?_) (fun g104 => ?_)
     ·skip
      refine U.p Z Z (.inr ⟨_, _, _, Z, Z, ((L 0 Z Z).trans (cB g104))⟩) (S.move Z (L 7 Z Z)) ?_
      refine U.p Z Z (.inr ⟨_, _, _, Z, Z, ((L 1 Z Z).trans (cB g104))⟩) (S.neqI Z (L 0 Z Z) K) ?_
      refine U.p Z Z (.inl Z) (S.pickT Z ((L 2 Z Z).trans (cB g104)) (L 0 Z Z)) ?_
      exact kk [(54, .bool (decide (x58.op ≠ 16))), (53, .bool (decide (x58.op ≠ 16))), (52, .int .i64 x58.op)] _ ⟨.bool (decide (x58.op ≠ 16)), .int .i64 x58.op, Z, (by rw [g104, Bool.true_and])⟩
     ·skip
      refine U.x Z Z Z Z ((L 0 Z Z).trans (cB g104)) (by decide) ?_
      refine U.x Z Z Z Z ((L 1 Z Z).trans (cB g104)) (by decide) ?_
      refine U.p Z Z (.inl Z) (S.pickF Z ((L 2 Z Z).trans (cB g104)) K) ?_
      exact kk [(54, .bool false), (53, .tuple #[]), (52, .tuple #[])] _ ⟨.tuple #[], .tuple #[], Z, (by rw [g104, Bool.false_and])⟩
   ·intro kk
    refine bcase (b := decide (x58.op ≠ 15)) (fun g105 => ?_) (fun g105 => ?_)
    ·skip
     refine U.p Z Z (.inr ⟨_, _, _, Z, Z, ((L 0 Z Z).trans (cB g105))⟩) (S.move Z (L 3 Z Z)) ?_
     refine U.p Z Z (.inr ⟨_, _, _, Z, Z, ((L 1 Z Z).trans (cB g105))⟩) (S.neqI Z (L 0 Z Z) K) ?_
     refine U.p Z Z (.inl Z) (S.pickT Z ((L 2 Z Z).trans (cB g105)) (L 0 Z Z)) ?_
     exact kk [(50, .bool (decide (x58.op ≠ 12))), (49, .bool (decide (x58.op ≠ 12))), (48, .int .i64 x58.op)] _ ⟨.bool (decide (x58.op ≠ 12)), .int .i64 x58.op, Z, (by rw [g105, Bool.true_and])⟩
    ·skip
     refine U.x Z Z Z Z ((L 0 Z Z).trans (cB g105)) (by decide) ?_
     refine U.x Z Z Z Z ((L 1 Z Z).trans (cB g105)) (by decide) ?_
     refine U.p Z Z (.inl Z) (S.pickF Z ((L 2 Z Z).trans (cB g105)) K) ?_
     exact kk [(50, .bool false), (49, .tuple #[]), (48, .tuple #[])] _ ⟨.tuple #[], .tuple #[], Z, (by rw [g105, Bool.false_and])⟩
 ·skip
  refine WP.udreg Z Z Z ?_
  refine U.p (v := .pointer (some ⟨b3, 1, none⟩)) Z Z (.inl Z) (S.fieldAddr Z (L 9 Z Z) Tryd.underlying24 Z ti3 Z Z) ?_
  refine U.k Z Z (.inl Z) (S.load Z (L 0 Z Z) Tryd.underlying3 Z ((ow45.own (k := 3) Z).cell Z)) (fun _ => (okH.nil (fun r h => by cases h; exact (ow45.own (k := 3) Z).lt))) ?_
  refine U.p Z Z (.inl Z) (S.lss Z (L 0 Z Z) K) ?_
  refine U.p Z Z (.inl Z) (S.move Z (L 0 Z Z)) ?_
  refine bcase (b := decide (p0.params < 0)) (fun g106 => ?_) (fun g106 => ?_)
  ·have h107 := ifT g106 h40
   refine U.x Z Z Z Z ((L 0 Z Z).trans (cB g106)) (by decide) ?_
   refine U.x Z Z Z Z ((L 1 Z Z).trans (cB g106)) (by decide) ?_
   refine U.x Z Z Z Z ((L 2 Z Z).trans (cB g106)) (by decide) ?_
   refine U.x Z Z Z Z ((L 3 Z Z).trans (cB g106)) (by decide) ?_
   refine U.x Z Z Z Z ((L 4 Z Z).trans (cB g106)) (by decide) ?_
   refine U.p Z Z (.inl Z) (S.pickT Z ((L 5 Z Z).trans (cB g106)) K) ?_
   refine U.p Z Z (.inl Z) (S.move Z (L 0 Z Z)) ?_
   refine U.x Z Z Z Z (L 0 Z Z) (by decide) ?_
   refine U.x Z Z Z Z (L 1 Z Z) (by decide) ?_
   refine U.x Z Z Z Z (L 2 Z Z) (by decide) ?_
   refine U.x Z Z Z Z (L 3 Z Z) (by decide) ?_
   refine U.x Z Z Z Z (L 4 Z Z) (by decide) ?_
   refine U.x Z Z Z Z (L 5 Z Z) (by decide) ?_
   refine U.p Z Z (.inl Z) (S.pickT Z (L 6 Z Z) K) ?_
   refine U.p Z Z (.inl Z) (S.move Z (L 0 Z Z)) ?_
   refine U.x Z Z Z Z (L 0 Z Z) (by decide) ?_
   refine U.x Z Z Z Z (L 1 Z Z) (by decide) ?_
   refine U.x Z Z Z Z (L 2 Z Z) (by decide) ?_
   refine U.x Z Z Z Z (L 3 Z Z) (by decide) ?_
   refine U.p Z Z (.inl Z) (S.pickT Z (L 4 Z Z) K) ?_
   refine U.done (nr Z) ?_
   refine sqN ?_
   have ow108 := ow45.drop 0 Z
   have ow109 := ow108.pick 0 Z
   have ow110 := ow109.pick 1 Z
   have ow111 := ow110.pick 2 Z
   exact ⟨_, V42, Z, ⟨true, Z, (.refl _), ow111, h107⟩, (allCons (L 33 Z Z) (allCons (L 29 Z Z) (allCons (L 0 Z Z) allNil)))⟩
  ·have h112 := ifF g106 h40
   refine U.p (v := .pointer (some ⟨b3, 1, none⟩)) Z Z (.inr ⟨_, _, _, Z, Z, ((L 0 Z Z).trans (cB g106))⟩) (S.fieldAddr Z (L 13 Z Z) Tryd.underlying24 Z ti3 Z Z) ?_
   refine U.k Z Z (.inr ⟨_, _, _, Z, Z, ((L 1 Z Z).trans (cB g106))⟩) (S.load Z (L 0 Z Z) Tryd.underlying3 Z ((ow45.own (k := 3) Z).cell Z)) (fun _ => (okH.cons trivial (okH.nil (fun r h => by cases h; exact (ow45.own (k := 3) Z).lt)))) ?_
   refine U.p (v := .pointer (some ⟨b3, 2, none⟩)) Z Z (.inr ⟨_, _, _, Z, Z, ((L 2 Z Z).trans (cB g106))⟩) (S.fieldAddr Z (L 15 Z Z) Tryd.underlying24 Z ti3 Z Z) ?_
   refine U.k Z Z (.inr ⟨_, _, _, Z, Z, ((L 3 Z Z).trans (cB g106))⟩) (S.load Z (L 0 Z Z) Tryd.underlying3 Z ((ow45.own (k := 3) Z).cell Z)) (fun _ => (okH.cons trivial (okH.cons trivial (okH.nil (fun r h => by cases h; exact (ow45.own (k := 3) Z).lt))))) ?_
   refine U.p Z Z (.inr ⟨_, _, _, Z, Z, ((L 4 Z Z).trans (cB g106))⟩) (S.gtr Z (L 2 Z Z) (L 0 Z Z)) ?_
   refine U.p Z Z (.inl Z) (S.pickF Z ((L 5 Z Z).trans (cB g106)) (L 0 Z Z)) ?_
   refine U.p Z Z (.inl Z) (S.move Z (L 0 Z Z)) ?_
   refine bcase (b := decide (p0.regs < p0.params)) (fun g113 => ?_) (fun g113 => ?_)
   ·have h114 := ifT g113 h112
    refine U.x Z Z Z Z ((L 0 Z Z).trans (cB g113)) (by decide) ?_
    refine U.x Z Z Z Z ((L 1 Z Z).trans (cB g113)) (by decide) ?_
    refine U.x Z Z Z Z ((L 2 Z Z).trans (cB g113)) (by decide) ?_
    refine U.x Z Z Z Z ((L 3 Z Z).trans (cB g113)) (by decide) ?_
    refine U.x Z Z Z Z ((L 4 Z Z).trans (cB g113)) (by decide) ?_
    refine U.x Z Z Z Z ((L 5 Z Z).trans (cB g113)) (by decide) ?_
    refine U.p Z Z (.inl Z) (S.pickT Z ((L 6 Z Z).trans (cB g113)) K) ?_
    refine U.p Z Z (.inl Z) (S.move Z (L 0 Z Z)) ?_
    refine U.x Z Z Z Z (L 0 Z Z) (by decide) ?_
    refine U.x Z Z Z Z (L 1 Z Z) (by decide) ?_
    refine U.x Z Z Z Z (L 2 Z Z) (by decide) ?_
    refine U.x Z Z Z Z (L 3 Z Z) (by decide) ?_
    refine U.p Z Z (.inl Z) (S.pickT Z (L 4 Z Z) K) ?_
    refine U.done (nr Z) ?_
    refine sqN ?_
    have ow115 := ow45.drop 0 Z
    have ow116 := ow115.pick 0 Z
    have ow117 := ow116.pick 1 Z
    have ow118 := ow117.pick 2 Z
    exact ⟨_, V42, Z, ⟨true, Z, (.refl _), ow118, h114⟩, (allCons (L 33 Z Z) (allCons (L 29 Z Z) (allCons (L 0 Z Z) allNil)))⟩
   ·have h119 := ifF g113 h112
    refine U.p Z Z (.inr ⟨_, _, _, Z, Z, ((L 0 Z Z).trans (cB g113))⟩) (S.move Z (L 13 Z Z)) ?_
    obtain ⟨x120, hx121, h122⟩ := bindS h119
    refine O.call (V := V42) Z Z (.inr ⟨_, _, _, Z, Z, ((L 1 Z Z).trans (cB g113))⟩) Z en21 (aC (L 0 Z Z) aN) (wk_slices_Compact V42 _ (gl.up (((((le5.trans le14).trans le21).trans le25).trans le33).trans le43)) x38 v31 ow45 _ hx121) (fun v123 V124 le125 hp126 => by obtain ⟨_, rfl, ow127⟩ := hp126; exact (fun _ => (okH.cons (Or.inl Z) (okH.cons (Or.inl Z) (okH.cons (Or.inl Z) (okH.nil (fun r h => nomatch h))))))) (fun v123 V124 le125 hp126 => ?_)
    obtain ⟨_, rfl, ow127⟩ := hp126
    refine U.p Z Z (.inr ⟨_, _, _, Z, Z, ((L 2 Z Z).trans (cB g113))⟩) (ow127.oslen (k := 0) Z Z (L 0 Z Z) Tryd.underlying28) ?_
    refine U.k Z Z (.inr ⟨_, _, _, Z, Z, ((L 3 Z Z).trans (cB g113))⟩) (S.load Z (L 19 Z Z) Tryd.underlying28 Z ((ow127.own (k := 2) Z).cell Z)) (fun _ => (okH.cons (Or.inr (Or.inl ((ow127.own (k := 2) Z).get.trans (ow45.own (k := 2) Z).get.symm))) (okH.cons trivial (okH.cons trivial (okH.cons trivial (okH.nil (fun r h => by cases h; exact (ow127.own (k := 2) Z).lt))))))) ?_
    refine U.p Z Z (.inr ⟨_, _, _, Z, Z, ((L 4 Z Z).trans (cB g113))⟩) (ow127.oslen (k := 1) Z Z (L 0 Z Z) Tryd.underlying28) ?_
    refine U.p Z Z (.inr ⟨_, _, _, Z, Z, ((L 5 Z Z).trans (cB g113))⟩) (S.neqI Z (L 2 Z Z) (L 0 Z Z)) ?_
    refine U.p Z Z (.inl Z) (S.pickF Z ((L 6 Z Z).trans (cB g113)) (L 0 Z Z)) ?_
    refine U.p Z Z (.inl Z) (S.move Z (L 0 Z Z)) ?_
    refine bcase (b := decide ((x120.length : Int) ≠ (x9.length : Int))) (fun g130 => ?_) (fun g130 => ?_)
    ·have h131 := ifT g130 h122
     refine U.x Z Z Z Z ((L 0 Z Z).trans (cB g130)) (by decide) ?_
     refine U.x Z Z Z Z ((L 1 Z Z).trans (cB g130)) (by decide) ?_
     refine U.x Z Z Z Z ((L 2 Z Z).trans (cB g130)) (by decide) ?_
     refine U.x Z Z Z Z ((L 3 Z Z).trans (cB g130)) (by decide) ?_
     refine U.p Z Z (.inl Z) (S.pickT Z ((L 4 Z Z).trans (cB g130)) K) ?_
     refine U.done (nr Z) ?_
     refine sqN ?_
     have ow132 := ow127.drop 0 Z
     have ow133 := ow132.pick 0 Z
     have ow134 := ow133.pick 1 Z
     have ow135 := ow134.pick 2 Z
     exact ⟨_, V124, Z, ⟨true, Z, le125, ow135, h131⟩, (allCons (L 33 Z Z) (allCons (L 29 Z Z) (allCons (L 0 Z Z) allNil)))⟩
    ·have h136 := ifF g130 h122
     refine U.p (v := .pointer (some ⟨b3, 3, none⟩)) Z Z (.inr ⟨_, _, _, Z, Z, ((L 0 Z Z).trans (cB g130))⟩) (S.fieldAddr Z (L 28 Z Z) Tryd.underlying24 Z ti22 Z Z) ?_
     refine U.k Z Z (.inr ⟨_, _, _, Z, Z, ((L 1 Z Z).trans (cB g130))⟩) (S.load Z (L 0 Z Z) Tryd.underlying22 Z ((ow127.own (k := 3) Z).cell Z)) (fun _ => (okH.cons trivial (okH.cons (Or.inl Z) (okH.cons trivial (okH.cons trivial (okH.cons trivial (okH.nil (fun r h => by cases h; exact (ow127.own (k := 3) Z).lt)))))))) ?_
     refine U.p Z Z (.inr ⟨_, _, _, Z, Z, ((L 2 Z Z).trans (cB g130))⟩) (f8.1.len Z (L 0 Z Z) Tryd.underlying22) ?_
     refine U.p Z Z (.inr ⟨_, _, _, Z, Z, ((L 3 Z Z).trans (cB g130))⟩) (S.eqlI Z (L 0 Z Z) K) ?_
     refine U.p Z Z (.inl Z) (S.pickF Z ((L 4 Z Z).trans (cB g130)) (L 0 Z Z)) ?_
     refine U.done (nr Z) ?_
     refine sqN ?_
     have ow137 := ow127.drop 0 Z
     have ow138 := ow137.pick 0 Z
     have ow139 := ow138.pick 1 Z
     have ow140 := ow139.pick 2 Z
     exact ⟨_, V124, Z, ⟨decide ((p0.code.length : Int) = 0), Z, le125, ow140, h136⟩, (allCons (L 33 Z Z) (allCons (L 29 Z Z) (allCons (L 0 Z Z) allNil)))⟩
theorem wk_ir_Whole_c1 (V : Vw) (Rs : List At) (gl : Glb V) (p0 : Int) (p1 : TModule) (b1 : Nat) (z2 : Nat) (v4 : Value) (v6 : Value) (f5 : Fz RT_TFunc V v4 p1.funcs) (f7 : Fz (RT.int .i64) V v6 p1.threads) (ow : Ow V (.pt b1 (.cells z2 [v4, v6]) :: Rs)) (r : Bool) (h : ir_Whole_c1 p0 p1 = some r) : ∃ v V', Cl Tryd.prog NG 17 #[.int .i64 p0, .pointer (some ⟨b1, 0, none⟩)] V.H v V'.H ∧ V.le V' ∧ (v = .bool r ∧ Ow V' (.pt b1 (.cells z2 [v4, v6]) :: Rs)) := by
 refine Ct.of gl.lo Tryd.func17 Z (nr Z) ?_
 unfold ir_Whole_c1 at h
 refine WP.usreg Z ?_
 refine U.p Z Z (.inl Z) (S.assign Z K) ?_
 refine U.done (nr Z) ?_
 refine WP.usreg Z ?_
 refine U.p Z Z (.inl Z) (S.move Z (L 1 Z Z)) ?_
 refine U.p Z Z (.inl Z) (S.lss Z (L 0 Z Z) K) ?_
 refine U.p Z Z (.inl Z) (S.move Z (L 0 Z Z)) ?_
 refine U.joinX 9 (fun e H => ∃ (u8 u9 u10 u11 u12 : Value), H = V.H ∧ e = [(12, .bool ((decide (p0 < 0)) || (decide ((p1.funcs.length : Int) ≤ p0)))), (11, u8), (10, u9), (9, u10), (8, u11), (7, u12)]) ?_ ?_
 ·rintro _ _ ⟨u8, u9, u10, u11, u12, rfl, rfl⟩
  refine U.p Z Z (.inl Z) (S.move Z (L 0 Z Z)) ?_
  obtain ⟨y16, hy17, h18⟩ := bindS h
  refine U.joinX 18 (fun e H => ∃ (u19 u20 u21 u22 u23 u24 u25 : Value), H = V.H ∧ e = [(21, .bool y16), (20, u19), (19, u20), (18, u21), (17, u22), (16, u23), (15, u24), (14, u25)]) ?_ ?_
  ·rintro _ _ ⟨u19, u20, u21, u22, u23, u24, u25, rfl, rfl⟩
   refine U.p Z Z (.inl Z) (S.assign Z (L 0 Z Z)) ?_
   refine U.done (nr Z) ?_
   refine WP.ret ?_
   refine fin.slot (.inr Z) Z (L 0 Z Z) ⟨V, Z, (.refl _), ?_⟩
   have e29 := Option.some.inj h18
   subst e29
   exact ⟨rfl, ow⟩
  ·intro kk
   refine bcase (b := (decide (p0 < 0)) || (decide ((p1.funcs.length : Int) ≤ p0))) (fun g30 => ?_) (fun g30 => ?_)
   ·have h31 := ifT g30 hy17
    refine U.x Z Z Z Z ((L 0 Z Z).trans (cB g30)) (by decide) ?_
    refine U.x Z Z Z Z ((L 1 Z Z).trans (cB g30)) (by decide) ?_
    refine U.x Z Z Z Z ((L 2 Z Z).trans (cB g30)) (by decide) ?_
    refine U.x Z Z Z Z ((L 3 Z Z).trans (cB g30)) (by decide) ?_
    refine U.x Z Z Z Z ((L 4 Z Z).trans (cB g30)) (by decide) ?_
    refine U.x Z Z Z Z ((L 5 Z Z).trans (cB g30)) (by decide) ?_
    refine U.x Z Z Z Z ((L 6 Z Z).trans (cB g30)) (by decide) ?_
    refine U.p Z Z (.inl Z) (S.pickT Z ((L 7 Z Z).trans (cB g30)) K) ?_
    have e32 := Option.some.inj h31
    subst e32
    exact kk [(21, .bool true), (20, .tuple #[]), (19, .tuple #[]), (18, .tuple #[]), (17, .tuple #[]), (16, .tuple #[]), (15, .tuple #[]), (14, .tuple #[])] _ ⟨.tuple #[], .tuple #[], .tuple #[], .tuple #[], .tuple #[], .tuple #[], .tuple #[], Z, Z⟩
   ·have h33 := ifF g30 hy17
    refine U.p (v := .pointer (some ⟨b1, 0, none⟩)) Z Z (.inr ⟨_, _, _, Z, Z, ((L 0 Z Z).trans (cB g30))⟩) (S.fieldAddr Z (L 12 Z Z) Tryd.underlying34 Z ti32 Z Z) ?_
    refine U.k Z Z (.inr ⟨_, _, _, Z, Z, ((L 1 Z Z).trans (cB g30))⟩) (S.load Z (L 0 Z Z) Tryd.underlying32 Z ((ow.own (k := 0) Z).cell Z)) nd ?_
    refine U.p Z Z (.inr ⟨_, _, _, Z, Z, ((L 2 Z Z).trans (cB g30))⟩) (S.move Z (L 13 Z Z)) ?_
    obtain ⟨x34, hx35, h36⟩ := bindS h33
    obtain ⟨b37, o38, c39, cs40, hv41, hf42, hr43, hc44⟩ := f5.at hx35
    obtain ⟨v45, rfl, f46⟩ := hr43
    refine U.p Z Z (.inr ⟨_, _, _, Z, Z, ((L 3 Z Z).trans (cB g30))⟩) (S.index Z ((L 1 Z Z).trans hv41) (L 0 Z Z) Tryd.underlying32 ti24 (ix_ge hx35) (ix_lt hx35)) ?_
    refine U.p (v := .pointer (some ⟨b37, o38 + Int.toNat p0 * 4 + 1, none⟩)) Z Z (.inr ⟨_, _, _, Z, Z, ((L 4 Z Z).trans (cB g30))⟩) (S.fieldAddr Z (L 0 Z Z) Tryd.underlying24 Z ti3 Z Z) ?_
    refine U.k Z Z (.inr ⟨_, _, _, Z, Z, ((L 5 Z Z).trans (cB g30))⟩) (S.load Z (L 0 Z Z) Tryd.underlying3 Z (hc44 1 _ Z)) nd ?_
    refine U.p Z Z (.inr ⟨_, _, _, Z, Z, ((L 6 Z Z).trans (cB g30))⟩) (S.neqI Z (L 0 Z Z) K) ?_
    refine U.p Z Z (.inl Z) (S.pickF Z ((L 7 Z Z).trans (cB g30)) (L 0 Z Z)) ?_
    have e47 := Option.some.inj h36
    subst e47
    exact kk [(21, .bool (decide (x34.params ≠ 0))), (20, .bool (decide (x34.params ≠ 0))), (19, .int .i64 x34.params), (18, .pointer (some ⟨b37, o38 + Int.toNat p0 * 4 + 1, none⟩)), (17, .pointer (some ⟨b37, o38 + Int.toNat p0 * 4, none⟩)), (16, .int .i64 p0), (15, v4), (14, .pointer (some ⟨b1, 0, none⟩))] _ ⟨.bool (decide (x34.params ≠ 0)), .int .i64 x34.params, .pointer (some ⟨b37, o38 + Int.toNat p0 * 4 + 1, none⟩), .pointer (some ⟨b37, o38 + Int.toNat p0 * 4, none⟩), .int .i64 p0, v4, .pointer (some ⟨b1, 0, none⟩), Z, Z⟩
 ·intro kk
  refine bcase (b := decide (p0 < 0)) (fun g48 => ?_) (fun g48 => ?_)
  ·skip
   refine U.x Z Z Z Z ((L 0 Z Z).trans (cB g48)) (by decide) ?_
   refine U.x Z Z Z Z ((L 1 Z Z).trans (cB g48)) (by decide) ?_
   refine U.x Z Z Z Z ((L 2 Z Z).trans (cB g48)) (by decide) ?_
   refine U.x Z Z Z Z ((L 3 Z Z).trans (cB g48)) (by decide) ?_
   refine U.x Z Z Z Z ((L 4 Z Z).trans (cB g48)) (by decide) ?_
   refine U.p Z Z (.inl Z) (S.pickT Z ((L 5 Z Z).trans (cB g48)) K) ?_
   exact kk [(12, .bool true), (11, .tuple #[]), (10, .tuple #[]), (9, .tuple #[]), (8, .tuple #[]), (7, .tuple #[])] _ ⟨.tuple #[], .tuple #[], .tuple #[], .tuple #[], .tuple #[], Z, (by rw [g48, Bool.true_or])⟩
  ·skip
   refine U.p Z Z (.inr ⟨_, _, _, Z, Z, ((L 0 Z Z).trans (cB g48))⟩) (S.move Z (L 4 Z Z)) ?_
   refine U.p (v := .pointer (some ⟨b1, 0, none⟩)) Z Z (.inr ⟨_, _, _, Z, Z, ((L 1 Z Z).trans (cB g48))⟩) (S.fieldAddr Z (L 6 Z Z) Tryd.underlying34 Z ti32 Z Z) ?_
   refine U.k Z Z (.inr ⟨_, _, _, Z, Z, ((L 2 Z Z).trans (cB g48))⟩) (S.load Z (L 0 Z Z) Tryd.underlying32 Z ((ow.own (k := 0) Z).cell Z)) nd ?_
   refine U.p Z Z (.inr ⟨_, _, _, Z, Z, ((L 3 Z Z).trans (cB g48))⟩) (f5.1.len Z (L 0 Z Z) Tryd.underlying32) ?_
   refine U.p Z Z (.inr ⟨_, _, _, Z, Z, ((L 4 Z Z).trans (cB g48))⟩) (S.geq Z (L 3 Z Z) (L 0 Z Z)) ?_
   refine U.p Z Z (.inl Z) (S.pickF Z ((L 5 Z Z).trans (cB g48)) (L 0 Z Z)) ?_
   exact kk [(12, .bool (decide ((p1.funcs.length : Int) ≤ p0))), (11, .bool (decide ((p1.funcs.length : Int) ≤ p0))), (10, .int .i64 (p1.funcs.length : Int)), (9, v4), (8, .pointer (some ⟨b1, 0, none⟩)), (7, .int .i64 p0)] _ ⟨.bool (decide ((p1.funcs.length : Int) ≤ p0)), .int .i64 (p1.funcs.length : Int), v4, .pointer (some ⟨b1, 0, none⟩), .int .i64 p0, Z, (by rw [g48, Bool.false_or])⟩
theorem wk_slices_IndexFunc_3 (V : Vw) (Rs : List At) (gl : Glb V) (p0 : List Int) (p1_10 : TModule) (v1 : Value) (b3 : Nat) (z4 : Nat) (v6 : Value) (v8 : Value) (f2 : Fz (RT.int .i64) V v1 p0) (f7 : Fz RT_TFunc V v6 p1_10.funcs) (f9 : Fz (RT.int .i64) V v8 p1_10.threads) (ow : Ow V (.pt b3 (.cells z4 [v6, v8]) :: Rs)) (r : Int) (h : slices_IndexFunc_3 p0 p1_10 = some r) : ∃ v V', Cl Tryd.prog NG 28 #[v1, .func (.func 17) #[] #[.pointer (some ⟨b3, 0, none⟩)]] V.H v V'.H ∧ V.le V' ∧ (v = .int .i64 r ∧ Ow V' (.pt b3 (.cells z4 [v6, v8]) :: Rs)) := by
 refine Ct.of gl.lo Tryd.func28 Z (nr Z) ?_
 unfold slices_IndexFunc_3 at h
 refine WP.usreg Z ?_
 refine U.p Z Z (.inl Z) (S.assign Z K) ?_
 refine U.done (nr Z) ?_
 refine WP.seq ?_
 refine WP.usreg Z ?_
 refine U.p Z Z (.inl Z) (S.move Z (L 1 Z Z)) ?_
 refine U.p Z Z (.inl Z) (f2.1.len Z (L 0 Z Z) Tryd.underlying28) ?_
 refine U.p Z Z (.inl Z) (S.move Z K) ?_
 refine U.done (nr Z) ?_
 refine WP.blk ?_
 unfold slices_IndexFunc_3_l1 at h
 obtain ⟨n12, hn11⟩ := loopO_some.1 h
 refine WP.loopI2 (fun n l V' => ∃ (x10 : Int), l = [(0, v1), (1, .func (.func 17) #[] #[.pointer (some ⟨b3, 0, none⟩)]), (7, .int .i64 (p0.length : Int)), (8, .int .i64 x10)] ∧ V.le V' ∧ Ow V' (.pt b3 (.cells z4 [v6, v8]) :: Rs) ∧ itO (fun s => slices_IndexFunc_3_l1b p0 p1_10 s) n x10 = some r) n12 _ ⟨0, Z, .refl _, ow, hn11⟩ (allCons (L 4 Z Z) (allCons (L 5 Z Z) (allCons (L 1 Z Z) (allCons (L 0 Z Z) allNil)))) ?_
 rintro _ _ V13 ⟨x10, rfl, le14, ow15, h19⟩
 obtain ⟨m16, q17, rfl, h20, e18⟩ := itS h19
 replace h20 : slices_IndexFunc_3_l1b p0 p1_10 x10 = some q17 := h20
 unfold slices_IndexFunc_3_l1b at h20
 refine WP.usreg Z ?_
 refine U.p Z Z (.inl Z) (S.lss Z (L 3 Z Z) (L 2 Z Z)) ?_
 refine U.done (nr Z) ?_
 refine WP.seq ?_
 refine WP.cond _ (L 0 Z Z) Z (fun c21 => ?_) (fun c21 => ?_)
 ·have h22 := ifT c21 h20
  refine WP.skip ?_
  refine sqN ?_
  refine WP.seq ?_
  refine WP.blk ?_
  refine WP.usreg Z ?_
  refine U.p Z Z (.inl Z) (S.move Z (L 4 Z Z)) ?_
  refine U.p Z Z (.inl Z) (S.assign Z (L 0 Z Z)) ?_
  refine U.done (nr Z) ?_
  refine WP.usreg Z ?_
  refine U.p Z Z (.inl Z) (S.move Z (L 4 Z Z)) ?_
  refine U.p Z Z (.inl Z) (S.move Z (L 4 Z Z)) ?_
  refine U.p Z Z (.inl Z) (S.move Z (L 2 Z Z)) ?_
  obtain ⟨x23, hx24, h25⟩ := bindS h22
  obtain ⟨b26, o27, c28, cs29, hv30, hf31, hr32, hc33⟩ := f2.at hx24
  obtain rfl : cs29 = [.int .i64 x23] := hr32
  refine U.p Z Z (.inl Z) (S.index Z ((L 1 Z Z).trans hv30) (L 0 Z Z) Tryd.underlying28 ti3 (ix_ge hx24) (ix_lt hx24)) ?_
  refine U.k Z Z (.inl Z) (S.load Z (L 0 Z Z) Tryd.underlying3 Z (le14.cell hf31 (hc33 0 _ Z))) nd ?_
  have f34 := f7.up le14
  have f35 := f9.up le14
  obtain ⟨x36, hx37, h38⟩ := bindS h25
  refine O.callv (V := V13) Z Z (.inl Z) Z (L 4 Z Z) en17 (aC (L 0 Z Z) aN) (wk_ir_Whole_c1 V13 _ (gl.up le14) x23 p1_10 b3 z4 v6 v8 f34 f35 ow15 _ hx37) (fun _ _ _ _ => nd) (fun v39 V40 le41 hp42 => ?_)
  obtain ⟨rfl, ow43⟩ := hp42
  refine U.done (nr Z) ?_
  refine WP.cond _ (L 0 Z Z) Z (fun c44 => ?_) (fun c44 => ?_)
  ·have h45 := ifT c44 h38
   refine WP.usreg Z ?_
   refine U.p Z Z (.inl Z) (S.move Z (L 6 Z Z)) ?_
   refine U.p Z Z (.inl Z) (S.assign Z (L 0 Z Z)) ?_
   refine U.done (nr Z) ?_
   refine WP.ret ?_
   refine blkR (sqR (sqR (blkR (sqR ?_))))
   have h46 := exitS h45 e18
   refine fin.slot (.inr Z) Z (L 0 Z Z) ⟨V40, Z, (le14.trans le41), ?_⟩
   have e47 := Option.some.inj h46
   subst e47
   exact ⟨rfl, ow43⟩
  ·have h48 := ifF c44 h38
   refine WP.skip ?_
   refine blkN (sqN ?_)
   refine WP.ureg Z ?_
   refine U.p Z Z (.inl Z) (S.add Z (L 12 Z Z) K) ?_
   refine U.p Z Z (.inl Z) (S.move Z (L 0 Z Z)) ?_
   refine U.done (nr Z) ?_
   refine sqN ?_
   exact ⟨_, V40, Z, ⟨m16, Nat.lt_succ_self _, w64 (x10 + 1), Z, (le14.trans le41), ow43, backS h48 e18⟩, (allCons (L 11 Z Z) (allCons (L 12 Z Z) (allCons (L 13 Z Z) (allCons (L 0 Z Z) allNil))))⟩
 ·have h49 := ifF c21 h20
  refine WP.exit ?_
  refine sqE (sqE (blkE (sqN ?_)))
  have h50 := exitS h49 e18
  refine WP.usreg Z ?_
  refine U.p Z Z (.inl Z) (S.assign Z K) ?_
  refine U.done (nr Z) ?_
  refine WP.ret ?_
  refine fin.slot (.inr Z) Z (L 0 Z Z) ⟨V13, Z, le14, ?_⟩
  have e51 := Option.some.inj h50
  subst e51
  exact ⟨rfl, ow15⟩
theorem wk_slices_ContainsFunc_3 (V : Vw) (Rs : List At) (gl : Glb V) (p0 : List Int) (p1_10 : TModule) (v1 : Value) (b3 : Nat) (z4 : Nat) (v6 : Value) (v8 : Value) (f2 : Fz (RT.int .i64) V v1 p0) (f7 : Fz RT_TFunc V v6 p1_10.funcs) (f9 : Fz (RT.int .i64) V v8 p1_10.threads) (ow : Ow V (.pt b3 (.cells z4 [v6, v8]) :: Rs)) (r : Bool) (h : slices_ContainsFunc_3 p0 p1_10 = some r) : ∃ v V', Cl Tryd.prog NG 16 #[v1, .func (.func 17) #[] #[.pointer (some ⟨b3, 0, none⟩)]] V.H v V'.H ∧ V.le V' ∧ (v = .bool r ∧ Ow V' (.pt b3 (.cells z4 [v6, v8]) :: Rs)) := by
 refine Ct.of gl.lo Tryd.func16 Z (nr Z) ?_
 unfold slices_ContainsFunc_3 at h
 refine WP.usreg Z ?_
 refine U.p Z Z (.inl Z) (S.assign Z K) ?_
 refine U.done (nr Z) ?_
 refine WP.usreg Z ?_
 refine U.p Z Z (.inl Z) (S.move Z (L 1 Z Z)) ?_
 refine U.p Z Z (.inl Z) (S.move Z (L 3 Z Z)) ?_
 obtain ⟨x10, hx11, h12⟩ := bindS h
 refine O.call (V := V) Z Z (.inl Z) Z en28 (aC (L 1 Z Z) (aC (L 0 Z Z) aN)) (wk_slices_IndexFunc_3 V _ gl p0 p1_10 v1 b3 z4 v6 v8 f2 f7 f9 ow _ hx11) (fun _ _ _ _ => nd) (fun v13 V14 le15 hp16 => ?_)
 obtain ⟨rfl, ow17⟩ := hp16
 refine U.p Z Z (.inl Z) (S.geq Z (L 0 Z Z) K) ?_
 refine U.p Z Z (.inl Z) (S.assign Z (L 0 Z Z)) ?_
 refine U.done (nr Z) ?_
 refine WP.ret ?_
 refine fin.slot (.inr Z) Z (L 0 Z Z) ⟨V14, Z, le15, ?_⟩
 have e18 := Option.some.inj h12
 subst e18
 exact ⟨rfl, ow17⟩
theorem wk_ir_Whole (V : Vw) (Rs : List At) (gl : Glb V) (p0 : TModule) (v1 : Value) (v3 : Value) (f2 : Fz RT_TFunc V v1 p0.funcs) (f4 : Fz (RT.int .i64) V v3 p0.threads) (ow : Ow V (Rs)) (r : Bool) (h : ir_Whole p0 = some r) : ∃ v V', Cl Tryd.prog NG 10 #[.agg #[v1, v3]] V.H v V'.H ∧ V.le V' ∧ (v = .bool r ∧ Ow V' (Rs)) := by
 refine Ct.of gl.lo Tryd.func10 Z (nr Z) ?_
 unfold ir_Whole at h
 refine WP.usreg Z ?_
 refine O.box ow Z Z (.inl Z) Z (L 0 Z Z) (by simp [topV]) Z nd (fun b5 V6 le7 ow8 => ?_)
 refine U.p Z Z (.inl Z) (S.assign Z K) ?_
 refine U.done (nr Z) ?_
 refine WP.seq ?_
 refine WP.usreg Z ?_
 refine U.p (v := .pointer (some ⟨b5, 0, none⟩)) Z Z (.inl Z) (S.fieldAddr Z (L 1 Z Z) Tryd.underlying34 Z ti32 Z Z) ?_
 refine U.k Z Z (.inl Z) (S.load Z (L 0 Z Z) Tryd.underlying32 Z ((ow8.own (k := 0) Z).cell Z)) nd ?_
 refine U.p Z Z (.inl Z) (f2.1.len Z (L 0 Z Z) Tryd.underlying32) ?_
 refine U.p Z Z (.inl Z) (S.move Z K) ?_
 refine U.done (nr Z) ?_
 refine WP.blk ?_
 unfold ir_Whole_l1 at h
 obtain ⟨n12, hn11⟩ := loopO_some.1 h
 refine WP.loopI2 (fun n l V' => ∃ (x10 : Int), l = [(1, .pointer (some ⟨b5, 0, none⟩)), (8, v1), (9, .int .i64 (p0.funcs.length : Int)), (10, .int .i64 x10)] ∧ V6.le V' ∧ Ow V' (.pt b5 (.cells 0 [v1, v3]) :: Rs) ∧ itO (fun s => ir_Whole_l1b p0 s) n x10 = some r) n12 _ ⟨0, Z, .refl _, ow8, hn11⟩ (allCons (L 5 Z Z) (allCons (L 2 Z Z) (allCons (L 1 Z Z) (allCons (L 0 Z Z) allNil)))) ?_
 rintro _ _ V13 ⟨x10, rfl, le14, ow15, h19⟩
 obtain ⟨m16, q17, rfl, h20, e18⟩ := itS h19
 replace h20 : ir_Whole_l1b p0 x10 = some q17 := h20
 unfold ir_Whole_l1b at h20
 refine WP.usreg Z ?_
 refine U.p Z Z (.inl Z) (S.lss Z (L 3 Z Z) (L 2 Z Z)) ?_
 refine U.done (nr Z) ?_
 refine WP.seq ?_
 refine WP.cond _ (L 0 Z Z) Z (fun c21 => ?_) (fun c21 => ?_)
 ·have h22 := ifT c21 h20
  refine WP.skip ?_
  refine sqN ?_
  refine WP.seq ?_
  refine WP.blk ?_
  refine WP.usreg Z ?_
  obtain ⟨x23, hx24, h25⟩ := bindS h22
  obtain ⟨b26, o27, c28, cs29, hv30, hf31, hr32, hc33⟩ := f2.at hx24
  obtain ⟨v34, rfl, f35⟩ := hr32
  refine U.p Z Z (.inl Z) (S.index Z ((L 2 Z Z).trans hv30) (L 4 Z Z) Tryd.underlying32 ti24 (ix_ge hx24) (ix_lt hx24)) ?_
  refine U.k Z Z (.inl Z) (S.loadN (cs := [.string x23.name, .int .i64 x23.params, .int .i64 x23.regs, v34]) Z (L 0 Z Z) Tryd.underlying24 Z ti24 Z (fun j v hj => (le7.trans le14).cell hf31 (hc33 j v hj))) nd ?_
  refine O.alloc ow15 Z Z (.inl Z) Z ti24 Z Z nd (fun b36 V37 le38 ow39 => ?_)
  refine O.store (k := 0) (cs := [.string x23.name, .int .i64 x23.params, .int .i64 x23.regs, v34]) (c' := [.string x23.name, .int .i64 x23.params, .int .i64 x23.regs, v34]) ow39 Z Z Z (.inl Z) Z (L 0 Z Z) (L 1 Z Z) ti24 (by simp [topV]) Z Z (nr Z) (by have q0 := f35.one; simp only [List.all_cons, List.all_nil, q0]; rfl) Z nd (fun V41 le42 ow43 => ?_)
  refine U.done (nr Z) ?_
  refine WP.seq ?_
  refine WP.usreg Z ?_
  refine U.k Z Z (.inl Z) (S.loadB Z (L 0 Z Z) Tryd.underlying24 Z ti24 (ow43.own (k := 0) Z).get Z) nd ?_
  have f44 := f35.up (((le7.trans le14).trans le38).trans le42)
  obtain ⟨x45, hx46, h47⟩ := bindS h25
  refine O.call (V := V41) Z Z (.inl Z) Z en11 (aC (L 0 Z Z) aN) (wk_ir_Good V41 _ (gl.up (((le7.trans le14).trans le38).trans le42)) x23 v34 f44 ow43 _ hx46) (fun _ _ _ _ => nd) (fun v48 V49 le50 hp51 => ?_)
  obtain ⟨rfl, ow52⟩ := hp51
  refine U.p Z Z (.inl Z) (S.not Z (L 0 Z Z)) ?_
  refine U.done (nr Z) ?_
  refine WP.cond _ (L 0 Z Z) Z (fun c53 => ?_) (fun c53 => ?_)
  ·have h54 := ifT c53 h47
   have k55 : x45 = false := nT c53
   refine WP.usreg Z ?_
   refine U.p Z Z (.inl Z) (S.assign Z K) ?_
   refine U.done (nr Z) ?_
   refine WP.ret ?_
   refine sqR (blkR (sqR (sqR (blkR (sqR ?_)))))
   have h56 := exitS h54 e18
   refine fin.slot (.inr Z) Z (L 0 Z Z) ⟨V49, Z, ((((le7.trans le14).trans le38).trans le42).trans le50), ?_⟩
   have ow57 := ow52.drop 0 Z
   have ow58 := ow57.drop 0 Z
   have e59 := Option.some.inj h56
   subst e59
   exact ⟨rfl, ow58⟩
  ·have h60 := ifF c53 h47
   have k61 : x45 = true := nF c53
   refine WP.skip ?_
   refine sqN ?_
   refine WP.usreg Z ?_
   refine U.p (v := .pointer (some ⟨b36, 3, none⟩)) Z Z (.inl Z) (S.fieldAddr Z (L 3 Z Z) Tryd.underlying24 Z ti22 Z Z) ?_
   refine U.k Z Z (.inl Z) (S.load Z (L 0 Z Z) Tryd.underlying22 Z ((ow52.own (k := 0) Z).cell Z)) nd ?_
   refine U.p Z Z (.inl Z) (f44.1.len Z (L 0 Z Z) Tryd.underlying22) ?_
   refine U.p Z Z (.inl Z) (S.move Z K) ?_
   refine U.done (nr Z) ?_
   refine WP.blk ?_
   have ow63 := ow52.drop 0 Z
   unfold ir_Whole_l2 at h60
   obtain ⟨n65, hn64⟩ := loopO_some.1 h60
   refine WP.loopI2 (fun n l V' => ∃ (x62 : Int), l = [(1, .pointer (some ⟨b5, 0, none⟩)), (8, v1), (9, .int .i64 (p0.funcs.length : Int)), (10, .int .i64 x10), (18, v34), (19, .int .i64 (x23.code.length : Int)), (20, .int .i64 x62)] ∧ V49.le V' ∧ Ow V' (.pt b5 (.cells 0 [v1, v3]) :: Rs) ∧ itO (fun s => ir_Whole_l2b p0 x10 x23 s) n x62 = some q17) n65 _ ⟨0, Z, .refl _, ow63, hn64⟩ (allCons (L 11 Z Z) (allCons (L 12 Z Z) (allCons (L 13 Z Z) (allCons (L 14 Z Z) (allCons (L 2 Z Z) (allCons (L 1 Z Z) (allCons (L 0 Z Z) allNil))))))) ?_
   rintro _ _ V66 ⟨x62, rfl, le67, ow68, h72⟩
   obtain ⟨m69, q70, rfl, h73, e71⟩ := itS h72
   replace h73 : ir_Whole_l2b p0 x10 x23 x62 = some q70 := h73
   unfold ir_Whole_l2b at h73
   refine WP.usreg Z ?_
   refine U.p Z Z (.inl Z) (S.lss Z (L 6 Z Z) (L 5 Z Z)) ?_
   refine U.done (nr Z) ?_
   refine WP.seq ?_
   refine WP.cond _ (L 0 Z Z) Z (fun c74 => ?_) (fun c74 => ?_)
   ·have h75 := ifT c74 h73
    refine WP.skip ?_
    refine sqN ?_
    refine WP.seq ?_
    refine WP.blk ?_
    refine WP.usreg Z ?_
    obtain ⟨x76, hx77, h78⟩ := bindS h75
    obtain ⟨b79, o80, c81, cs82, hv83, hf84, hr85, hc86⟩ := f44.at hx77
    obtain ⟨v87, rfl, f88⟩ := hr85
    refine U.p Z Z (.inl Z) (S.index Z ((L 5 Z Z).trans hv83) (L 7 Z Z) Tryd.underlying22 ti30 (ix_ge hx77) (ix_lt hx77)) ?_
    refine U.k Z Z (.inl Z) (S.loadN (cs := [.int .i64 x76.op, .int .i64 x76.d, .int .i64 x76.a, .int .i64 x76.b, .int .i64 x76.imm, v87, .int .i64 x76.what, .bool x76.volatile, .bool x76.final]) Z (L 0 Z Z) Tryd.underlying30 Z ti30 Z (fun j v hj => (le50.trans le67).cell hf84 (hc86 j v hj))) nd ?_
    refine O.alloc ow68 Z Z (.inl Z) Z ti30 Z Z nd (fun b89 V90 le91 ow92 => ?_)
    refine O.store (k := 0) (cs := [.int .i64 x76.op, .int .i64 x76.d, .int .i64 x76.a, .int .i64 x76.b, .int .i64 x76.imm, v87, .int .i64 x76.what, .bool x76.volatile, .bool x76.final]) (c' := [.int .i64 x76.op, .int .i64 x76.d, .int .i64 x76.a, .int .i64 x76.b, .int .i64 x76.imm, v87, .int .i64 x76.what, .bool x76.volatile, .bool x76.final]) ow92 Z Z Z (.inl Z) Z (L 0 Z Z) (L 1 Z Z) ti30 (by simp [topV]) Z Z (nr Z) (by have q0 := f88.one; simp only [List.all_cons, List.all_nil, q0]; rfl) Z nd (fun V94 le95 ow96 => ?_)
    refine U.done (nr Z) ?_
    refine WP.seqI (fun l V' => ∃ (x97 : Bool), l = [(1, .pointer (some ⟨b5, 0, none⟩)), (8, v1), (9, .int .i64 (p0.funcs.length : Int)), (10, .int .i64 x10), (18, v34), (19, .int .i64 (x23.code.length : Int)), (20, .int .i64 x62), (52, .bool x97)] ∧ V94.le V' ∧ Ow V' (.pt b5 (.cells 0 [v1, v3]) :: Rs) ∧ ir_Whole_k1 x62 x97 = some q70) ?_ ?_
    ·rintro _ V98 ⟨x97, rfl, le99, ow100, h101⟩
     unfold ir_Whole_k1 at h101
     refine WP.cond _ (L 7 Z Z) Z (fun c102 => ?_) (fun c102 => ?_)
     ·have h103 := ifT c102 h101
      refine WP.usreg Z ?_
      refine U.p Z Z (.inl Z) (S.assign Z K) ?_
      refine U.done (nr Z) ?_
      refine WP.ret ?_
      refine blkR (sqR (sqR (blkR (blkR (sqR (sqR (blkR (sqR ?_))))))))
      have h104 := exitS h103 e71
      have h105 := exitS h104 e18
      refine fin.slot (.inr Z) Z (L 0 Z Z) ⟨V98, Z, ((((((((le7.trans le14).trans le38).trans le42).trans le50).trans le67).trans le91).trans le95).trans le99), ?_⟩
      have ow106 := ow100.drop 0 Z
      have e107 := Option.some.inj h105
      subst e107
      exact ⟨rfl, ow106⟩
     ·have h108 := ifF c102 h101
      refine WP.skip ?_
      refine blkN (sqN ?_)
      refine WP.ureg Z ?_
      refine U.p Z Z (.inl Z) (S.add Z (L 6 Z Z) K) ?_
      refine U.p Z Z (.inl Z) (S.move Z (L 0 Z Z)) ?_
      refine U.done (nr Z) ?_
      refine sqN ?_
      exact ⟨_, V98, Z, ⟨m69, Nat.lt_succ_self _, w64 (x62 + 1), Z, (((le67.trans le91).trans le95).trans le99), ow100, backS h108 e71⟩, (allCons (L 2 Z Z) (allCons (L 3 Z Z) (allCons (L 4 Z Z) (allCons (L 5 Z Z) (allCons (L 6 Z Z) (allCons (L 7 Z Z) (allCons (L 0 Z Z) allNil)))))))⟩
    ·skip
     refine WP.udreg Z Z Z ?_
     refine U.p (v := .pointer (some ⟨b89, 0, none⟩)) Z Z (.inl Z) (S.fieldAddr Z (L 0 Z Z) Tryd.underlying30 Z ti3 Z Z) ?_
     refine U.k Z Z (.inl Z) (S.load Z (L 0 Z Z) Tryd.underlying3 Z ((ow96.own (k := 0) Z).cell Z)) (fun _ => (okH.nil (fun r h => by cases h; exact (ow96.own (k := 0) Z).lt))) ?_
     refine U.p Z Z (.inl Z) (S.eqlI Z (L 0 Z Z) K) ?_
     refine U.p Z Z (.inl Z) (S.move Z (L 0 Z Z)) ?_
     refine bcase (b := decide (x76.op = 14)) (fun g109 => ?_) (fun g109 => ?_)
     ·have h110 := ifT g109 h78
      refine U.p (v := .pointer (some ⟨b89, 4, none⟩)) Z Z (.inr ⟨_, _, _, Z, Z, ((L 0 Z Z).trans (cB g109))⟩) (S.fieldAddr Z (L 4 Z Z) Tryd.underlying30 Z ti3 Z Z) ?_
      refine U.k Z Z (.inr ⟨_, _, _, Z, Z, ((L 1 Z Z).trans (cB g109))⟩) (S.load Z (L 0 Z Z) Tryd.underlying3 Z ((ow96.own (k := 0) Z).cell Z)) (fun _ => (okH.cons trivial (okH.nil (fun r h => by cases h; exact (ow96.own (k := 0) Z).lt)))) ?_
      refine U.p Z Z (.inr ⟨_, _, _, Z, Z, ((L 2 Z Z).trans (cB g109))⟩) (S.lss Z (L 0 Z Z) K) ?_
      refine U.p Z Z (.inr ⟨_, _, _, Z, Z, ((L 3 Z Z).trans (cB g109))⟩) (S.move Z (L 0 Z Z)) ?_
      refine bcase (b := decide (x76.imm < 0)) (fun g111 => ?_) (fun g111 => ?_)
      ·have h112 := ifT g111 h110
       refine U.x Z Z Z Z ((L 0 Z Z).trans (cB g111)) (by decide) ?_
       refine U.x Z Z Z Z ((L 1 Z Z).trans (cB g111)) (by decide) ?_
       refine U.x Z Z Z Z ((L 2 Z Z).trans (cB g111)) (by decide) ?_
       refine U.x Z Z Z Z ((L 3 Z Z).trans (cB g111)) (by decide) ?_
       refine U.x Z Z Z Z ((L 4 Z Z).trans (cB g111)) (by decide) ?_
       refine U.x Z Z Z Z ((L 5 Z Z).trans (cB g111)) (by decide) ?_
       refine U.p Z Z (.inr ⟨_, _, _, Z, Z, ((L 10 Z Z).trans (cB g109))⟩) (S.pickT Z ((L 6 Z Z).trans (cB g111)) K) ?_
       refine U.p Z Z (.inr ⟨_, _, _, Z, Z, ((L 11 Z Z).trans (cB g109))⟩) (S.move Z (L 0 Z Z)) ?_
       refine U.x Z Z Z Z (L 0 Z Z) (by decide) ?_
       refine U.x Z Z Z Z (L 1 Z Z) (by decide) ?_
       refine U.x Z Z Z Z (L 2 Z Z) (by decide) ?_
       refine U.x Z Z Z Z (L 3 Z Z) (by decide) ?_
       refine U.x Z Z Z Z (L 4 Z Z) (by decide) ?_
       refine U.x Z Z Z Z (L 5 Z Z) (by decide) ?_
       refine U.x Z Z Z Z (L 6 Z Z) (by decide) ?_
       refine U.x Z Z Z Z (L 7 Z Z) (by decide) ?_
       refine U.x Z Z Z Z (L 8 Z Z) (by decide) ?_
       refine U.x Z Z Z Z (L 9 Z Z) (by decide) ?_
       refine U.x Z Z Z Z (L 10 Z Z) (by decide) ?_
       refine U.p Z Z (.inr ⟨_, _, _, Z, Z, ((L 23 Z Z).trans (cB g109))⟩) (S.pickT Z (L 11 Z Z) K) ?_
       refine U.p Z Z (.inl Z) (S.pickT Z ((L 24 Z Z).trans (cB g109)) (L 0 Z Z)) ?_
       refine U.done (nr Z) ?_
       refine sqN ?_
       have ow113 := ow96.drop 0 Z
       exact ⟨_, V94, Z, ⟨true, Z, (.refl _), ow113, h112⟩, (allCons (L 33 Z Z) (allCons (L 34 Z Z) (allCons (L 35 Z Z) (allCons (L 36 Z Z) (allCons (L 37 Z Z) (allCons (L 38 Z Z) (allCons (L 39 Z Z) (allCons (L 0 Z Z) allNil))))))))⟩
      ·have h114 := ifF g111 h110
       refine U.p (v := .pointer (some ⟨b89, 4, none⟩)) Z Z (.inr ⟨_, _, _, Z, Z, ((L 0 Z Z).trans (cB g111))⟩) (S.fieldAddr Z (L 8 Z Z) Tryd.underlying30 Z ti3 Z Z) ?_
       refine U.k Z Z (.inr ⟨_, _, _, Z, Z, ((L 1 Z Z).trans (cB g111))⟩) (S.load Z (L 0 Z Z) Tryd.underlying3 Z ((ow96.own (k := 0) Z).cell Z)) (fun _ => (okH.cons trivial (okH.cons trivial (okH.nil (fun r h => by cases h; exact (ow96.own (k := 0) Z).lt))))) ?_
       refine U.p (v := .pointer (some ⟨b5, 0, none⟩)) Z Z (.inr ⟨_, _, _, Z, Z, ((L 2 Z Z).trans (cB g111))⟩) (S.fieldAddr Z (L 14 Z Z) Tryd.underlying34 Z ti32 Z Z) ?_
       refine U.k Z Z (.inr ⟨_, _, _, Z, Z, ((L 3 Z Z).trans (cB g111))⟩) (S.load Z (L 0 Z Z) Tryd.underlying32 Z ((ow96.own (k := 1) Z).cell Z)) (fun _ => (okH.cons trivial (okH.cons trivial (okH.cons trivial (okH.nil (fun r h => by cases h; exact (ow96.own (k := 1) Z).lt)))))) ?_
       refine U.p Z Z (.inr ⟨_, _, _, Z, Z, ((L 4 Z Z).trans (cB g111))⟩) (f2.1.len Z (L 0 Z Z) Tryd.underlying32) ?_
       refine U.p Z Z (.inr ⟨_, _, _, Z, Z, ((L 5 Z Z).trans (cB g111))⟩) (S.geq Z (L 3 Z Z) (L 0 Z Z)) ?_
       refine U.p Z Z (.inr ⟨_, _, _, Z, Z, ((L 10 Z Z).trans (cB g109))⟩) (S.pickF Z ((L 6 Z Z).trans (cB g111)) (L 0 Z Z)) ?_
       refine U.p Z Z (.inr ⟨_, _, _, Z, Z, ((L 11 Z Z).trans (cB g109))⟩) (S.move Z (L 0 Z Z)) ?_
       refine bcase (b := decide ((p0.funcs.length : Int) ≤ x76.imm)) (fun g115 => ?_) (fun g115 => ?_)
       ·have h116 := ifT g115 h114
        refine U.x Z Z Z Z ((L 0 Z Z).trans (cB g115)) (by decide) ?_
        refine U.x Z Z Z Z ((L 1 Z Z).trans (cB g115)) (by decide) ?_
        refine U.x Z Z Z Z ((L 2 Z Z).trans (cB g115)) (by decide) ?_
        refine U.x Z Z Z Z ((L 3 Z Z).trans (cB g115)) (by decide) ?_
        refine U.x Z Z Z Z ((L 4 Z Z).trans (cB g115)) (by decide) ?_
        refine U.x Z Z Z Z ((L 5 Z Z).trans (cB g115)) (by decide) ?_
        refine U.x Z Z Z Z ((L 6 Z Z).trans (cB g115)) (by decide) ?_
        refine U.x Z Z Z Z ((L 7 Z Z).trans (cB g115)) (by decide) ?_
        refine U.x Z Z Z Z ((L 8 Z Z).trans (cB g115)) (by decide) ?_
        refine U.x Z Z Z Z ((L 9 Z Z).trans (cB g115)) (by decide) ?_
        refine U.x Z Z Z Z ((L 10 Z Z).trans (cB g115)) (by decide) ?_
        refine U.p Z Z (.inr ⟨_, _, _, Z, Z, ((L 23 Z Z).trans (cB g109))⟩) (S.pickT Z ((L 11 Z Z).trans (cB g115)) K) ?_
        refine U.p Z Z (.inl Z) (S.pickT Z ((L 24 Z Z).trans (cB g109)) (L 0 Z Z)) ?_
        refine U.done (nr Z) ?_
        refine sqN ?_
        have ow117 := ow96.drop 0 Z
        exact ⟨_, V94, Z, ⟨true, Z, (.refl _), ow117, h116⟩, (allCons (L 33 Z Z) (allCons (L 34 Z Z) (allCons (L 35 Z Z) (allCons (L 36 Z Z) (allCons (L 37 Z Z) (allCons (L 38 Z Z) (allCons (L 39 Z Z) (allCons (L 0 Z Z) allNil))))))))⟩
       ·have h118 := ifF g115 h114
        refine U.p (v := .pointer (some ⟨b5, 0, none⟩)) Z Z (.inr ⟨_, _, _, Z, Z, ((L 0 Z Z).trans (cB g115))⟩) (S.fieldAddr Z (L 20 Z Z) Tryd.underlying34 Z ti32 Z Z) ?_
        refine U.k Z Z (.inr ⟨_, _, _, Z, Z, ((L 1 Z Z).trans (cB g115))⟩) (S.load Z (L 0 Z Z) Tryd.underlying32 Z ((ow96.own (k := 1) Z).cell Z)) (fun _ => (okH.cons trivial (okH.cons trivial (okH.cons trivial (okH.cons trivial (okH.nil (fun r h => by cases h; exact (ow96.own (k := 1) Z).lt))))))) ?_
        refine U.p (v := .pointer (some ⟨b89, 4, none⟩)) Z Z (.inr ⟨_, _, _, Z, Z, ((L 2 Z Z).trans (cB g115))⟩) (S.fieldAddr Z (L 18 Z Z) Tryd.underlying30 Z ti3 Z Z) ?_
        refine U.k Z Z (.inr ⟨_, _, _, Z, Z, ((L 3 Z Z).trans (cB g115))⟩) (S.load Z (L 0 Z Z) Tryd.underlying3 Z ((ow96.own (k := 0) Z).cell Z)) (fun _ => (okH.cons trivial (okH.cons trivial (okH.cons trivial (okH.cons trivial (okH.cons trivial (okH.nil (fun r h => by cases h; exact (ow96.own (k := 0) Z).lt)))))))) ?_
        obtain ⟨x119, hx120, h121⟩ := bindS h118
        obtain ⟨b122, o123, c124, cs125, hv126, hf127, hr128, hc129⟩ := f2.at hx120
        obtain ⟨v130, rfl, f131⟩ := hr128
        refine U.p Z Z (.inr ⟨_, _, _, Z, Z, ((L 4 Z Z).trans (cB g115))⟩) (S.index Z ((L 2 Z Z).trans hv126) (L 0 Z Z) Tryd.underlying32 ti24 (ix_ge hx120) (ix_lt hx120)) ?_
        refine U.p (v := .pointer (some ⟨b122, o123 + Int.toNat x76.imm * 4 + 1, none⟩)) Z Z (.inr ⟨_, _, _, Z, Z, ((L 5 Z Z).trans (cB g115))⟩) (S.fieldAddr Z (L 0 Z Z) Tryd.underlying24 Z ti3 Z Z) ?_
        refine U.k Z Z (.inr ⟨_, _, _, Z, Z, ((L 6 Z Z).trans (cB g115))⟩) (S.load Z (L 0 Z Z) Tryd.underlying3 Z ((((((((le7.trans le14).trans le38).trans le42).trans le50).trans le67).trans le91).trans le95).cell hf127 (hc129 1 _ Z))) (fun _ => (okH.cons trivial (okH.cons trivial (okH.cons trivial (okH.cons trivial (okH.cons trivial (okH.cons trivial (okH.nil (fun r h => by cases h; exact (V94.wf _ ((((((((le7.trans le14).trans le38).trans le42).trans le50).trans le67).trans le91).trans le95).sub _ hf127))))))))))) ?_
        refine U.p (v := .pointer (some ⟨b89, 5, none⟩)) Z Z (.inr ⟨_, _, _, Z, Z, ((L 7 Z Z).trans (cB g115))⟩) (S.fieldAddr Z (L 23 Z Z) Tryd.underlying30 Z ti28 Z Z) ?_
        refine U.k Z Z (.inr ⟨_, _, _, Z, Z, ((L 8 Z Z).trans (cB g115))⟩) (S.load Z (L 0 Z Z) Tryd.underlying28 Z ((ow96.own (k := 0) Z).cell Z)) (fun _ => (okH.cons trivial (okH.cons trivial (okH.cons trivial (okH.cons trivial (okH.cons trivial (okH.cons trivial (okH.cons trivial (okH.nil (fun r h => by cases h; exact (ow96.own (k := 0) Z).lt)))))))))) ?_
        refine U.p Z Z (.inr ⟨_, _, _, Z, Z, ((L 9 Z Z).trans (cB g115))⟩) (f88.1.len Z (L 0 Z Z) Tryd.underlying28) ?_
        refine U.p Z Z (.inr ⟨_, _, _, Z, Z, ((L 10 Z Z).trans (cB g115))⟩) (S.neqI Z (L 3 Z Z) (L 0 Z Z)) ?_
        refine U.p Z Z (.inr ⟨_, _, _, Z, Z, ((L 23 Z Z).trans (cB g109))⟩) (S.pickF Z ((L 11 Z Z).trans (cB g115)) (L 0 Z Z)) ?_
        refine U.p Z Z (.inl Z) (S.pickT Z ((L 24 Z Z).trans (cB g109)) (L 0 Z Z)) ?_
        refine U.done (nr Z) ?_
        refine sqN ?_
        have ow132 := ow96.drop 0 Z
        exact ⟨_, V94, Z, ⟨decide (x119.params ≠ (x76.args.length : Int)), Z, (.refl _), ow132, h121⟩, (allCons (L 33 Z Z) (allCons (L 34 Z Z) (allCons (L 35 Z Z) (allCons (L 36 Z Z) (allCons (L 37 Z Z) (allCons (L 38 Z Z) (allCons (L 39 Z Z) (allCons (L 0 Z Z) allNil))))))))⟩
     ·have h133 := ifF g109 h78
      refine U.x Z Z Z Z ((L 0 Z Z).trans (cB g109)) (by decide) ?_
      refine U.x Z Z Z Z ((L 1 Z Z).trans (cB g109)) (by decide) ?_
      refine U.x Z Z Z Z ((L 2 Z Z).trans (cB g109)) (by decide) ?_
      refine U.x Z Z Z Z ((L 3 Z Z).trans (cB g109)) (by decide) ?_
      refine U.z Z Z Z Z (L 0 Z Z) ?_
      refine U.z Z Z Z Z (L 1 Z Z) ?_
      refine U.z Z Z Z Z (L 2 Z Z) ?_
      refine U.z Z Z Z Z (L 3 Z Z) ?_
      refine U.z Z Z Z Z (L 4 Z Z) ?_
      refine U.z Z Z Z Z (L 5 Z Z) ?_
      refine U.x Z Z Z Z ((L 10 Z Z).trans (cB g109)) (by decide) ?_
      refine U.x Z Z Z Z ((L 11 Z Z).trans (cB g109)) (by decide) ?_
      refine U.z Z Z Z Z (L 0 Z Z) ?_
      refine U.z Z Z Z Z (L 1 Z Z) ?_
      refine U.z Z Z Z Z (L 2 Z Z) ?_
      refine U.z Z Z Z Z (L 3 Z Z) ?_
      refine U.z Z Z Z Z (L 4 Z Z) ?_
      refine U.z Z Z Z Z (L 5 Z Z) ?_
      refine U.z Z Z Z Z (L 6 Z Z) ?_
      refine U.z Z Z Z Z (L 7 Z Z) ?_
      refine U.z Z Z Z Z (L 8 Z Z) ?_
      refine U.z Z Z Z Z (L 9 Z Z) ?_
      refine U.z Z Z Z Z (L 10 Z Z) ?_
      refine U.x Z Z Z Z ((L 23 Z Z).trans (cB g109)) (by decide) ?_
      refine U.p Z Z (.inl Z) (S.pickF Z ((L 24 Z Z).trans (cB g109)) K) ?_
      refine U.done (nr Z) ?_
      refine sqN ?_
      have ow134 := ow96.drop 0 Z
      exact ⟨_, V94, Z, ⟨false, Z, (.refl _), ow134, h133⟩, (allCons (L 33 Z Z) (allCons (L 34 Z Z) (allCons (L 35 Z Z) (allCons (L 36 Z Z) (allCons (L 37 Z Z) (allCons (L 38 Z Z) (allCons (L 39 Z Z) (allCons (L 0 Z Z) allNil))))))))⟩
   ·have h135 := ifF c74 h73
    refine WP.exit ?_
    refine sqE (sqE (blkE (blkN (sqN ?_))))
    have h136 := exitS h135 e71
    refine WP.ureg Z ?_
    refine U.p Z Z (.inl Z) (S.add Z (L 4 Z Z) K) ?_
    refine U.p Z Z (.inl Z) (S.move Z (L 0 Z Z)) ?_
    refine U.done (nr Z) ?_
    refine sqN ?_
    exact ⟨_, V66, Z, ⟨m16, Nat.lt_succ_self _, w64 (x10 + 1), Z, ((((le14.trans le38).trans le42).trans le50).trans le67), ow68, backS h136 e18⟩, (allCons (L 3 Z Z) (allCons (L 4 Z Z) (allCons (L 5 Z Z) (allCons (L 0 Z Z) allNil))))⟩
 ·have h137 := ifF c21 h20
  refine WP.exit ?_
  refine sqE (sqE (blkE (sqN ?_)))
  have h138 := exitS h137 e18
  refine WP.usreg Z ?_
  refine U.p (v := .pointer (some ⟨b5, 1, none⟩)) Z Z (.inl Z) (S.fieldAddr Z (L 1 Z Z) Tryd.underlying34 Z ti28 Z Z) ?_
  refine U.k Z Z (.inl Z) (S.load Z (L 0 Z Z) Tryd.underlying28 Z ((ow15.own (k := 0) Z).cell Z)) nd ?_
  refine U.p (v := .func (.func 17) #[] #[.pointer (some ⟨b5, 0, none⟩)]) Z Z (.inl Z) (S.makeFunc' Z (amN) (am1 (L 3 Z Z))) ?_
  have f139 := f4.up (le7.trans le14)
  have f140 := f2.up (le7.trans le14)
  obtain ⟨x141, hx142, h143⟩ := bindS h138
  refine O.call (V := V13) Z Z (.inl Z) Z en16 (aC (L 1 Z Z) (aC (L 0 Z Z) aN)) (wk_slices_ContainsFunc_3 V13 _ (gl.up (le7.trans le14)) p0.threads p0 v3 b5 0 v1 v3 f139 f140 f139 ow15 _ hx142) (fun _ _ _ _ => nd) (fun v144 V145 le146 hp147 => ?_)
  obtain ⟨rfl, ow148⟩ := hp147
  refine U.p Z Z (.inl Z) (S.not Z (L 0 Z Z)) ?_
  refine U.p Z Z (.inl Z) (S.assign Z (L 0 Z Z)) ?_
  refine U.done (nr Z) ?_
  refine WP.ret ?_
  refine fin.slot (.inr Z) Z (L 0 Z Z) ⟨V145, Z, ((le7.trans le14).trans le146), ?_⟩
  have ow149 := ow148.drop 0 Z
  have e150 := Option.some.inj h143
  subst e150
  exact ⟨rfl, ow149⟩
theorem wk_law08_IrParts (V : Vw) (Rs : List At) (gl : Glb V) (p0 : TModule) (p1 : TFunc) (v1 : Value) (v3 : Value) (v5 : Value) (f2 : Fz RT_TFunc V v1 p0.funcs) (f4 : Fz (RT.int .i64) V v3 p0.threads) (f6 : Fz RT_TIns V v5 p1.code) (ow : Ow V (Rs)) (r : Bool) (h : law08_IrParts p0 p1 = some r) : ∃ v V', Cl Tryd.prog NG 4 #[.agg #[v1, v3], .agg #[.string p1.name, .int .i64 p1.params, .int .i64 p1.regs, v5]] V.H v V'.H ∧ V.le V' ∧ (v = .bool r ∧ Ow V' (Rs)) := by
 refine Ct.of gl.lo Tryd.func4 Z (nr Z) ?_
 unfold law08_IrParts at h
 refine WP.usreg Z ?_
 refine O.box ow Z Z (.inl Z) Z (L 0 Z Z) (by simp [topV]) Z nd (fun b7 V8 le9 ow10 => ?_)
 refine O.box ow10 Z Z (.inl Z) Z (L 2 Z Z) (by simp [topV]) Z nd (fun b12 V13 le14 ow15 => ?_)
 refine U.p Z Z (.inl Z) (S.assign Z K) ?_
 refine U.done (nr Z) ?_
 refine WP.seq ?_
 refine WP.usreg Z ?_
 obtain ⟨x17, hx18, h19⟩ := bindS h
 refine O.call (V := V13) Z Z (.inl Z) Z en5 aN (wk_law08_alive V13 _ (gl.up (le9.trans le14)) ow15 _ hx18) (fun _ _ _ _ => nd) (fun v20 V21 le22 hp23 => ?_)
 obtain ⟨rfl, ow24⟩ := hp23
 refine U.p Z Z (.inl Z) (S.not Z (L 0 Z Z)) ?_
 refine U.done (nr Z) ?_
 refine WP.cond _ (L 0 Z Z) Z (fun c25 => ?_) (fun c25 => ?_)
 ·have h26 := ifT c25 h19
  have k27 : x17 = false := nT c25
  refine WP.usreg Z ?_
  refine U.p Z Z (.inl Z) (S.assign Z K) ?_
  refine U.done (nr Z) ?_
  refine WP.ret ?_
  refine sqR ?_
  refine fin.slot (.inr Z) Z (L 0 Z Z) ⟨V21, Z, ((le9.trans le14).trans le22), ?_⟩
  have ow28 := ow24.drop 0 Z
  have ow29 := ow28.drop 0 Z
  have e30 := Option.some.inj h26
  subst e30
  exact ⟨rfl, ow29⟩
 ·have h31 := ifF c25 h19
  have k32 : x17 = true := nF c25
  refine WP.skip ?_
  refine sqN ?_
  refine WP.seq ?_
  refine WP.usreg Z ?_
  refine U.k Z Z (.inl Z) (S.loadB Z (L 3 Z Z) Tryd.underlying24 Z ti24 (ow24.own (k := 0) Z).get Z) nd ?_
  have f33 := f6.up ((le9.trans le14).trans le22)
  refine O.lit (R := RT_TFunc) ow24 Z Z (.inl Z) Z Tryd.underlying32 ti24 Z Z Z (nr Z) Z (aC (L 0 Z Z) aN) (.cons _ _ p1 _ (by simp [topV]) ⟨_, Z, f33⟩ .nil) (fun _ => nd) (fun v34 V35 le36 ow37 => ?_)
  refine U.p (v := .pointer (some ⟨b7, 0, none⟩)) Z Z (.inl Z) (S.fieldAddr Z (L 6 Z Z) Tryd.underlying34 Z ti32 Z Z) ?_
  refine U.k Z Z (.inl Z) (S.load Z (L 0 Z Z) Tryd.underlying32 Z ((ow37.own (k := 2) Z).cell Z)) nd ?_
  have f39 := f2.up (((le9.trans le14).trans le22).trans le36)
  obtain ⟨xs40, hx41, h42⟩ := bindS h31
  refine O.appendK (L := 2513169434916) (k := 0) ow37 Z Z Z (.inl Z) Z (L 2 Z Z) (L 0 Z Z) Tryd.underlying32 ti24 Z Z (by decide) (f39.src Tryd.underlying32) hx41 (fun _ _ => nd) (fun v43 V44 le45 ow46 => ?_)
  refine U.p Z Z (.inl Z) (ow46.oslen (k := 0) Z Z (L 0 Z Z) Tryd.underlying32) ?_
  refine U.p Z Z (.inl Z) (S.move Z K) ?_
  refine U.done (nr Z) ?_
  refine WP.blk ?_
  have ow49 := ow46.pick 0 Z
  have ow50 := ow49.pick 1 Z
  have ow51 := ow50.pick 2 Z
  unfold law08_IrParts_l1 at h42
  obtain ⟨n53, hn52⟩ := loopO_some.1 h42
  refine WP.loopI2 (fun n l V' => ∃ (x48 : Int), l = [(2, .pointer (some ⟨b7, 0, none⟩)), (3, .pointer (some ⟨b12, 0, none⟩)), (16, v43), (17, .int .i64 (xs40.length : Int)), (18, .int .i64 x48)] ∧ V44.le V' ∧ Ow V' (.pt b7 (.cells 0 [v1, v3]) :: .pt b12 (.cells 0 [.string p1.name, .int .i64 p1.params, .int .i64 p1.regs, v5]) :: .os RT_TFunc v43 xs40 :: Rs) ∧ itO (fun s => law08_IrParts_l1b p0 p1 xs40 s) n x48 = some r) n53 _ ⟨0, Z, .refl _, ow51, hn52⟩ (allCons (L 11 Z Z) (allCons (L 10 Z Z) (allCons (L 2 Z Z) (allCons (L 1 Z Z) (allCons (L 0 Z Z) allNil))))) ?_
  rintro _ _ V54 ⟨x48, rfl, le55, ow56, h60⟩
  obtain ⟨m57, q58, rfl, h61, e59⟩ := itS h60
  replace h61 : law08_IrParts_l1b p0 p1 xs40 x48 = some q58 := h61
  unfold law08_IrParts_l1b at h61
  refine WP.usreg Z ?_
  refine U.p Z Z (.inl Z) (S.lss Z (L 4 Z Z) (L 3 Z Z)) ?_
  refine U.done (nr Z) ?_
  refine WP.seq ?_
  refine WP.cond _ (L 0 Z Z) Z (fun c62 => ?_) (fun c62 => ?_)
  ·have h63 := ifT c62 h61
   refine WP.skip ?_
   refine sqN ?_
   refine WP.seq ?_
   refine WP.blk ?_
   refine WP.usreg Z ?_
   obtain ⟨x64, hx65, h66⟩ := bindS h63
   obtain ⟨b67, o68, n69, c70, hv71⟩ := ow56.ospt (k := 2) Z hx65
   obtain ⟨_, hv72, _⟩ := ow56.osel (k := 2) Z hv71 hx65
   refine U.p Z Z (.inl Z) (S.index Z ((L 3 Z Z).trans hv72) (L 5 Z Z) Tryd.underlying32 ti24 (ix_ge hx65) (ix_lt hx65)) ?_
   obtain ⟨cs73, hv74, hlt75, hr76, hc77⟩ := ow56.osel (k := 2) Z hv71 hx65
   obtain ⟨v78, rfl, f79⟩ := hr76
   refine U.k Z Z (.inl Z) (S.loadN (cs := [.string x64.name, .int .i64 x64.params, .int .i64 x64.regs, v78]) Z (L 0 Z Z) Tryd.underlying24 Z ti24 Z hc77) nd ?_
   refine O.alloc ow56 Z Z (.inl Z) Z ti24 Z Z nd (fun b80 V81 le82 ow83 => ?_)
   refine O.store (k := 0) (cs := [.string x64.name, .int .i64 x64.params, .int .i64 x64.regs, v78]) (c' := [.string x64.name, .int .i64 x64.params, .int .i64 x64.regs, v78]) ow83 Z Z Z (.inl Z) Z (L 0 Z Z) (L 1 Z Z) ti24 (by simp [topV]) Z Z (nr Z) (by have q0 := f79.one; simp only [List.all_cons, List.all_nil, q0]; rfl) Z nd (fun V85 le86 ow87 => ?_)
   refine U.done (nr Z) ?_
   refine WP.seq ?_
   refine WP.usreg Z ?_
   refine U.k Z Z (.inl Z) (S.loadB Z (L 0 Z Z) Tryd.underlying24 Z ti24 (ow87.own (k := 0) Z).get Z) nd ?_
   have f88 := f79.up (le82.trans le86)
   obtain ⟨x89, hx90, h91⟩ := bindS h66
   refine O.call (V := V85) Z Z (.inl Z) Z en6 (aC (L 0 Z Z) aN) (wk_law08_great V85 _ (gl.up (((((((le9.trans le14).trans le22).trans le36).trans le45).trans le55).trans le82).trans le86)) x64 v78 f88 ow87 _ hx90) (fun _ _ _ _ => nd) (fun v92 V93 le94 hp95 => ?_)
   obtain ⟨rfl, ow96⟩ := hp95
   refine U.done (nr Z) ?_
   refine WP.cond _ (L 0 Z Z) Z (fun c97 => ?_) (fun c97 => ?_)
   ·have h98 := ifT c97 h91
    refine WP.usreg Z ?_
    refine U.p Z Z (.inl Z) (S.assign Z K) ?_
    refine U.done (nr Z) ?_
    refine WP.ret ?_
    refine sqR (blkR (sqR (sqR (blkR (sqR ?_)))))
    have h99 := exitS h98 e59
    refine fin.slot (.inr Z) Z (L 0 Z Z) ⟨V93, Z, ((((((((le9.trans le14).trans le22).trans le36).trans le45).trans le55).trans le82).trans le86).trans le94), ?_⟩
    have ow100 := ow96.drop 0 Z
    have ow101 := ow100.drop 0 Z
    have ow102 := ow101.drop 0 Z
    have ow103 := ow102.drop 0 Z
    have e104 := Option.some.inj h99
    subst e104
    exact ⟨rfl, ow103⟩
   ·have h105 := ifF c97 h91
    refine WP.skip ?_
    refine sqN ?_
    refine WP.usreg Z ?_
    refine U.p (v := .pointer (some ⟨b80, 3, none⟩)) Z Z (.inl Z) (S.fieldAddr Z (L 2 Z Z) Tryd.underlying24 Z ti22 Z Z) ?_
    refine U.k Z Z (.inl Z) (S.load Z (L 0 Z Z) Tryd.underlying22 Z ((ow96.own (k := 0) Z).cell Z)) nd ?_
    refine U.p Z Z (.inl Z) (f88.1.len Z (L 0 Z Z) Tryd.underlying22) ?_
    refine U.p Z Z (.inl Z) (S.move Z K) ?_
    refine U.done (nr Z) ?_
    refine WP.blk ?_
    have ow107 := ow96.drop 0 Z
    unfold law08_IrParts_l2 at h105
    obtain ⟨n109, hn108⟩ := loopO_some.1 h105
    refine WP.loopI2 (fun n l V' => ∃ (x106 : Int), l = [(2, .pointer (some ⟨b7, 0, none⟩)), (3, .pointer (some ⟨b12, 0, none⟩)), (16, v43), (17, .int .i64 (xs40.length : Int)), (18, .int .i64 x48), (25, v78), (26, .int .i64 (x64.code.length : Int)), (27, .int .i64 x106)] ∧ V93.le V' ∧ Ow V' (.pt b7 (.cells 0 [v1, v3]) :: .pt b12 (.cells 0 [.string p1.name, .int .i64 p1.params, .int .i64 p1.regs, v5]) :: .os RT_TFunc v43 xs40 :: Rs) ∧ itO (fun s => law08_IrParts_l2b x48 x64 s) n x106 = some q58) n109 _ ⟨0, Z, .refl _, ow107, hn108⟩ (allCons (L 10 Z Z) (allCons (L 11 Z Z) (allCons (L 12 Z Z) (allCons (L 13 Z Z) (allCons (L 14 Z Z) (allCons (L 2 Z Z) (allCons (L 1 Z Z) (allCons (L 0 Z Z) allNil)))))))) ?_
    rintro _ _ V110 ⟨x106, rfl, le111, ow112, h116⟩
    obtain ⟨m113, q114, rfl, h117, e115⟩ := itS h116
    replace h117 : law08_IrParts_l2b x48 x64 x106 = some q114 := h117
    unfold law08_IrParts_l2b at h117
    refine WP.usreg Z ?_
    refine U.p Z Z (.inl Z) (S.lss Z (L 7 Z Z) (L 6 Z Z)) ?_
    refine U.done (nr Z) ?_
    refine WP.seq ?_
    refine WP.cond _ (L 0 Z Z) Z (fun c118 => ?_) (fun c118 => ?_)
    ·have h119 := ifT c118 h117
     refine WP.skip ?_
     refine sqN ?_
     refine WP.seq ?_
     refine WP.blk ?_
     refine WP.usreg Z ?_
     obtain ⟨x120, hx121, h122⟩ := bindS h119
     obtain ⟨b123, o124, c125, cs126, hv127, hf128, hr129, hc130⟩ := f88.at hx121
     obtain ⟨v131, rfl, f132⟩ := hr129
     refine U.p Z Z (.inl Z) (S.index Z ((L 6 Z Z).trans hv127) (L 8 Z Z) Tryd.underlying22 ti30 (ix_ge hx121) (ix_lt hx121)) ?_
     refine U.k Z Z (.inl Z) (S.loadN (cs := [.int .i64 x120.op, .int .i64 x120.d, .int .i64 x120.a, .int .i64 x120.b, .int .i64 x120.imm, v131, .int .i64 x120.what, .bool x120.volatile, .bool x120.final]) Z (L 0 Z Z) Tryd.underlying30 Z ti30 Z (fun j v hj => (le94.trans le111).cell hf128 (hc130 j v hj))) nd ?_
     refine O.alloc ow112 Z Z (.inl Z) Z ti30 Z Z nd (fun b133 V134 le135 ow136 => ?_)
     refine O.store (k := 0) (cs := [.int .i64 x120.op, .int .i64 x120.d, .int .i64 x120.a, .int .i64 x120.b, .int .i64 x120.imm, v131, .int .i64 x120.what, .bool x120.volatile, .bool x120.final]) (c' := [.int .i64 x120.op, .int .i64 x120.d, .int .i64 x120.a, .int .i64 x120.b, .int .i64 x120.imm, v131, .int .i64 x120.what, .bool x120.volatile, .bool x120.final]) ow136 Z Z Z (.inl Z) Z (L 0 Z Z) (L 1 Z Z) ti30 (by simp [topV]) Z Z (nr Z) (by have q0 := f132.one; simp only [List.all_cons, List.all_nil, q0]; rfl) Z nd (fun V138 le139 ow140 => ?_)
     refine U.done (nr Z) ?_
     refine WP.usreg Z ?_
     refine U.p (v := .pointer (some ⟨b133, 0, none⟩)) Z Z (.inl Z) (S.fieldAddr Z (L 0 Z Z) Tryd.underlying30 Z ti3 Z Z) ?_
     refine U.k Z Z (.inl Z) (S.load Z (L 0 Z Z) Tryd.underlying3 Z ((ow140.own (k := 0) Z).cell Z)) nd ?_
     refine U.p Z Z (.inl Z) (S.eqlI Z (L 0 Z Z) K) ?_
     refine U.done (nr Z) ?_
     refine WP.cond _ (L 0 Z Z) Z (fun c141 => ?_) (fun c141 => ?_)
     ·have h142 := ifT c141 h122
      refine WP.usreg Z ?_
      refine U.p Z Z (.inl Z) (S.assign Z K) ?_
      refine U.done (nr Z) ?_
      refine WP.ret ?_
      refine blkR (sqR (sqR (blkR (blkR (sqR (sqR (blkR (sqR ?_))))))))
      have h143 := exitS h142 e115
      have h144 := exitS h143 e59
      refine fin.slot (.inr Z) Z (L 0 Z Z) ⟨V138, Z, (((((((((((le9.trans le14).trans le22).trans le36).trans le45).trans le55).trans le82).trans le86).trans le94).trans le111).trans le135).trans le139), ?_⟩
      have ow145 := ow140.drop 0 Z
      have ow146 := ow145.drop 0 Z
      have ow147 := ow146.drop 0 Z
      have ow148 := ow147.drop 0 Z
      have e149 := Option.some.inj h144
      subst e149
      exact ⟨rfl, ow148⟩
     ·have h150 := ifF c141 h122
      refine WP.skip ?_
      refine blkN (sqN ?_)
      refine WP.ureg Z ?_
      refine U.p Z Z (.inl Z) (S.add Z (L 14 Z Z) K) ?_
      refine U.p Z Z (.inl Z) (S.move Z (L 0 Z Z)) ?_
      refine U.done (nr Z) ?_
      refine sqN ?_
      have ow151 := ow140.drop 0 Z
      exact ⟨_, V138, Z, ⟨m113, Nat.lt_succ_self _, w64 (x106 + 1), Z, ((le111.trans le135).trans le139), ow151, backS h150 e115⟩, (allCons (L 9 Z Z) (allCons (L 10 Z Z) (allCons (L 11 Z Z) (allCons (L 12 Z Z) (allCons (L 13 Z Z) (allCons (L 14 Z Z) (allCons (L 15 Z Z) (allCons (L 0 Z Z) allNil))))))))⟩
    ·have h152 := ifF c118 h117
     refine WP.exit ?_
     refine sqE (sqE (blkE (blkN (sqN ?_))))
     have h153 := exitS h152 e115
     refine WP.ureg Z ?_
     refine U.p Z Z (.inl Z) (S.add Z (L 5 Z Z) K) ?_
     refine U.p Z Z (.inl Z) (S.move Z (L 0 Z Z)) ?_
     refine U.done (nr Z) ?_
     refine sqN ?_
     exact ⟨_, V110, Z, ⟨m57, Nat.lt_succ_self _, w64 (x48 + 1), Z, ((((le55.trans le82).trans le86).trans le94).trans le111), ow112, backS h153 e59⟩, (allCons (L 3 Z Z) (allCons (L 4 Z Z) (allCons (L 5 Z Z) (allCons (L 6 Z Z) (allCons (L 0 Z Z) allNil)))))⟩
  ·have h154 := ifF c62 h61
   refine WP.exit ?_
   refine sqE (sqE (blkE (sqN ?_)))
   have h155 := exitS h154 e59
   refine WP.seq ?_
   refine WP.usreg Z ?_
   refine U.p (v := .pointer (some ⟨b7, 0, none⟩)) Z Z (.inl Z) (S.fieldAddr Z (L 1 Z Z) Tryd.underlying34 Z ti32 Z Z) ?_
   refine U.k Z Z (.inl Z) (S.load Z (L 0 Z Z) Tryd.underlying32 Z ((ow56.own (k := 0) Z).cell Z)) nd ?_
   refine U.p Z Z (.inl Z) (f39.1.len Z (L 0 Z Z) Tryd.underlying32) ?_
   refine U.p Z Z (.inl Z) (S.gtr Z (L 0 Z Z) K) ?_
   refine U.p Z Z (.inl Z) (S.move Z (L 0 Z Z)) ?_
   refine U.joinX 10 (fun e H => ∃ (u156 u157 u158 u159 : Value), H = V54.H ∧ e = [(45, .bool ((decide (8 < (p0.funcs.length : Int))) || (decide (20 < (p0.threads.length : Int))))), (44, u156), (43, u157), (42, u158), (41, u159)]) ?_ ?_
   ·rintro _ _ ⟨u156, u157, u158, u159, rfl, rfl⟩
    refine U.p Z Z (.inl Z) (S.move Z (L 0 Z Z)) ?_
    obtain ⟨y163, hy164, h165⟩ := bindS h155
    refine U.joinX 15 (fun e H => ∃ (u166 u167 u168 : Value), ∃ V' : Vw, H = V'.H ∧ V54.le V' ∧ e = [(50, .bool y163), (49, u166), (48, u167), (47, u168)] ∧ Ow V' (.pt b7 (.cells 0 [v1, v3]) :: .pt b12 (.cells 0 [.string p1.name, .int .i64 p1.params, .int .i64 p1.regs, v5]) :: .os RT_TFunc v43 xs40 :: Rs)) ?_ ?_
    ·rintro _ _ ⟨u166, u167, u168, V169, rfl, le170, rfl, ow171⟩
     refine U.done (nr Z) ?_
     refine WP.cond _ (L 0 Z Z) Z (fun c172 => ?_) (fun c172 => ?_)
     ·have h173 := ifT c172 h165
      refine WP.usreg Z ?_
      refine U.p Z Z (.inl Z) (S.assign Z K) ?_
      refine U.done (nr Z) ?_
      refine WP.ret ?_
      refine sqR ?_
      refine fin.slot (.inr Z) Z (L 0 Z Z) ⟨V169, Z, ((((((le9.trans le14).trans le22).trans le36).trans le45).trans le55).trans le170), ?_⟩
      have ow174 := ow171.drop 0 Z
      have ow175 := ow174.drop 0 Z
      have ow176 := ow175.drop 0 Z
      have e177 := Option.some.inj h173
      subst e177
      exact ⟨rfl, ow176⟩
     ·have h178 := ifF c172 h165
      refine WP.skip ?_
      refine sqN ?_
      refine WP.usreg Z ?_
      refine U.k Z Z (.inl Z) (S.loadB Z (L 16 Z Z) Tryd.underlying34 Z ti34 (ow171.own (k := 0) Z).get Z) nd ?_
      refine O.alloc ow171 Z Z (.inl Z) Z ti34 Z Z nd (fun b179 V180 le181 ow182 => ?_)
      refine O.store (k := 0) (cs := [v1, v3]) (c' := [v1, v3]) ow182 Z Z Z (.inl Z) Z (L 0 Z Z) (L 1 Z Z) ti34 (by simp [topV]) Z Z (nr Z) (by have q0 := f39.one; have q1 := f4.one; simp only [List.all_cons, List.all_nil, q0, q1]; rfl) Z nd (fun V184 le185 ow186 => ?_)
      refine U.done (nr Z) ?_
      refine WP.usdreg Z Z Z ?_
      refine O.lit (R := RT_TFunc) ow186 Z Z (.inl Z) Z Tryd.underlying32 ti24 Z Z Z (nr Z) Z aN .nil (fun _ => (fun _ => (okH.nil (fun r h => nomatch h)))) (fun v187 V188 le189 ow190 => ?_)
      refine U.p (v := .pointer (some ⟨b7, 0, none⟩)) Z Z (.inl Z) (S.fieldAddr Z (L 19 Z Z) Tryd.underlying34 Z ti32 Z Z) ?_
      refine U.k Z Z (.inl Z) (S.load Z (L 0 Z Z) Tryd.underlying32 Z ((ow190.own (k := 2) Z).cell Z)) (fun _ => (okH.cons trivial (okH.nil (fun r h => by cases h; exact (ow190.own (k := 2) Z).lt)))) ?_
      have f192 := f39.up (((((le45.trans le55).trans le170).trans le181).trans le185).trans le189)
      obtain ⟨xs193, hx194, h195⟩ := bindS h178
      refine O.appendK (L := 2513169434916) (k := 0) ow190 Z Z Z (.inl Z) Z (L 2 Z Z) (L 0 Z Z) Tryd.underlying32 ti24 Z Z (by decide) (f192.src Tryd.underlying32) hx194 (fun V1 hs => (fun _ => (okH.cons (Or.inl Z) (okH.cons (Or.inl Z) (okH.nil (fun r h => nomatch h)))))) (fun v196 V197 le198 ow199 => ?_)
      refine U.k Z Z (.inl Z) (S.loadB Z (L 23 Z Z) Tryd.underlying24 Z ti24 (ow199.own (k := 3) Z).get Z) (fun _ => (okH.cons (Or.inr (Or.inl ((ow199.own (k := 3) Z).get.trans (ow190.own (k := 3) Z).get.symm))) (okH.cons trivial (okH.cons trivial (okH.nil (fun r h => by cases h; exact (ow199.own (k := 3) Z).lt)))))) ?_
      have f201 := f33.up (((((((le36.trans le45).trans le55).trans le170).trans le181).trans le185).trans le189).trans le198)
      refine O.lit (R := RT_TFunc) ow199 Z Z (.inl Z) Z Tryd.underlying32 ti24 Z Z Z (nr Z) Z (aC (L 0 Z Z) aN) (.cons _ _ p1 _ (by simp [topV]) ⟨_, Z, f201⟩ .nil) (fun _ => (fun _ => (okH.cons trivial (okH.cons trivial (okH.cons trivial (okH.cons trivial (okH.nil (fun r h => nomatch h)))))))) (fun v202 V203 le204 ow205 => ?_)
      obtain ⟨xs207, hx208, h209⟩ := bindS h195
      refine O.append (k := 1) ow205 Z Z Z (.inl Z) Z (L 2 Z Z) (L 0 Z Z) Tryd.underlying32 ti24 Z Z (nr Z) (ow205.src (k := 0) Z Tryd.underlying32) hx208 (fun V1 hs => (fun _ => (okH.cons (Or.inl Z) (okH.cons (Or.inl Z) (okH.cons Z (okH.cons (Or.inl Z) (okH.cons (Or.inl Z) (okH.nil (fun r h => nomatch h))))))))) (fun v210 V211 le212 ow213 => ?_)
      refine U.p (v := .pointer (some ⟨b179, 0, none⟩)) Z Z (.inl Z) (S.fieldAddr Z (L 7 Z Z) Tryd.underlying34 Z ti32 Z Z) ?_
      refine O.store (k := 2) (cs := [v210]) (c' := [v210, v3]) ow213 Z Z Z (.inl Z) Z (L 0 Z Z) (L 1 Z Z) ti32 (ow213.osne (k := 1) Z) (by rw [ow213.oscells (k := 1) rfl]) Z (nr Z) (by have q0 := (ow213.osone (k := 1) Z); simp only [List.all_cons, List.all_nil, q0]; rfl) Z (fun _ => (okH.cons Z (okH.cons (Or.inl Z) (okH.cons (Or.inl Z) (okH.cons Z (okH.cons (Or.inl Z) (okH.cons (Or.inl Z) (okH.nil (fun r h => nomatch h))))))))) (fun V215 le216 ow217 => ?_)
      refine U.done (nr Z) ?_
      refine WP.usdreg Z Z Z ?_
      refine U.k Z Z (.inl Z) (S.loadB Z (L 8 Z Z) Tryd.underlying34 Z ti34 (ow217.own (k := 2) Z).get Z) (fun _ => (okH.nil (fun r h => by cases h; exact (ow217.own (k := 2) Z).lt))) ?_
      obtain ⟨V218, eV222, le219, f220, ow221⟩ := ow217.osfz (k := 1) Z
      rw [← eV222]
      have f224 := f4.up ((((((((((((((le9.trans le14).trans le22).trans le36).trans le45).trans le55).trans le170).trans le181).trans le185).trans le189).trans le198).trans le204).trans le212).trans le216).trans le219)
      obtain ⟨x225, hx226, h227⟩ := bindS h209
      refine O.call (V := V218) Z Z (.inl Z) Z en10 (aC (L 0 Z Z) aN) (wk_ir_Whole V218 _ (gl.up ((((((((((((((le9.trans le14).trans le22).trans le36).trans le45).trans le55).trans le170).trans le181).trans le185).trans le189).trans le198).trans le204).trans le212).trans le216).trans le219)) (⟨xs207, p0.threads⟩ : TModule) v210 v3 f220 f224 ow221 _ hx226) (fun v228 V229 le230 hp231 => by obtain ⟨rfl, ow232⟩ := hp231; exact (fun _ => (okH.cons (Or.inl Z) (okH.nil (fun r h => nomatch h))))) (fun v228 V229 le230 hp231 => ?_)
      obtain ⟨rfl, ow232⟩ := hp231
      refine U.k Z Z (.inl Z) (S.loadB Z (L 29 Z Z) Tryd.underlying24 Z ti24 (ow232.own (k := 3) Z).get Z) (fun _ => (okH.cons (Or.inr (Or.inl ((ow232.own (k := 3) Z).get.trans (ow221.own (k := 3) Z).get.symm))) (okH.cons trivial (okH.nil (fun r h => by cases h; exact (ow232.own (k := 3) Z).lt))))) ?_
      have f233 := f201.up ((((le204.trans le212).trans le216).trans le219).trans le230)
      obtain ⟨x234, hx235, h236⟩ := bindS h227
      refine O.call (V := V229) Z Z (.inl Z) Z en11 (aC (L 0 Z Z) aN) (wk_ir_Good V229 _ (gl.up (((((((((((((((le9.trans le14).trans le22).trans le36).trans le45).trans le55).trans le170).trans le181).trans le185).trans le189).trans le198).trans le204).trans le212).trans le216).trans le219).trans le230)) p1 v5 f233 ow232 _ hx235) (fun v237 V238 le239 hp240 => by obtain ⟨rfl, ow241⟩ := hp240; exact (fun _ => (okH.cons (Or.inl Z) (okH.cons Z (okH.cons (Or.inl Z) (okH.nil (fun r h => nomatch h))))))) (fun v237 V238 le239 hp240 => ?_)
      obtain ⟨rfl, ow241⟩ := hp240
      refine U.p Z Z (.inl Z) (S.eqlB Z (L 2 Z Z) (L 0 Z Z) Tryd.underlying4) ?_
      refine U.p Z Z (.inl Z) (S.assign Z (L 0 Z Z)) ?_
      refine U.done (nr Z) ?_
      refine WP.ret ?_
      refine fin.slot (.inr Z) Z (L 0 Z Z) ⟨V238, Z, ((((((((((((((((le9.trans le14).trans le22).trans le36).trans le45).trans le55).trans le170).trans le181).trans le185).trans le189).trans le198).trans le204).trans le212).trans le216).trans le219).trans le230).trans le239), ?_⟩
      have ow242 := ow241.drop 0 Z
      have ow243 := ow242.drop 0 Z
      have ow244 := ow243.drop 0 Z
      have ow245 := ow244.drop 0 Z
      have ow246 := ow245.drop 0 Z
      have e247 := Option.some.inj h236
      subst e247
      exact ⟨rfl, ow246⟩
    ·intro kk
     refine bcase (b := (decide (8 < (p0.funcs.length : Int))) || (decide (20 < (p0.threads.length : Int)))) (fun g248 => ?_) (fun g248 => ?_)
     ·have h249 := ifT g248 hy164
      refine U.x Z Z Z Z ((L 0 Z Z).trans (cB g248)) (by decide) ?_
      refine U.x Z Z Z Z ((L 1 Z Z).trans (cB g248)) (by decide) ?_
      refine U.x Z Z Z Z ((L 2 Z Z).trans (cB g248)) (by decide) ?_
      refine U.p Z Z (.inl Z) (S.pickT Z ((L 3 Z Z).trans (cB g248)) K) ?_
      have e250 := Option.some.inj h249
      subst e250
      exact kk [(50, .bool true), (49, .tuple #[]), (48, .tuple #[]), (47, .tuple #[])] _ ⟨.tuple #[], .tuple #[], .tuple #[], V54, Z, (.refl _), Z, ow56⟩
     ·have h251 := ifF g248 hy164
      refine U.k Z Z (.inr ⟨_, _, _, Z, Z, ((L 0 Z Z).trans (cB g248))⟩) (S.loadB Z (L 12 Z Z) Tryd.underlying34 Z ti34 (ow56.own (k := 0) Z).get Z) nd ?_
      have f252 := f39.up (le45.trans le55)
      have f253 := f4.up (((((le9.trans le14).trans le22).trans le36).trans le45).trans le55)
      obtain ⟨x254, hx255, h256⟩ := bindS h251
      refine O.call (V := V54) Z Z (.inr ⟨_, _, _, Z, Z, ((L 1 Z Z).trans (cB g248))⟩) Z en10 (aC (L 0 Z Z) aN) (wk_ir_Whole V54 _ (gl.up (((((le9.trans le14).trans le22).trans le36).trans le45).trans le55)) p0 v1 v3 f252 f253 ow56 _ hx255) (fun _ _ _ _ => nd) (fun v257 V258 le259 hp260 => ?_)
      obtain ⟨rfl, ow261⟩ := hp260
      refine U.p Z Z (.inr ⟨_, _, _, Z, Z, ((L 2 Z Z).trans (cB g248))⟩) (S.not Z (L 0 Z Z)) ?_
      refine U.p Z Z (.inl Z) (S.pickF Z ((L 3 Z Z).trans (cB g248)) (L 0 Z Z)) ?_
      have e262 := Option.some.inj h256
      subst e262
      exact kk [(50, .bool (!x254)), (49, .bool (!x254)), (48, .bool x254), (47, .agg #[v1, v3])] _ ⟨.bool (!x254), .bool x254, .agg #[v1, v3], V258, Z, le259, Z, ow261⟩
   ·intro kk
    refine bcase (b := decide (8 < (p0.funcs.length : Int))) (fun g263 => ?_) (fun g263 => ?_)
    ·skip
     refine U.x Z Z Z Z ((L 0 Z Z).trans (cB g263)) (by decide) ?_
     refine U.x Z Z Z Z ((L 1 Z Z).trans (cB g263)) (by decide) ?_
     refine U.x Z Z Z Z ((L 2 Z Z).trans (cB g263)) (by decide) ?_
     refine U.x Z Z Z Z ((L 3 Z Z).trans (cB g263)) (by decide) ?_
     refine U.p Z Z (.inl Z) (S.pickT Z ((L 4 Z Z).trans (cB g263)) K) ?_
     exact kk [(45, .bool true), (44, .tuple #[]), (43, .tuple #[]), (42, .tuple #[]), (41, .tuple #[])] _ ⟨.tuple #[], .tuple #[], .tuple #[], .tuple #[], Z, (by rw [g263, Bool.true_or])⟩
    ·skip
     refine U.p (v := .pointer (some ⟨b7, 1, none⟩)) Z Z (.inr ⟨_, _, _, Z, Z, ((L 0 Z Z).trans (cB g263))⟩) (S.fieldAddr Z (L 6 Z Z) Tryd.underlying34 Z ti28 Z Z) ?_
     refine U.k Z Z (.inr ⟨_, _, _, Z, Z, ((L 1 Z Z).trans (cB g263))⟩) (S.load Z (L 0 Z Z) Tryd.underlying28 Z ((ow56.own (k := 0) Z).cell Z)) nd ?_
     refine U.p Z Z (.inr ⟨_, _, _, Z, Z, ((L 2 Z Z).trans (cB g263))⟩) (f4.1.len Z (L 0 Z Z) Tryd.underlying28) ?_
     refine U.p Z Z (.inr ⟨_, _, _, Z, Z, ((L 3 Z Z).trans (cB g263))⟩) (S.gtr Z (L 0 Z Z) K) ?_
     refine U.p Z Z (.inl Z) (S.pickF Z ((L 4 Z Z).trans (cB g263)) (L 0 Z Z)) ?_
     exact kk [(45, .bool (decide (20 < (p0.threads.length : Int)))), (44, .bool (decide (20 < (p0.threads.length : Int)))), (43, .int .i64 (p0.threads.length : Int)), (42, v3), (41, .pointer (some ⟨b7, 1, none⟩))] _ ⟨.bool (decide (20 < (p0.threads.length : Int))), .int .i64 (p0.threads.length : Int), v3, .pointer (some ⟨b7, 1, none⟩), Z, (by rw [g263, Bool.false_or])⟩
end Go.Vm.G08
