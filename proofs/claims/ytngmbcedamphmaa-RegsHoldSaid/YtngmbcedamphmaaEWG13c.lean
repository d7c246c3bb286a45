/-
  What the functions compute is what the plain ones say, for all inputs at which those answer.
-/
import Derived.Test.YtngmbcedamphmaaEWG13b
set_option linter.unusedSimpArgs false
set_option linter.unusedVariables false
namespace Go.Vm.G13
open Go Go.Proofs
set_option maxHeartbeats 4000000
set_option maxRecDepth 10000
theorem wk_ref08_has (V : Vw) (Rs : List At) (p0 : Int) (ow : Ow V (Rs)) (r : Bool × Bool × Bool × Bool) (h : ref08_has p0 = some r) : ∃ v V', Cl Try.prog 0 24 #[.int .i64 p0] V.H v V'.H ∧ V.le V' ∧ (v = .tuple #[.bool r.1, .bool r.2.1, .bool r.2.2.1, .bool r.2.2.2] ∧ Ow V' (Rs)) := by
 refine Ct.of (Nat.zero_le _) Try.func24 Z (nr Z) ?_
 unfold ref08_has at h
 refine WP.usreg Z ?_
 refine U.p Z Z (.inl Z) (S.assign Z K) ?_
 refine U.p Z Z (.inl Z) (S.assign Z K) ?_
 refine U.p Z Z (.inl Z) (S.assign Z K) ?_
 refine U.p Z Z (.inl Z) (S.assign Z K) ?_
 refine U.done (nr Z) ?_
 refine WP.seq ?_
 refine WP.usreg Z ?_
 refine U.p Z Z (.inl Z) (S.move Z (L 4 Z Z)) ?_
 refine U.done (nr Z) ?_
 refine WP.blk ?_
 refine WP.seqI (fun l V' => ∃ (x1 : Bool), l = [(6, .int .i64 p0), (7, .bool x1)] ∧ V.le V' ∧ Ow V' (Rs) ∧ ref08_has_k1 p0 x1 = some r) ?_ ?_
 ·rintro _ V2 ⟨x1, rfl, le3, ow4, h5⟩
  unfold ref08_has_k1 at h5
  refine WP.cond _ (L 1 Z Z) Z (fun c6 => ?_) (fun c6 => ?_)
  ·have h7 := ifT c6 h5
   refine WP.usreg Z ?_
   refine U.p Z Z (.inl Z) (S.assign Z K) ?_
   refine U.p Z Z (.inl Z) (S.assign Z K) ?_
   refine U.p Z Z (.inl Z) (S.assign Z K) ?_
   refine U.p Z Z (.inl Z) (S.assign Z K) ?_
   refine U.done (nr Z) ?_
   refine WP.ret ?_
   refine blkR (sqR ?_)
   refine fin.slots' (.inr Z) (fsC (L 3 Z Z) (fsC (L 2 Z Z) (fsC (L 1 Z Z) (fsC (L 0 Z Z) fsN)))) Z ⟨V2, Z, le3, ?_⟩
   have e8 := Option.some.inj h7
   subst e8
   exact ⟨rfl, ow4⟩
  ·have h9 := ifF c6 h5
   refine WP.seqI (fun l V' => ∃ (x10 : Bool), l = [(6, .int .i64 p0), (10, .bool x10)] ∧ V2.le V' ∧ Ow V' (Rs) ∧ ref08_has_k2 p0 x10 = some r) ?_ ?_
   ·rintro _ V11 ⟨x10, rfl, le12, ow13, h14⟩
    unfold ref08_has_k2 at h14
    refine WP.cond _ (L 1 Z Z) Z (fun c15 => ?_) (fun c15 => ?_)
    ·have h16 := ifT c15 h14
     refine WP.usreg Z ?_
     refine U.p Z Z (.inl Z) (S.assign Z K) ?_
     refine U.p Z Z (.inl Z) (S.assign Z K) ?_
     refine U.p Z Z (.inl Z) (S.assign Z K) ?_
     refine U.p Z Z (.inl Z) (S.assign Z K) ?_
     refine U.done (nr Z) ?_
     refine WP.ret ?_
     refine blkR (sqR ?_)
     refine fin.slots' (.inr Z) (fsC (L 3 Z Z) (fsC (L 2 Z Z) (fsC (L 1 Z Z) (fsC (L 0 Z Z) fsN)))) Z ⟨V11, Z, (le3.trans le12), ?_⟩
     have e17 := Option.some.inj h16
     subst e17
     exact ⟨rfl, ow13⟩
    ·have h18 := ifF c15 h14
     refine WP.seqI (fun l V' => ∃ (x19 : Bool), l = [(6, .int .i64 p0), (13, .bool x19)] ∧ V11.le V' ∧ Ow V' (Rs) ∧ ref08_has_k3 p0 x19 = some r) ?_ ?_
     ·rintro _ V20 ⟨x19, rfl, le21, ow22, h23⟩
      unfold ref08_has_k3 at h23
      refine WP.cond _ (L 1 Z Z) Z (fun c24 => ?_) (fun c24 => ?_)
      ·have h25 := ifT c24 h23
       refine WP.usreg Z ?_
       refine U.p Z Z (.inl Z) (S.assign Z K) ?_
       refine U.p Z Z (.inl Z) (S.assign Z K) ?_
       refine U.p Z Z (.inl Z) (S.assign Z K) ?_
       refine U.p Z Z (.inl Z) (S.assign Z K) ?_
       refine U.done (nr Z) ?_
       refine WP.ret ?_
       refine blkR (sqR ?_)
       refine fin.slots' (.inr Z) (fsC (L 3 Z Z) (fsC (L 2 Z Z) (fsC (L 1 Z Z) (fsC (L 0 Z Z) fsN)))) Z ⟨V20, Z, ((le3.trans le12).trans le21), ?_⟩
       have e26 := Option.some.inj h25
       subst e26
       exact ⟨rfl, ow22⟩
      ·have h27 := ifF c24 h23
       refine WP.usreg Z ?_
       refine U.p Z Z (.inl Z) (S.eqlI Z (L 0 Z Z) K) ?_
       refine U.p Z Z (.inl Z) (S.assign Z (L 0 Z Z)) ?_
       refine U.done (nr Z) ?_
       refine WP.cond _ (L 0 Z Z) Z (fun c28 => ?_) (fun c28 => ?_)
       ·have h29 := ifT c28 h27
        refine WP.usreg Z ?_
        refine U.p Z Z (.inl Z) (S.assign Z K) ?_
        refine U.p Z Z (.inl Z) (S.assign Z K) ?_
        refine U.p Z Z (.inl Z) (S.assign Z K) ?_
        refine U.p Z Z (.inl Z) (S.assign Z K) ?_
        refine U.done (nr Z) ?_
        refine WP.ret ?_
        refine blkR (sqR ?_)
        refine fin.slots' (.inr Z) (fsC (L 3 Z Z) (fsC (L 2 Z Z) (fsC (L 1 Z Z) (fsC (L 0 Z Z) fsN)))) Z ⟨V20, Z, ((le3.trans le12).trans le21), ?_⟩
        have e30 := Option.some.inj h29
        subst e30
        exact ⟨rfl, ow22⟩
       ·have h31 := ifF c28 h27
        refine WP.seqI (fun l V' => ∃ (x32 : Bool), l = [(6, .int .i64 p0), (22, .bool x32)] ∧ V20.le V' ∧ Ow V' (Rs) ∧ ref08_has_k4 p0 x32 = some r) ?_ ?_
        ·rintro _ V33 ⟨x32, rfl, le34, ow35, h36⟩
         unfold ref08_has_k4 at h36
         refine WP.cond _ (L 1 Z Z) Z (fun c37 => ?_) (fun c37 => ?_)
         ·have h38 := ifT c37 h36
          refine WP.usreg Z ?_
          refine U.p Z Z (.inl Z) (S.assign Z K) ?_
          refine U.p Z Z (.inl Z) (S.assign Z K) ?_
          refine U.p Z Z (.inl Z) (S.assign Z K) ?_
          refine U.p Z Z (.inl Z) (S.assign Z K) ?_
          refine U.done (nr Z) ?_
          refine WP.ret ?_
          refine blkR (sqR ?_)
          refine fin.slots' (.inr Z) (fsC (L 3 Z Z) (fsC (L 2 Z Z) (fsC (L 1 Z Z) (fsC (L 0 Z Z) fsN)))) Z ⟨V33, Z, (((le3.trans le12).trans le21).trans le34), ?_⟩
          have e39 := Option.some.inj h38
          subst e39
          exact ⟨rfl, ow35⟩
         ·have h40 := ifF c37 h36
          refine WP.usreg Z ?_
          refine U.p Z Z (.inl Z) (S.eqlI Z (L 0 Z Z) K) ?_
          refine U.p Z Z (.inl Z) (S.assign Z (L 0 Z Z)) ?_
          refine U.done (nr Z) ?_
          refine WP.cond _ (L 0 Z Z) Z (fun c41 => ?_) (fun c41 => ?_)
          ·have h42 := ifT c41 h40
           refine WP.usreg Z ?_
           refine U.p Z Z (.inl Z) (S.assign Z K) ?_
           refine U.p Z Z (.inl Z) (S.assign Z K) ?_
           refine U.p Z Z (.inl Z) (S.assign Z K) ?_
           refine U.p Z Z (.inl Z) (S.assign Z K) ?_
           refine U.done (nr Z) ?_
           refine WP.ret ?_
           refine blkR (sqR ?_)
           refine fin.slots' (.inr Z) (fsC (L 3 Z Z) (fsC (L 2 Z Z) (fsC (L 1 Z Z) (fsC (L 0 Z Z) fsN)))) Z ⟨V33, Z, (((le3.trans le12).trans le21).trans le34), ?_⟩
           have e43 := Option.some.inj h42
           subst e43
           exact ⟨rfl, ow35⟩
          ·have h44 := ifF c41 h40
           refine WP.usreg Z ?_
           refine U.p Z Z (.inl Z) (S.eqlI Z (L 2 Z Z) K) ?_
           refine U.p Z Z (.inl Z) (S.assign Z (L 0 Z Z)) ?_
           refine U.done (nr Z) ?_
           refine WP.cond _ (L 0 Z Z) Z (fun c45 => ?_) (fun c45 => ?_)
           ·have h46 := ifT c45 h44
            refine WP.usreg Z ?_
            refine U.p Z Z (.inl Z) (S.assign Z K) ?_
            refine U.p Z Z (.inl Z) (S.assign Z K) ?_
            refine U.p Z Z (.inl Z) (S.assign Z K) ?_
            refine U.p Z Z (.inl Z) (S.assign Z K) ?_
            refine U.done (nr Z) ?_
            refine WP.ret ?_
            refine blkR (sqR ?_)
            refine fin.slots' (.inr Z) (fsC (L 3 Z Z) (fsC (L 2 Z Z) (fsC (L 1 Z Z) (fsC (L 0 Z Z) fsN)))) Z ⟨V33, Z, (((le3.trans le12).trans le21).trans le34), ?_⟩
            have e47 := Option.some.inj h46
            subst e47
            exact ⟨rfl, ow35⟩
           ·have h48 := ifF c45 h44
            refine WP.seqI (fun l V' => ∃ (x49 : Bool), l = [(29, .bool x49)] ∧ V33.le V' ∧ Ow V' (Rs) ∧ ref08_has_k5 x49 = some r) ?_ ?_
            ·rintro _ V50 ⟨x49, rfl, le51, ow52, h53⟩
             unfold ref08_has_k5 at h53
             refine WP.cond _ (L 0 Z Z) Z (fun c54 => ?_) (fun c54 => ?_)
             ·have h55 := ifT c54 h53
              refine WP.usreg Z ?_
              refine U.p Z Z (.inl Z) (S.assign Z K) ?_
              refine U.p Z Z (.inl Z) (S.assign Z K) ?_
              refine U.p Z Z (.inl Z) (S.assign Z K) ?_
              refine U.p Z Z (.inl Z) (S.assign Z K) ?_
              refine U.done (nr Z) ?_
              refine WP.ret ?_
              refine blkR (sqR ?_)
              refine fin.slots' (.inr Z) (fsC (L 3 Z Z) (fsC (L 2 Z Z) (fsC (L 1 Z Z) (fsC (L 0 Z Z) fsN)))) Z ⟨V50, Z, ((((le3.trans le12).trans le21).trans le34).trans le51), ?_⟩
              have e56 := Option.some.inj h55
              subst e56
              exact ⟨rfl, ow52⟩
             ·have h57 := ifF c54 h53
              refine WP.skip ?_
              refine blkN (sqN ?_)
              refine WP.usreg Z ?_
              refine U.p Z Z (.inl Z) (S.assign Z K) ?_
              refine U.p Z Z (.inl Z) (S.assign Z K) ?_
              refine U.p Z Z (.inl Z) (S.assign Z K) ?_
              refine U.p Z Z (.inl Z) (S.assign Z K) ?_
              refine U.done (nr Z) ?_
              refine WP.ret ?_
              refine fin.slots' (.inr Z) (fsC (L 3 Z Z) (fsC (L 2 Z Z) (fsC (L 1 Z Z) (fsC (L 0 Z Z) fsN)))) Z ⟨V50, Z, ((((le3.trans le12).trans le21).trans le34).trans le51), ?_⟩
              have e58 := Option.some.inj h57
              subst e58
              exact ⟨rfl, ow52⟩
            ·skip
             refine WP.usreg Z ?_
             refine U.p Z Z (.inl Z) (S.eqlI Z (L 4 Z Z) K) ?_
             refine U.p Z Z (.inl Z) (S.assign Z (L 0 Z Z)) ?_
             refine U.done (nr Z) ?_
             refine WP.cond _ (L 0 Z Z) Z (fun c59 => ?_) (fun c59 => ?_)
             ·have h60 := ifT c59 h48
              refine WP.skip ?_
              refine sqN ?_
              exact ⟨_, V33, Z, ⟨true, Z, (.refl _), ow35, h60⟩, (allCons ((L 0 Z Z).trans (cB c59)) allNil)⟩
             ·have h61 := ifF c59 h48
              refine WP.usreg Z ?_
              refine U.p Z Z (.inl Z) (S.eqlI Z (L 6 Z Z) K) ?_
              refine U.p Z Z (.inl Z) (S.assign Z (L 0 Z Z)) ?_
              refine U.done (nr Z) ?_
              refine WP.cond _ (L 0 Z Z) Z (fun c62 => ?_) (fun c62 => ?_)
              ·have h63 := ifT c62 h61
               refine WP.skip ?_
               refine sqN ?_
               exact ⟨_, V33, Z, ⟨true, Z, (.refl _), ow35, h63⟩, (allCons ((L 0 Z Z).trans (cB c62)) allNil)⟩
              ·have h64 := ifF c62 h61
               refine WP.usreg Z ?_
               refine U.p Z Z (.inl Z) (S.eqlI Z (L 8 Z Z) K) ?_
               refine U.p Z Z (.inl Z) (S.assign Z (L 0 Z Z)) ?_
               refine U.done (nr Z) ?_
               refine WP.cond _ (L 0 Z Z) Z (fun c65 => ?_) (fun c65 => ?_)
               ·have h66 := ifT c65 h64
                refine WP.skip ?_
                refine sqN ?_
                exact ⟨_, V33, Z, ⟨true, Z, (.refl _), ow35, h66⟩, (allCons ((L 0 Z Z).trans (cB c65)) allNil)⟩
               ·have h67 := ifF c65 h64
                refine WP.ureg Z ?_
                refine U.p Z Z (.inl Z) (S.eqlI Z (L 10 Z Z) K) ?_
                refine U.p Z Z (.inl Z) (S.assign Z (L 0 Z Z)) ?_
                refine U.done (nr Z) ?_
                refine sqN ?_
                exact ⟨_, V33, Z, ⟨decide (p0 = 20), Z, (.refl _), ow35, h67⟩, (allCons (L 0 Z Z) allNil)⟩
        ·skip
         refine WP.usreg Z ?_
         refine U.p Z Z (.inl Z) (S.eqlI Z (L 2 Z Z) K) ?_
         refine U.p Z Z (.inl Z) (S.assign Z (L 0 Z Z)) ?_
         refine U.done (nr Z) ?_
         refine WP.cond _ (L 0 Z Z) Z (fun c68 => ?_) (fun c68 => ?_)
         ·have h69 := ifT c68 h31
          refine WP.skip ?_
          refine sqN ?_
          exact ⟨_, V20, Z, ⟨true, Z, (.refl _), ow22, h69⟩, (allCons (L 4 Z Z) (allCons ((L 0 Z Z).trans (cB c68)) allNil))⟩
         ·have h70 := ifF c68 h31
          refine WP.ureg Z ?_
          refine U.p Z Z (.inl Z) (S.eqlI Z (L 4 Z Z) K) ?_
          refine U.p Z Z (.inl Z) (S.assign Z (L 0 Z Z)) ?_
          refine U.done (nr Z) ?_
          refine sqN ?_
          exact ⟨_, V20, Z, ⟨decide (p0 = 12), Z, (.refl _), ow22, h70⟩, (allCons (L 6 Z Z) (allCons (L 0 Z Z) allNil))⟩
     ·skip
      refine WP.usreg Z ?_
      refine U.p Z Z (.inl Z) (S.eqlI Z (L 0 Z Z) K) ?_
      refine U.p Z Z (.inl Z) (S.assign Z (L 0 Z Z)) ?_
      refine U.done (nr Z) ?_
      refine WP.cond _ (L 0 Z Z) Z (fun c71 => ?_) (fun c71 => ?_)
      ·have h72 := ifT c71 h18
       refine WP.skip ?_
       refine sqN ?_
       exact ⟨_, V11, Z, ⟨true, Z, (.refl _), ow13, h72⟩, (allCons (L 2 Z Z) (allCons ((L 0 Z Z).trans (cB c71)) allNil))⟩
      ·have h73 := ifF c71 h18
       refine WP.usreg Z ?_
       refine U.p Z Z (.inl Z) (S.eqlI Z (L 2 Z Z) K) ?_
       refine U.p Z Z (.inl Z) (S.assign Z (L 0 Z Z)) ?_
       refine U.done (nr Z) ?_
       refine WP.cond _ (L 0 Z Z) Z (fun c74 => ?_) (fun c74 => ?_)
       ·have h75 := ifT c74 h73
        refine WP.skip ?_
        refine sqN ?_
        exact ⟨_, V11, Z, ⟨true, Z, (.refl _), ow13, h75⟩, (allCons (L 4 Z Z) (allCons ((L 0 Z Z).trans (cB c74)) allNil))⟩
       ·have h76 := ifF c74 h73
        refine WP.usreg Z ?_
        refine U.p Z Z (.inl Z) (S.eqlI Z (L 4 Z Z) K) ?_
        refine U.p Z Z (.inl Z) (S.assign Z (L 0 Z Z)) ?_
        refine U.done (nr Z) ?_
        refine WP.cond _ (L 0 Z Z) Z (fun c77 => ?_) (fun c77 => ?_)
        ·have h78 := ifT c77 h76
         refine WP.skip ?_
         refine sqN ?_
         exact ⟨_, V11, Z, ⟨true, Z, (.refl _), ow13, h78⟩, (allCons (L 6 Z Z) (allCons ((L 0 Z Z).trans (cB c77)) allNil))⟩
        ·have h79 := ifF c77 h76
         refine WP.usreg Z ?_
         refine U.p Z Z (.inl Z) (S.eqlI Z (L 6 Z Z) K) ?_
         refine U.p Z Z (.inl Z) (S.assign Z (L 0 Z Z)) ?_
         refine U.done (nr Z) ?_
         refine WP.cond _ (L 0 Z Z) Z (fun c80 => ?_) (fun c80 => ?_)
         ·have h81 := ifT c80 h79
          refine WP.skip ?_
          refine sqN ?_
          exact ⟨_, V11, Z, ⟨true, Z, (.refl _), ow13, h81⟩, (allCons (L 8 Z Z) (allCons ((L 0 Z Z).trans (cB c80)) allNil))⟩
         ·have h82 := ifF c80 h79
          refine WP.usreg Z ?_
          refine U.p Z Z (.inl Z) (S.eqlI Z (L 8 Z Z) K) ?_
          refine U.p Z Z (.inl Z) (S.assign Z (L 0 Z Z)) ?_
          refine U.done (nr Z) ?_
          refine WP.cond _ (L 0 Z Z) Z (fun c83 => ?_) (fun c83 => ?_)
          ·have h84 := ifT c83 h82
           refine WP.skip ?_
           refine sqN ?_
           exact ⟨_, V11, Z, ⟨true, Z, (.refl _), ow13, h84⟩, (allCons (L 10 Z Z) (allCons ((L 0 Z Z).trans (cB c83)) allNil))⟩
          ·have h85 := ifF c83 h82
           refine WP.ureg Z ?_
           refine U.p Z Z (.inl Z) (S.eqlI Z (L 10 Z Z) K) ?_
           refine U.p Z Z (.inl Z) (S.assign Z (L 0 Z Z)) ?_
           refine U.done (nr Z) ?_
           refine sqN ?_
           exact ⟨_, V11, Z, ⟨decide (p0 = 8), Z, (.refl _), ow13, h85⟩, (allCons (L 12 Z Z) (allCons (L 0 Z Z) allNil))⟩
   ·skip
    refine WP.usreg Z ?_
    refine U.p Z Z (.inl Z) (S.eqlI Z (L 0 Z Z) K) ?_
    refine U.p Z Z (.inl Z) (S.assign Z (L 0 Z Z)) ?_
    refine U.done (nr Z) ?_
    refine WP.cond _ (L 0 Z Z) Z (fun c86 => ?_) (fun c86 => ?_)
    ·have h87 := ifT c86 h9
     refine WP.skip ?_
     refine sqN ?_
     exact ⟨_, V2, Z, ⟨true, Z, (.refl _), ow4, h87⟩, (allCons (L 2 Z Z) (allCons ((L 0 Z Z).trans (cB c86)) allNil))⟩
    ·have h88 := ifF c86 h9
     refine WP.ureg Z ?_
     refine U.p Z Z (.inl Z) (S.eqlI Z (L 2 Z Z) K) ?_
     refine U.p Z Z (.inl Z) (S.assign Z (L 0 Z Z)) ?_
     refine U.done (nr Z) ?_
     refine sqN ?_
     exact ⟨_, V2, Z, ⟨decide (p0 = 9), Z, (.refl _), ow4, h88⟩, (allCons (L 4 Z Z) (allCons (L 0 Z Z) allNil))⟩
 ·skip
  refine WP.usreg Z ?_
  refine U.p Z Z (.inl Z) (S.eqlI Z (L 0 Z Z) K) ?_
  refine U.p Z Z (.inl Z) (S.assign Z (L 0 Z Z)) ?_
  refine U.done (nr Z) ?_
  refine WP.cond _ (L 0 Z Z) Z (fun c89 => ?_) (fun c89 => ?_)
  ·have h90 := ifT c89 h
   refine WP.skip ?_
   refine sqN ?_
   exact ⟨_, V, Z, ⟨true, Z, (.refl _), ow, h90⟩, (allCons (L 2 Z Z) (allCons ((L 0 Z Z).trans (cB c89)) allNil))⟩
  ·have h91 := ifF c89 h
   refine WP.ureg Z ?_
   refine U.p Z Z (.inl Z) (S.eqlI Z (L 2 Z Z) K) ?_
   refine U.p Z Z (.inl Z) (S.assign Z (L 0 Z Z)) ?_
   refine U.done (nr Z) ?_
   refine sqN ?_
   exact ⟨_, V, Z, ⟨decide (p0 = 14), Z, (.refl _), ow, h91⟩, (allCons (L 4 Z Z) (allCons (L 0 Z Z) allNil))⟩
theorem wk_ref08_register (V : Vw) (Rs : List At) (p0 : Bool) (p1 : Bool) (p2 : Int) (p3 : Int) (ow : Ow V (Rs)) (r : Bool) (h : ref08_register p0 p1 p2 p3 = some r) : ∃ v V', Cl Try.prog 0 25 #[.bool p0, .bool p1, .int .i64 p2, .int .i64 p3] V.H v V'.H ∧ V.le V' ∧ (v = .bool r ∧ Ow V' (Rs)) := by
 refine Ct.of (Nat.zero_le _) Try.func25 Z (nr Z) ?_
 unfold ref08_register at h
 refine WP.usreg Z ?_
 refine U.p Z Z (.inl Z) (S.assign Z K) ?_
 refine U.done (nr Z) ?_
 refine WP.seq ?_
 refine WP.usreg Z ?_
 refine U.p Z Z (.inl Z) (S.move Z (L 1 Z Z)) ?_
 refine U.p Z Z (.inl Z) (S.not Z (L 0 Z Z)) ?_
 refine U.done (nr Z) ?_
 refine WP.cond _ (L 0 Z Z) Z (fun c1 => ?_) (fun c1 => ?_)
 ·have h2 := ifT c1 h
  have k3 : p0 = false := nT c1
  refine WP.usreg Z ?_
  refine U.p Z Z (.inl Z) (S.move Z (L 5 Z Z)) ?_
  refine U.p Z Z (.inl Z) (S.eqlI Z (L 0 Z Z) K) ?_
  refine U.p Z Z (.inl Z) (S.assign Z (L 0 Z Z)) ?_
  refine U.done (nr Z) ?_
  refine WP.ret ?_
  refine sqR ?_
  refine fin.slot (.inr Z) Z (L 0 Z Z) ⟨V, Z, (.refl _), ?_⟩
  have e4 := Option.some.inj h2
  subst e4
  exact ⟨rfl, ow⟩
 ·have h5 := ifF c1 h
  have k6 : p0 = true := nF c1
  refine WP.skip ?_
  refine sqN ?_
  refine WP.usreg Z ?_
  refine U.p Z Z (.inl Z) (S.move Z (L 5 Z Z)) ?_
  refine U.p Z Z (.inl Z) (S.geq Z (L 0 Z Z) K) ?_
  refine U.p Z Z (.inl Z) (S.move Z (L 0 Z Z)) ?_
  refine U.joinX 7 (fun e H => ∃ (u7 u8 u9 : Value), H = V.H ∧ e = [(19, .bool ((decide (0 ≤ p2)) && (decide (p2 < p3)))), (18, u7), (17, u8), (16, u9)]) ?_ ?_
  ·rintro _ _ ⟨u7, u8, u9, rfl, rfl⟩
   refine U.p Z Z (.inl Z) (S.move Z (L 0 Z Z)) ?_
   refine U.joinX 14 (fun e H => ∃ (u13 u14 u15 u16 u17 : Value), H = V.H ∧ e = [(26, .bool (((decide (0 ≤ p2)) && (decide (p2 < p3))) || (p1 && (decide (p2 = (-1)))))), (25, u13), (24, u14), (23, u15), (22, u16), (21, u17)]) ?_ ?_
   ·rintro _ _ ⟨u13, u14, u15, u16, u17, rfl, rfl⟩
    refine U.p Z Z (.inl Z) (S.assign Z (L 0 Z Z)) ?_
    refine U.done (nr Z) ?_
    refine WP.ret ?_
    refine fin.slot (.inr Z) Z (L 0 Z Z) ⟨V, Z, (.refl _), ?_⟩
    have e21 := Option.some.inj h5
    subst e21
    exact ⟨rfl, ow⟩
   ·intro kk
    refine bcase (b := (decide (0 ≤ p2)) && (decide (p2 < p3))) (fun g22 => ?_) (fun g22 => ?_)
    ·skip
     refine U.x Z Z Z Z ((L 0 Z Z).trans (cB g22)) (by decide) ?_
     refine U.x Z Z Z Z ((L 1 Z Z).trans (cB g22)) (by decide) ?_
     refine U.z Z Z Z Z (L 0 Z Z) ?_
     refine U.z Z Z Z Z (L 1 Z Z) ?_
     refine U.x Z Z Z Z ((L 4 Z Z).trans (cB g22)) (by decide) ?_
     refine U.p Z Z (.inl Z) (S.pickT Z ((L 5 Z Z).trans (cB g22)) K) ?_
     exact kk [(26, .bool true), (25, .tuple #[]), (24, .tuple #[]), (23, .tuple #[]), (22, .tuple #[]), (21, .tuple #[])] _ ⟨.tuple #[], .tuple #[], .tuple #[], .tuple #[], .tuple #[], Z, (by rw [g22, Bool.true_or])⟩
    ·skip
     refine U.p Z Z (.inr ⟨_, _, _, Z, Z, ((L 0 Z Z).trans (cB g22))⟩) (S.move Z (L 12 Z Z)) ?_
     refine U.p Z Z (.inr ⟨_, _, _, Z, Z, ((L 1 Z Z).trans (cB g22))⟩) (S.move Z (L 0 Z Z)) ?_
     refine U.joinX 13 (fun e H => ∃ (u23 u24 : Value), H = V.H ∧ e = [(25, .bool (p1 && (decide (p2 = (-1))))), (24, u23), (23, u24)]) ?_ ?_
     ·rintro _ _ ⟨u23, u24, rfl, rfl⟩
      refine U.p Z Z (.inl Z) (S.pickF Z ((L 5 Z Z).trans (cB g22)) (L 0 Z Z)) ?_
      exact kk [(26, .bool (p1 && (decide (p2 = (-1))))), (25, .bool (p1 && (decide (p2 = (-1))))), (24, u23), (23, u24), (22, .bool p1), (21, .bool p1)] _ ⟨.bool (p1 && (decide (p2 = (-1)))), u23, u24, .bool p1, .bool p1, Z, (by rw [g22, Bool.false_or])⟩
     ·intro kk
      refine bcase (b := p1) (fun g28 => ?_) (fun g28 => ?_)
      ·skip
       refine U.p Z Z (.inr ⟨_, _, _, Z, Z, ((L 0 Z Z).trans (cB g28))⟩) (S.move Z (L 15 Z Z)) ?_
       refine U.p Z Z (.inr ⟨_, _, _, Z, Z, ((L 1 Z Z).trans (cB g28))⟩) (S.eqlI Z (L 0 Z Z) K) ?_
       refine U.p Z Z (.inr ⟨_, _, _, Z, Z, ((L 4 Z Z).trans (cB g22))⟩) (S.pickT Z ((L 2 Z Z).trans (cB g28)) (L 0 Z Z)) ?_
       exact kk [(25, .bool (decide (p2 = (-1)))), (24, .bool (decide (p2 = (-1)))), (23, .int .i64 p2)] _ ⟨.bool (decide (p2 = (-1))), .int .i64 p2, Z, (by rw [g28, Bool.true_and])⟩
      ·skip
       refine U.x Z Z Z Z ((L 0 Z Z).trans (cB g28)) (by decide) ?_
       refine U.x Z Z Z Z ((L 1 Z Z).trans (cB g28)) (by decide) ?_
       refine U.p Z Z (.inr ⟨_, _, _, Z, Z, ((L 4 Z Z).trans (cB g22))⟩) (S.pickF Z ((L 2 Z Z).trans (cB g28)) K) ?_
       exact kk [(25, .bool false), (24, .tuple #[]), (23, .tuple #[])] _ ⟨.tuple #[], .tuple #[], Z, (by rw [g28, Bool.false_and])⟩
  ·intro kk
   refine bcase (b := decide (0 ≤ p2)) (fun g29 => ?_) (fun g29 => ?_)
   ·skip
    refine U.p Z Z (.inr ⟨_, _, _, Z, Z, ((L 0 Z Z).trans (cB g29))⟩) (S.move Z (L 8 Z Z)) ?_
    refine U.p Z Z (.inr ⟨_, _, _, Z, Z, ((L 1 Z Z).trans (cB g29))⟩) (S.move Z (L 10 Z Z)) ?_
    refine U.p Z Z (.inr ⟨_, _, _, Z, Z, ((L 2 Z Z).trans (cB g29))⟩) (S.lss Z (L 1 Z Z) (L 0 Z Z)) ?_
    refine U.p Z Z (.inl Z) (S.pickT Z ((L 3 Z Z).trans (cB g29)) (L 0 Z Z)) ?_
    exact kk [(19, .bool (decide (p2 < p3))), (18, .bool (decide (p2 < p3))), (17, .int .i64 p3), (16, .int .i64 p2)] _ ⟨.bool (decide (p2 < p3)), .int .i64 p3, .int .i64 p2, Z, (by rw [g29, Bool.true_and])⟩
   ·skip
    refine U.x Z Z Z Z ((L 0 Z Z).trans (cB g29)) (by decide) ?_
    refine U.x Z Z Z Z ((L 1 Z Z).trans (cB g29)) (by decide) ?_
    refine U.x Z Z Z Z ((L 2 Z Z).trans (cB g29)) (by decide) ?_
    refine U.p Z Z (.inl Z) (S.pickF Z ((L 3 Z Z).trans (cB g29)) K) ?_
    exact kk [(19, .bool false), (18, .tuple #[]), (17, .tuple #[]), (16, .tuple #[])] _ ⟨.tuple #[], .tuple #[], .tuple #[], Z, (by rw [g29, Bool.false_and])⟩
theorem wk_ref08_count (V : Vw) (Rs : List At) (p0 : TFunc) (p1 : Int) (v1 : Value) (f2 : Fz RT_TIns V v1 p0.code) (ow : Ow V (Rs)) (r : Int) (h : ref08_count p0 p1 = some r) : ∃ v V', Cl Try.prog 0 15 #[.agg #[.string p0.name, .int .i64 p0.params, .int .i64 p0.regs, v1], .int .i64 p1] V.H v V'.H ∧ V.le V' ∧ (v = .int .i64 r ∧ Ow V' (Rs)) := by
 refine Ct.of (Nat.zero_le _) Try.func15 Z (nr Z) ?_
 unfold ref08_count at h
 refine WP.usreg Z ?_
 refine O.box ow Z Z (.inl Z) Z (L 0 Z Z) (by simp [topV]) Z nd (fun b3 V4 le5 ow6 => ?_)
 refine U.p Z Z (.inl Z) (S.assign Z K) ?_
 refine U.done (nr Z) ?_
 refine WP.usreg Z ?_
 refine U.p Z Z (.inl Z) (S.assign Z K) ?_
 refine U.done (nr Z) ?_
 refine WP.seq ?_
 refine WP.usreg Z ?_
 refine U.p (v := .pointer (some ⟨b3, 3, none⟩)) Z Z (.inl Z) (S.fieldAddr Z (L 2 Z Z) Try.underlying24 Z ti22 Z Z) ?_
 refine U.k Z Z (.inl Z) (S.load Z (L 0 Z Z) Try.underlying22 Z ((ow6.own (k := 0) Z).cell Z)) nd ?_
 refine U.p Z Z (.inl Z) (f2.1.len Z (L 0 Z Z) Try.underlying22) ?_
 refine U.p Z Z (.inl Z) (S.move Z K) ?_
 refine U.done (nr Z) ?_
 refine WP.blk ?_
 have ow10 := ow6.drop 0 Z
 unfold ref08_count_l1 at h
 obtain ⟨n12, hn11⟩ := loopO_some.1 h
 refine WP.loopI2 (fun n l V' => ∃ (x8 : Int) (x9 : Int), l = [(1, .int .i64 p1), (5, .int .i64 x8), (9, v1), (10, .int .i64 (p0.code.length : Int)), (11, .int .i64 x9)] ∧ V4.le V' ∧ Ow V' (Rs) ∧ itO (fun s => ref08_count_l1b p0 p1 s.1 s.2) n (x8, x9) = some r) n12 _ ⟨0, 0, Z, .refl _, ow10, hn11⟩ (allCons (L 8 Z Z) (allCons (L 4 Z Z) (allCons (L 2 Z Z) (allCons (L 1 Z Z) (allCons (L 0 Z Z) allNil))))) ?_
 rintro _ _ V13 ⟨x8, x9, rfl, le14, ow15, h19⟩
 obtain ⟨m16, q17, rfl, h20, e18⟩ := itS h19
 replace h20 : ref08_count_l1b p0 p1 x8 x9 = some q17 := h20
 unfold ref08_count_l1b at h20
 refine WP.usreg Z ?_
 refine U.p Z Z (.inl Z) (S.lss Z (L 4 Z Z) (L 3 Z Z)) ?_
 refine U.done (nr Z) ?_
 refine WP.seq ?_
 refine WP.cond _ (L 0 Z Z) Z (fun c21 => ?_) (fun c21 => ?_)
 ·have h22 := ifT c21 h20
  refine WP.skip ?_
  refine sqN ?_
  refine WP.seqI (fun l V' => ∃ (x23 : Int), l = [(1, .int .i64 p1), (5, .int .i64 x23), (9, v1), (10, .int .i64 (p0.code.length : Int)), (11, .int .i64 x9)] ∧ V13.le V' ∧ Ow V' (Rs) ∧ ref08_count_k1 x9 x23 = some q17) ?_ ?_
  ·rintro _ V24 ⟨x23, rfl, le25, ow26, h27⟩
   unfold ref08_count_k1 at h27
   refine WP.ureg Z ?_
   refine U.p Z Z (.inl Z) (S.add Z (L 4 Z Z) K) ?_
   refine U.p Z Z (.inl Z) (S.move Z (L 0 Z Z)) ?_
   refine U.done (nr Z) ?_
   refine sqN ?_
   exact ⟨_, V24, Z, ⟨m16, Nat.lt_succ_self _, x23, w64 (x9 + 1), Z, (le14.trans le25), ow26, backS h27 e18⟩, (allCons (L 2 Z Z) (allCons (L 3 Z Z) (allCons (L 4 Z Z) (allCons (L 5 Z Z) (allCons (L 0 Z Z) allNil)))))⟩
  ·skip
   refine WP.blk ?_
   refine WP.usreg Z ?_
   obtain ⟨x28, hx29, h30⟩ := bindS h22
   obtain ⟨b31, o32, c33, cs34, hv35, hf36, hr37, hc38⟩ := f2.at hx29
   obtain ⟨v39, rfl, f40⟩ := hr37
   refine U.p Z Z (.inl Z) (S.index Z ((L 3 Z Z).trans hv35) (L 5 Z Z) Try.underlying22 ti29 (ix_ge hx29) (ix_lt hx29)) ?_
   refine U.k Z Z (.inl Z) (S.loadN (cs := [.int .i64 x28.op, .int .i64 x28.d, .int .i64 x28.a, .int .i64 x28.b, .int .i64 x28.imm, v39, .int .i64 x28.what, .bool x28.volatile, .bool x28.final]) Z (L 0 Z Z) Try.underlying29 Z ti29 Z (fun j v hj => (le5.trans le14).cell hf36 (hc38 j v hj))) nd ?_
   refine O.alloc ow15 Z Z (.inl Z) Z ti29 Z Z nd (fun b41 V42 le43 ow44 => ?_)
   refine O.store (k := 0) (cs := [.int .i64 x28.op, .int .i64 x28.d, .int .i64 x28.a, .int .i64 x28.b, .int .i64 x28.imm, v39, .int .i64 x28.what, .bool x28.volatile, .bool x28.final]) (c' := [.int .i64 x28.op, .int .i64 x28.d, .int .i64 x28.a, .int .i64 x28.b, .int .i64 x28.imm, v39, .int .i64 x28.what, .bool x28.volatile, .bool x28.final]) ow44 Z Z Z (.inl Z) Z (L 0 Z Z) (L 1 Z Z) ti29 (by simp [topV]) Z Z (nr Z) (by have q0 := f40.one; simp only [List.all_cons, List.all_nil, q0]; rfl) Z nd (fun V46 le47 ow48 => ?_)
   refine U.done (nr Z) ?_
   refine WP.usreg Z ?_
   refine U.p (v := .pointer (some ⟨b41, 0, none⟩)) Z Z (.inl Z) (S.fieldAddr Z (L 0 Z Z) Try.underlying29 Z ti3 Z Z) ?_
   refine U.k Z Z (.inl Z) (S.load Z (L 0 Z Z) Try.underlying3 Z ((ow48.own (k := 0) Z).cell Z)) nd ?_
   refine U.p Z Z (.inl Z) (S.eqlI Z (L 0 Z Z) K) ?_
   refine U.p Z Z (.inl Z) (S.move Z (L 0 Z Z)) ?_
   refine U.joinX 9 (fun e H => ∃ (u49 u50 u51 u52 : Value), H = V46.H ∧ e = [(23, .bool ((decide (x28.op = 11)) && (decide (x28.imm = p1)))), (22, u49), (21, u50), (20, u51), (19, u52)]) ?_ ?_
   ·rintro _ _ ⟨u49, u50, u51, u52, rfl, rfl⟩
    refine U.done (nr Z) ?_
    refine WP.cond _ (L 0 Z Z) Z (fun c56 => ?_) (fun c56 => ?_)
    ·have h57 := ifT c56 h30
     refine WP.ureg Z ?_
     refine U.p Z Z (.inl Z) (S.move Z (L 14 Z Z)) ?_
     refine U.p Z Z (.inl Z) (S.add Z (L 0 Z Z) K) ?_
     refine U.p Z Z (.inl Z) (S.assign Z (L 0 Z Z)) ?_
     refine U.done (nr Z) ?_
     refine blkN (sqN ?_)
     have ow58 := ow48.drop 0 Z
     exact ⟨_, V46, Z, ⟨w64 (x8 + 1), Z, (le43.trans le47), ow58, h57⟩, (allCons (L 16 Z Z) (allCons (L 0 Z Z) (allCons (L 18 Z Z) (allCons (L 19 Z Z) (allCons (L 20 Z Z) allNil)))))⟩
    ·have h59 := ifF c56 h30
     refine WP.skip ?_
     refine blkN (sqN ?_)
     have ow60 := ow48.drop 0 Z
     exact ⟨_, V46, Z, ⟨x8, Z, (le43.trans le47), ow60, h59⟩, (allCons (L 13 Z Z) (allCons (L 14 Z Z) (allCons (L 15 Z Z) (allCons (L 16 Z Z) (allCons (L 17 Z Z) allNil)))))⟩
   ·intro kk
    refine bcase (b := decide (x28.op = 11)) (fun g61 => ?_) (fun g61 => ?_)
    ·skip
     refine U.p (v := .pointer (some ⟨b41, 4, none⟩)) Z Z (.inr ⟨_, _, _, Z, Z, ((L 0 Z Z).trans (cB g61))⟩) (S.fieldAddr Z (L 4 Z Z) Try.underlying29 Z ti3 Z Z) ?_
     refine U.k Z Z (.inr ⟨_, _, _, Z, Z, ((L 1 Z Z).trans (cB g61))⟩) (S.load Z (L 0 Z Z) Try.underlying3 Z ((ow48.own (k := 0) Z).cell Z)) nd ?_
     refine U.p Z Z (.inr ⟨_, _, _, Z, Z, ((L 2 Z Z).trans (cB g61))⟩) (S.move Z (L 10 Z Z)) ?_
     refine U.p Z Z (.inr ⟨_, _, _, Z, Z, ((L 3 Z Z).trans (cB g61))⟩) (S.eqlI Z (L 1 Z Z) (L 0 Z Z)) ?_
     refine U.p Z Z (.inl Z) (S.pickT Z ((L 4 Z Z).trans (cB g61)) (L 0 Z Z)) ?_
     exact kk [(23, .bool (decide (x28.imm = p1))), (22, .bool (decide (x28.imm = p1))), (21, .int .i64 p1), (20, .int .i64 x28.imm), (19, .pointer (some ⟨b41, 4, none⟩))] _ ⟨.bool (decide (x28.imm = p1)), .int .i64 p1, .int .i64 x28.imm, .pointer (some ⟨b41, 4, none⟩), Z, (by rw [g61, Bool.true_and])⟩
    ·skip
     refine U.x Z Z Z Z ((L 0 Z Z).trans (cB g61)) (by decide) ?_
     refine U.x Z Z Z Z ((L 1 Z Z).trans (cB g61)) (by decide) ?_
     refine U.x Z Z Z Z ((L 2 Z Z).trans (cB g61)) (by decide) ?_
     refine U.x Z Z Z Z ((L 3 Z Z).trans (cB g61)) (by decide) ?_
     refine U.p Z Z (.inl Z) (S.pickF Z ((L 4 Z Z).trans (cB g61)) K) ?_
     exact kk [(23, .bool false), (22, .tuple #[]), (21, .tuple #[]), (20, .tuple #[]), (19, .tuple #[])] _ ⟨.tuple #[], .tuple #[], .tuple #[], .tuple #[], Z, (by rw [g61, Bool.false_and])⟩
 ·have h62 := ifF c21 h20
  refine WP.exit ?_
  refine sqE (sqE (blkE (sqN ?_)))
  have h63 := exitS h62 e18
  refine WP.usreg Z ?_
  refine U.p Z Z (.inl Z) (S.move Z (L 2 Z Z)) ?_
  refine U.p Z Z (.inl Z) (S.assign Z (L 0 Z Z)) ?_
  refine U.done (nr Z) ?_
  refine WP.ret ?_
  refine fin.slot (.inr Z) Z (L 0 Z Z) ⟨V13, Z, (le5.trans le14), ?_⟩
  have e64 := Option.some.inj h63
  subst e64
  exact ⟨rfl, ow15⟩
theorem wk_ref08_ins (V : Vw) (Rs : List At) (p0 : TFunc) (p1 : TIns) (v1 : Value) (v3 : Value) (f2 : Fz RT_TIns V v1 p0.code) (f4 : Fz (RT.int .i64) V v3 p1.args) (ow : Ow V (Rs)) (r : Bool) (h : ref08_ins p0 p1 = some r) : ∃ v V', Cl Try.prog 0 14 #[.agg #[.string p0.name, .int .i64 p0.params, .int .i64 p0.regs, v1], .agg #[.int .i64 p1.op, .int .i64 p1.d, .int .i64 p1.a, .int .i64 p1.b, .int .i64 p1.imm, v3, .int .i64 p1.what, .bool p1.volatile, .bool p1.final]] V.H v V'.H ∧ V.le V' ∧ (v = .bool r ∧ Ow V' (Rs)) := by
 refine Ct.of (Nat.zero_le _) Try.func14 Z (nr Z) ?_
 unfold ref08_ins at h
 refine WP.usreg Z ?_
 refine O.box ow Z Z (.inl Z) Z (L 0 Z Z) (by simp [topV]) Z nd (fun b5 V6 le7 ow8 => ?_)
 refine O.box ow8 Z Z (.inl Z) Z (L 2 Z Z) (by simp [topV]) Z nd (fun b10 V11 le12 ow13 => ?_)
 refine U.p Z Z (.inl Z) (S.assign Z K) ?_
 refine U.done (nr Z) ?_
 refine WP.seq ?_
 refine WP.usreg Z ?_
 refine U.p (v := .pointer (some ⟨b10, 0, none⟩)) Z Z (.inl Z) (S.fieldAddr Z (L 1 Z Z) Try.underlying29 Z ti3 Z Z) ?_
 refine U.k Z Z (.inl Z) (S.load Z (L 0 Z Z) Try.underlying3 Z ((ow13.own (k := 0) Z).cell Z)) nd ?_
 refine U.p Z Z (.inl Z) (S.lss Z (L 0 Z Z) K) ?_
 refine U.p Z Z (.inl Z) (S.move Z (L 0 Z Z)) ?_
 refine U.joinX 8 (fun e H => ∃ (u15 u16 u17 : Value), H = V11.H ∧ e = [(18, .bool ((decide (p1.op < 1)) || (decide (22 < p1.op)))), (17, u15), (16, u16), (15, u17)]) ?_ ?_
 ·rintro _ _ ⟨u15, u16, u17, rfl, rfl⟩
  refine U.done (nr Z) ?_
  refine WP.cond _ (L 0 Z Z) Z (fun c21 => ?_) (fun c21 => ?_)
  ·have h22 := ifT c21 h
   refine WP.usreg Z ?_
   refine U.p Z Z (.inl Z) (S.assign Z K) ?_
   refine U.done (nr Z) ?_
   refine WP.ret ?_
   refine sqR ?_
   refine fin.slot (.inr Z) Z (L 0 Z Z) ⟨V11, Z, (le7.trans le12), ?_⟩
   have ow23 := ow13.drop 0 Z
   have ow24 := ow23.drop 0 Z
   have e25 := Option.some.inj h22
   subst e25
   exact ⟨rfl, ow24⟩
  ·have h26 := ifF c21 h
   refine WP.skip ?_
   refine sqN ?_
   refine WP.usreg Z ?_
   refine U.p (v := .pointer (some ⟨b10, 0, none⟩)) Z Z (.inl Z) (S.fieldAddr Z (L 9 Z Z) Try.underlying29 Z ti3 Z Z) ?_
   refine U.k Z Z (.inl Z) (S.load Z (L 0 Z Z) Try.underlying3 Z ((ow13.own (k := 0) Z).cell Z)) nd ?_
   obtain ⟨x27, hx28, h29⟩ := bindS h26
   refine O.call (V := V11) Z Z (.inl Z) Z en24 (aC (L 0 Z Z) aN) (wk_ref08_has V11 _ p1.op ow13 _ hx28) (fun _ _ _ _ => nd) (fun v30 V31 le32 hp33 => ?_)
   obtain ⟨rfl, ow34⟩ := hp33
   refine U.p Z Z (.inl Z) (S.move Z (L 0 Z Z)) ?_
   refine U.p Z Z (.inl Z) (S.extract Z (L 0 Z Z) Z (nr Z)) ?_
   refine U.p Z Z (.inl Z) (S.extract Z (L 1 Z Z) Z (nr Z)) ?_
   refine U.p Z Z (.inl Z) (S.extract Z (L 2 Z Z) Z (nr Z)) ?_
   refine U.p Z Z (.inl Z) (S.extract Z (L 3 Z Z) Z (nr Z)) ?_
   refine U.p Z Z (.inl Z) (S.assign Z (L 3 Z Z)) ?_
   refine U.p Z Z (.inl Z) (S.assign Z (L 3 Z Z)) ?_
   refine U.p Z Z (.inl Z) (S.assign Z (L 3 Z Z)) ?_
   refine U.p Z Z (.inl Z) (S.assign Z (L 3 Z Z)) ?_
   refine U.done (nr Z) ?_
   refine WP.seqI (fun l V' => ∃ (x35 : Bool), l = [(2, .pointer (some ⟨b5, 0, none⟩)), (3, .pointer (some ⟨b10, 0, none⟩)), (5, .bool x27.1), (6, .bool x35), (7, .bool x27.2.2.1), (8, .bool x27.2.2.2)] ∧ V31.le V' ∧ Ow V' (.pt b5 (.cells 0 [.string p0.name, .int .i64 p0.params, .int .i64 p0.regs, v1]) :: .pt b10 (.cells 0 [.int .i64 p1.op, .int .i64 p1.d, .int .i64 p1.a, .int .i64 p1.b, .int .i64 p1.imm, v3, .int .i64 p1.what, .bool p1.volatile, .bool p1.final]) :: Rs) ∧ ref08_ins_k1 p0 p1 x27 x35 = some r) ?_ ?_
   ·rintro _ V36 ⟨x35, rfl, le37, ow38, h39⟩
    unfold ref08_ins_k1 at h39
    refine WP.seq ?_
    refine WP.usreg Z ?_
    refine U.p Z Z (.inl Z) (S.move Z (L 2 Z Z)) ?_
    refine U.p (v := .pointer (some ⟨b10, 0, none⟩)) Z Z (.inl Z) (S.fieldAddr Z (L 2 Z Z) Try.underlying29 Z ti3 Z Z) ?_
    refine U.k Z Z (.inl Z) (S.load Z (L 0 Z Z) Try.underlying3 Z ((ow38.own (k := 1) Z).cell Z)) nd ?_
    refine U.p Z Z (.inl Z) (S.eqlI Z (L 0 Z Z) K) ?_
    refine U.p (v := .pointer (some ⟨b10, 1, none⟩)) Z Z (.inl Z) (S.fieldAddr Z (L 5 Z Z) Try.underlying29 Z ti3 Z Z) ?_
    refine U.k Z Z (.inl Z) (S.load Z (L 0 Z Z) Try.underlying3 Z ((ow38.own (k := 1) Z).cell Z)) nd ?_
    refine U.p (v := .pointer (some ⟨b5, 2, none⟩)) Z Z (.inl Z) (S.fieldAddr Z (L 6 Z Z) Try.underlying24 Z ti3 Z Z) ?_
    refine U.k Z Z (.inl Z) (S.load Z (L 0 Z Z) Try.underlying3 Z ((ow38.own (k := 0) Z).cell Z)) nd ?_
    obtain ⟨x40, hx41, h42⟩ := bindS h39
    refine O.call (V := V36) Z Z (.inl Z) Z en25 (aC (L 7 Z Z) (aC (L 4 Z Z) (aC (L 2 Z Z) (aC (L 0 Z Z) aN)))) (wk_ref08_register V36 _ x27.1 (decide (p1.op = 14)) p1.d p0.regs ow38 _ hx41) (fun _ _ _ _ => nd) (fun v43 V44 le45 hp46 => ?_)
    obtain ⟨rfl, ow47⟩ := hp46
    refine U.p Z Z (.inl Z) (S.not Z (L 0 Z Z)) ?_
    refine U.p Z Z (.inl Z) (S.move Z (L 0 Z Z)) ?_
    obtain ⟨y48, hy49, h50⟩ := bindS h42
    refine U.joinX 32 (fun e H => ∃ (u51 u52 u53 u54 u55 u56 u57 u58 u59 u60 u61 u62 u63 u64 u65 u66 u67 u68 u69 u70 : Value), ∃ V' : Vw, H = V'.H ∧ V44.le V' ∧ e = [(72, .bool y48), (71, u51), (70, u52), (69, u53), (68, u54), (67, u55), (66, u56), (65, u57), (64, u58), (63, u59), (62, u60), (61, u61), (60, u62), (59, u63), (58, u64), (57, u65), (56, u66), (55, u67), (54, u68), (53, u69), (52, u70)] ∧ Ow V' (.pt b5 (.cells 0 [.string p0.name, .int .i64 p0.params, .int .i64 p0.regs, v1]) :: .pt b10 (.cells 0 [.int .i64 p1.op, .int .i64 p1.d, .int .i64 p1.a, .int .i64 p1.b, .int .i64 p1.imm, v3, .int .i64 p1.what, .bool p1.volatile, .bool p1.final]) :: Rs)) ?_ ?_
    ·rintro _ _ ⟨u51, u52, u53, u54, u55, u56, u57, u58, u59, u60, u61, u62, u63, u64, u65, u66, u67, u68, u69, u70, V71, rfl, le72, rfl, ow73⟩
     refine U.p Z Z (.inl Z) (S.move Z (L 0 Z Z)) ?_
     obtain ⟨y74, hy75, h76⟩ := bindS h50
     refine U.joinX 41 (fun e H => ∃ (u77 u78 u79 u80 u81 u82 u83 : Value), ∃ V' : Vw, H = V'.H ∧ V71.le V' ∧ e = [(81, .bool y74), (80, u77), (79, u78), (78, u79), (77, u80), (76, u81), (75, u82), (74, u83)] ∧ Ow V' (.pt b5 (.cells 0 [.string p0.name, .int .i64 p0.params, .int .i64 p0.regs, v1]) :: .pt b10 (.cells 0 [.int .i64 p1.op, .int .i64 p1.d, .int .i64 p1.a, .int .i64 p1.b, .int .i64 p1.imm, v3, .int .i64 p1.what, .bool p1.volatile, .bool p1.final]) :: Rs)) ?_ ?_
     ·rintro _ _ ⟨u77, u78, u79, u80, u81, u82, u83, V84, rfl, le85, rfl, ow86⟩
      refine U.done (nr Z) ?_
      refine WP.cond _ (L 0 Z Z) Z (fun c87 => ?_) (fun c87 => ?_)
      ·have h88 := ifT c87 h76
       refine WP.usreg Z ?_
       refine U.p Z Z (.inl Z) (S.assign Z K) ?_
       refine U.done (nr Z) ?_
       refine WP.ret ?_
       refine sqR ?_
       refine fin.slot (.inr Z) Z (L 0 Z Z) ⟨V84, Z, ((((((le7.trans le12).trans le32).trans le37).trans le45).trans le72).trans le85), ?_⟩
       have ow89 := ow86.drop 0 Z
       have ow90 := ow89.drop 0 Z
       have e91 := Option.some.inj h88
       subst e91
       exact ⟨rfl, ow90⟩
      ·have h92 := ifF c87 h76
       refine WP.skip ?_
       refine sqN ?_
       refine WP.seq ?_
       refine WP.usreg Z ?_
       refine U.p (v := .pointer (some ⟨b10, 5, none⟩)) Z Z (.inl Z) (S.fieldAddr Z (L 42 Z Z) Try.underlying29 Z ti27 Z Z) ?_
       refine U.k Z Z (.inl Z) (S.load Z (L 0 Z Z) Try.underlying27 Z ((ow86.own (k := 1) Z).cell Z)) nd ?_
       refine U.p Z Z (.inl Z) (f4.1.len Z (L 0 Z Z) Try.underlying27) ?_
       refine U.p Z Z (.inl Z) (S.move Z K) ?_
       refine U.done (nr Z) ?_
       refine WP.blk ?_
       unfold ref08_ins_l1 at h92
       obtain ⟨n95, hn94⟩ := loopO_some.1 h92
       refine WP.loopI2 (fun n l V' => ∃ (x93 : Int), l = [(2, .pointer (some ⟨b5, 0, none⟩)), (3, .pointer (some ⟨b10, 0, none⟩)), (8, .bool x27.2.2.2), (83, v3), (84, .int .i64 (p1.args.length : Int)), (85, .int .i64 x93)] ∧ V84.le V' ∧ Ow V' (.pt b5 (.cells 0 [.string p0.name, .int .i64 p0.params, .int .i64 p0.regs, v1]) :: .pt b10 (.cells 0 [.int .i64 p1.op, .int .i64 p1.d, .int .i64 p1.a, .int .i64 p1.b, .int .i64 p1.imm, v3, .int .i64 p1.what, .bool p1.volatile, .bool p1.final]) :: Rs) ∧ itO (fun s => ref08_ins_l1b p0 p1 x27 s) n x93 = some r) n95 _ ⟨0, Z, .refl _, ow86, hn94⟩ (allCons (L 45 Z Z) (allCons (L 46 Z Z) (allCons (L 50 Z Z) (allCons (L 2 Z Z) (allCons (L 1 Z Z) (allCons (L 0 Z Z) allNil)))))) ?_
       rintro _ _ V96 ⟨x93, rfl, le97, ow98, h102⟩
       obtain ⟨m99, q100, rfl, h103, e101⟩ := itS h102
       replace h103 : ref08_ins_l1b p0 p1 x27 x93 = some q100 := h103
       unfold ref08_ins_l1b at h103
       refine WP.usreg Z ?_
       refine U.p Z Z (.inl Z) (S.lss Z (L 5 Z Z) (L 4 Z Z)) ?_
       refine U.done (nr Z) ?_
       refine WP.seq ?_
       refine WP.cond _ (L 0 Z Z) Z (fun c104 => ?_) (fun c104 => ?_)
       ·have h105 := ifT c104 h103
        refine WP.skip ?_
        refine sqN ?_
        refine WP.seq ?_
        refine WP.blk ?_
        refine WP.usreg Z ?_
        obtain ⟨x106, hx107, h108⟩ := bindS h105
        obtain ⟨b109, o110, c111, cs112, hv113, hf114, hr115, hc116⟩ := f4.at hx107
        obtain rfl : cs112 = [.int .i64 x106] := hr115
        refine U.p Z Z (.inl Z) (S.index Z ((L 4 Z Z).trans hv113) (L 6 Z Z) Try.underlying27 ti3 (ix_ge hx107) (ix_lt hx107)) ?_
        refine U.k Z Z (.inl Z) (S.load Z (L 0 Z Z) Try.underlying3 Z ((((((((le7.trans le12).trans le32).trans le37).trans le45).trans le72).trans le85).trans le97).cell hf114 (hc116 0 _ Z))) nd ?_
        refine U.p Z Z (.inl Z) (S.assign Z (L 0 Z Z)) ?_
        refine U.done (nr Z) ?_
        refine WP.usreg Z ?_
        refine U.p (v := .pointer (some ⟨b10, 0, none⟩)) Z Z (.inl Z) (S.fieldAddr Z (L 5 Z Z) Try.underlying29 Z ti3 Z Z) ?_
        refine U.k Z Z (.inl Z) (S.load Z (L 0 Z Z) Try.underlying3 Z ((ow98.own (k := 1) Z).cell Z)) nd ?_
        refine U.p Z Z (.inl Z) (S.neqI Z (L 0 Z Z) K) ?_
        refine U.p Z Z (.inl Z) (S.move Z (L 0 Z Z)) ?_
        refine U.joinX 7 (fun e H => ∃ (u117 u118 : Value), H = V96.H ∧ e = [(95, .bool ((decide (p1.op ≠ 14)) || (decide (x106 < 0)))), (94, u117), (93, u118)]) ?_ ?_
        ·rintro _ _ ⟨u117, u118, rfl, rfl⟩
         refine U.p Z Z (.inl Z) (S.move Z (L 0 Z Z)) ?_
         refine U.joinX 13 (fun e H => ∃ (u122 u123 u124 u125 : Value), H = V96.H ∧ e = [(101, .bool (((decide (p1.op ≠ 14)) || (decide (x106 < 0))) || (decide (p0.regs ≤ x106)))), (100, u122), (99, u123), (98, u124), (97, u125)]) ?_ ?_
         ·rintro _ _ ⟨u122, u123, u124, u125, rfl, rfl⟩
          refine U.done (nr Z) ?_
          refine WP.cond _ (L 0 Z Z) Z (fun c129 => ?_) (fun c129 => ?_)
          ·have h130 := ifT c129 h108
           refine WP.usreg Z ?_
           refine U.p Z Z (.inl Z) (S.assign Z K) ?_
           refine U.done (nr Z) ?_
           refine WP.ret ?_
           refine blkR (sqR (sqR (blkR (sqR ?_))))
           have h131 := exitS h130 e101
           refine fin.slot (.inr Z) Z (L 0 Z Z) ⟨V96, Z, (((((((le7.trans le12).trans le32).trans le37).trans le45).trans le72).trans le85).trans le97), ?_⟩
           have ow132 := ow98.drop 0 Z
           have ow133 := ow132.drop 0 Z
           have e134 := Option.some.inj h131
           subst e134
           exact ⟨rfl, ow133⟩
          ·have h135 := ifF c129 h108
           refine WP.skip ?_
           refine blkN (sqN ?_)
           refine WP.ureg Z ?_
           refine U.p Z Z (.inl Z) (S.add Z (L 22 Z Z) K) ?_
           refine U.p Z Z (.inl Z) (S.move Z (L 0 Z Z)) ?_
           refine U.done (nr Z) ?_
           refine sqN ?_
           exact ⟨_, V96, Z, ⟨m99, Nat.lt_succ_self _, w64 (x93 + 1), Z, le97, ow98, backS h135 e101⟩, (allCons (L 19 Z Z) (allCons (L 20 Z Z) (allCons (L 21 Z Z) (allCons (L 22 Z Z) (allCons (L 23 Z Z) (allCons (L 0 Z Z) allNil))))))⟩
         ·intro kk
          refine bcase (b := (decide (p1.op ≠ 14)) || (decide (x106 < 0))) (fun g136 => ?_) (fun g136 => ?_)
          ·skip
           refine U.x Z Z Z Z ((L 0 Z Z).trans (cB g136)) (by decide) ?_
           refine U.x Z Z Z Z ((L 1 Z Z).trans (cB g136)) (by decide) ?_
           refine U.x Z Z Z Z ((L 2 Z Z).trans (cB g136)) (by decide) ?_
           refine U.x Z Z Z Z ((L 3 Z Z).trans (cB g136)) (by decide) ?_
           refine U.p Z Z (.inl Z) (S.pickT Z ((L 4 Z Z).trans (cB g136)) K) ?_
           exact kk [(101, .bool true), (100, .tuple #[]), (99, .tuple #[]), (98, .tuple #[]), (97, .tuple #[])] _ ⟨.tuple #[], .tuple #[], .tuple #[], .tuple #[], Z, (by rw [g136, Bool.true_or])⟩
          ·skip
           refine U.p Z Z (.inr ⟨_, _, _, Z, Z, ((L 0 Z Z).trans (cB g136))⟩) (S.move Z (L 8 Z Z)) ?_
           refine U.p (v := .pointer (some ⟨b5, 2, none⟩)) Z Z (.inr ⟨_, _, _, Z, Z, ((L 1 Z Z).trans (cB g136))⟩) (S.fieldAddr Z (L 13 Z Z) Try.underlying24 Z ti3 Z Z) ?_
           refine U.k Z Z (.inr ⟨_, _, _, Z, Z, ((L 2 Z Z).trans (cB g136))⟩) (S.load Z (L 0 Z Z) Try.underlying3 Z ((ow98.own (k := 0) Z).cell Z)) nd ?_
           refine U.p Z Z (.inr ⟨_, _, _, Z, Z, ((L 3 Z Z).trans (cB g136))⟩) (S.geq Z (L 2 Z Z) (L 0 Z Z)) ?_
           refine U.p Z Z (.inl Z) (S.pickF Z ((L 4 Z Z).trans (cB g136)) (L 0 Z Z)) ?_
           exact kk [(101, .bool (decide (p0.regs ≤ x106))), (100, .bool (decide (p0.regs ≤ x106))), (99, .int .i64 p0.regs), (98, .pointer (some ⟨b5, 2, none⟩)), (97, .int .i64 x106)] _ ⟨.bool (decide (p0.regs ≤ x106)), .int .i64 p0.regs, .pointer (some ⟨b5, 2, none⟩), .int .i64 x106, Z, (by rw [g136, Bool.false_or])⟩
        ·intro kk
         refine bcase (b := decide (p1.op ≠ 14)) (fun g137 => ?_) (fun g137 => ?_)
         ·skip
          refine U.x Z Z Z Z ((L 0 Z Z).trans (cB g137)) (by decide) ?_
          refine U.x Z Z Z Z ((L 1 Z Z).trans (cB g137)) (by decide) ?_
          refine U.p Z Z (.inl Z) (S.pickT Z ((L 2 Z Z).trans (cB g137)) K) ?_
          exact kk [(95, .bool true), (94, .tuple #[]), (93, .tuple #[])] _ ⟨.tuple #[], .tuple #[], Z, (by rw [g137, Bool.true_or])⟩
         ·skip
          refine U.p Z Z (.inr ⟨_, _, _, Z, Z, ((L 0 Z Z).trans (cB g137))⟩) (S.move Z (L 4 Z Z)) ?_
          refine U.p Z Z (.inr ⟨_, _, _, Z, Z, ((L 1 Z Z).trans (cB g137))⟩) (S.lss Z (L 0 Z Z) K) ?_
          refine U.p Z Z (.inl Z) (S.pickF Z ((L 2 Z Z).trans (cB g137)) (L 0 Z Z)) ?_
          exact kk [(95, .bool (decide (x106 < 0))), (94, .bool (decide (x106 < 0))), (93, .int .i64 x106)] _ ⟨.bool (decide (x106 < 0)), .int .i64 x106, Z, (by rw [g137, Bool.false_or])⟩
       ·have h138 := ifF c104 h103
        refine WP.exit ?_
        refine sqE (sqE (blkE (sqN ?_)))
        have h139 := exitS h138 e101
        refine WP.seq ?_
        refine WP.usreg Z ?_
        refine U.p (v := .pointer (some ⟨b10, 0, none⟩)) Z Z (.inl Z) (S.fieldAddr Z (L 2 Z Z) Try.underlying29 Z ti3 Z Z) ?_
        refine U.k Z Z (.inl Z) (S.load Z (L 0 Z Z) Try.underlying3 Z ((ow98.own (k := 1) Z).cell Z)) nd ?_
        refine U.p Z Z (.inl Z) (S.neqI Z (L 0 Z Z) K) ?_
        refine U.p Z Z (.inl Z) (S.move Z (L 0 Z Z)) ?_
        refine U.joinX 8 (fun e H => ∃ (u140 u141 u142 : Value), H = V96.H ∧ e = [(110, .bool ((decide (p1.op ≠ 9)) && (decide (p1.op ≠ 10)))), (109, u140), (108, u141), (107, u142)]) ?_ ?_
        ·rintro _ _ ⟨u140, u141, u142, rfl, rfl⟩
         refine U.p Z Z (.inl Z) (S.move Z (L 0 Z Z)) ?_
         refine U.joinX 21 (fun e H => ∃ (u146 u147 u148 u149 u150 u151 u152 u153 u154 u155 u156 : Value), H = V96.H ∧ e = [(123, .bool (((decide (p1.op ≠ 9)) && (decide (p1.op ≠ 10))) && (((decide (p1.what ≠ 0)) || p1.volatile) || p1.final))), (122, u146), (121, u147), (120, u148), (119, u149), (118, u150), (117, u151), (116, u152), (115, u153), (114, u154), (113, u155), (112, u156)]) ?_ ?_
         ·rintro _ _ ⟨u146, u147, u148, u149, u150, u151, u152, u153, u154, u155, u156, rfl, rfl⟩
          refine U.done (nr Z) ?_
          refine WP.cond _ (L 0 Z Z) Z (fun c160 => ?_) (fun c160 => ?_)
          ·have h161 := ifT c160 h139
           refine WP.usreg Z ?_
           refine U.p Z Z (.inl Z) (S.assign Z K) ?_
           refine U.done (nr Z) ?_
           refine WP.ret ?_
           refine sqR ?_
           refine fin.slot (.inr Z) Z (L 0 Z Z) ⟨V96, Z, (((((((le7.trans le12).trans le32).trans le37).trans le45).trans le72).trans le85).trans le97), ?_⟩
           have ow162 := ow98.drop 0 Z
           have ow163 := ow162.drop 0 Z
           have e164 := Option.some.inj h161
           subst e164
           exact ⟨rfl, ow163⟩
          ·have h165 := ifF c160 h139
           refine WP.skip ?_
           refine sqN ?_
           refine WP.seq ?_
           refine WP.usreg Z ?_
           refine U.p (v := .pointer (some ⟨b10, 0, none⟩)) Z Z (.inl Z) (S.fieldAddr Z (L 23 Z Z) Try.underlying29 Z ti3 Z Z) ?_
           refine U.k Z Z (.inl Z) (S.load Z (L 0 Z Z) Try.underlying3 Z ((ow98.own (k := 1) Z).cell Z)) nd ?_
           refine U.done (nr Z) ?_
           refine WP.blk ?_
           refine WP.seqI (fun l V' => ∃ (x166 : Bool), l = [(2, .pointer (some ⟨b5, 0, none⟩)), (3, .pointer (some ⟨b10, 0, none⟩)), (8, .bool x27.2.2.2), (125, .int .i64 p1.op), (126, .bool x166)] ∧ V96.le V' ∧ Ow V' (.pt b5 (.cells 0 [.string p0.name, .int .i64 p0.params, .int .i64 p0.regs, v1]) :: .pt b10 (.cells 0 [.int .i64 p1.op, .int .i64 p1.d, .int .i64 p1.a, .int .i64 p1.b, .int .i64 p1.imm, v3, .int .i64 p1.what, .bool p1.volatile, .bool p1.final]) :: Rs) ∧ ref08_ins_k2 p0 p1 x27 x166 = some r) ?_ ?_
           ·rintro _ V167 ⟨x166, rfl, le168, ow169, h170⟩
            unfold ref08_ins_k2 at h170
            refine WP.cond _ (L 4 Z Z) Z (fun c171 => ?_) (fun c171 => ?_)
            ·have h172 := ifT c171 h170
             refine WP.usreg Z ?_
             refine U.p Z Z (.inl Z) (S.assign Z K) ?_
             refine U.done (nr Z) ?_
             refine WP.ret ?_
             refine blkR (sqR ?_)
             refine fin.slot (.inr Z) Z (L 0 Z Z) ⟨V167, Z, ((((((((le7.trans le12).trans le32).trans le37).trans le45).trans le72).trans le85).trans le97).trans le168), ?_⟩
             have ow173 := ow169.drop 0 Z
             have ow174 := ow173.drop 0 Z
             have e175 := Option.some.inj h172
             subst e175
             exact ⟨rfl, ow174⟩
            ·have h176 := ifF c171 h170
             refine WP.usreg Z ?_
             refine U.p Z Z (.inl Z) (S.eqlI Z (L 3 Z Z) K) ?_
             refine U.p Z Z (.inl Z) (S.assign Z (L 0 Z Z)) ?_
             refine U.done (nr Z) ?_
             refine WP.cond _ (L 0 Z Z) Z (fun c177 => ?_) (fun c177 => ?_)
             ·have h178 := ifT c177 h176
              refine WP.usreg Z ?_
              refine U.p (v := .pointer (some ⟨b10, 4, none⟩)) Z Z (.inl Z) (S.fieldAddr Z (L 3 Z Z) Try.underlying29 Z ti3 Z Z) ?_
              refine U.k Z Z (.inl Z) (S.load Z (L 0 Z Z) Try.underlying3 Z ((ow169.own (k := 1) Z).cell Z)) nd ?_
              refine U.p Z Z (.inl Z) (S.gtr Z (L 0 Z Z) K) ?_
              refine U.p Z Z (.inl Z) (S.assign Z (L 0 Z Z)) ?_
              refine U.done (nr Z) ?_
              refine WP.ret ?_
              refine blkR (sqR ?_)
              refine fin.slot (.inr Z) Z (L 0 Z Z) ⟨V167, Z, ((((((((le7.trans le12).trans le32).trans le37).trans le45).trans le72).trans le85).trans le97).trans le168), ?_⟩
              have ow179 := ow169.drop 0 Z
              have ow180 := ow179.drop 0 Z
              have e181 := Option.some.inj h178
              subst e181
              exact ⟨rfl, ow180⟩
             ·have h182 := ifF c177 h176
              refine WP.usreg Z ?_
              refine U.p Z Z (.inl Z) (S.eqlI Z (L 5 Z Z) K) ?_
              refine U.p Z Z (.inl Z) (S.assign Z (L 0 Z Z)) ?_
              refine U.done (nr Z) ?_
              refine WP.cond _ (L 0 Z Z) Z (fun c183 => ?_) (fun c183 => ?_)
              ·have h184 := ifT c183 h182
               refine WP.usreg Z ?_
               refine U.p (v := .pointer (some ⟨b10, 4, none⟩)) Z Z (.inl Z) (S.fieldAddr Z (L 5 Z Z) Try.underlying29 Z ti3 Z Z) ?_
               refine U.k Z Z (.inl Z) (S.load Z (L 0 Z Z) Try.underlying3 Z ((ow169.own (k := 1) Z).cell Z)) nd ?_
               refine U.p Z Z (.inl Z) (S.eqlI Z (L 0 Z Z) K) ?_
               refine U.p Z Z (.inl Z) (S.move Z (L 0 Z Z)) ?_
               refine U.joinX 8 (fun e H => ∃ (u185 u186 u187 : Value), H = V167.H ∧ e = [(146, .bool ((decide (p1.imm = 0)) || (decide (p1.imm = 1)))), (145, u185), (144, u186), (143, u187)]) ?_ ?_
               ·rintro _ _ ⟨u185, u186, u187, rfl, rfl⟩
                refine U.p Z Z (.inl Z) (S.assign Z (L 0 Z Z)) ?_
                refine U.done (nr Z) ?_
                refine WP.ret ?_
                refine blkR (sqR ?_)
                refine fin.slot (.inr Z) Z (L 0 Z Z) ⟨V167, Z, ((((((((le7.trans le12).trans le32).trans le37).trans le45).trans le72).trans le85).trans le97).trans le168), ?_⟩
                have ow191 := ow169.drop 0 Z
                have ow192 := ow191.drop 0 Z
                have e193 := Option.some.inj h184
                subst e193
                exact ⟨rfl, ow192⟩
               ·intro kk
                refine bcase (b := decide (p1.imm = 0)) (fun g194 => ?_) (fun g194 => ?_)
                ·skip
                 refine U.x Z Z Z Z ((L 0 Z Z).trans (cB g194)) (by decide) ?_
                 refine U.x Z Z Z Z ((L 1 Z Z).trans (cB g194)) (by decide) ?_
                 refine U.x Z Z Z Z ((L 2 Z Z).trans (cB g194)) (by decide) ?_
                 refine U.p Z Z (.inl Z) (S.pickT Z ((L 3 Z Z).trans (cB g194)) K) ?_
                 exact kk [(146, .bool true), (145, .tuple #[]), (144, .tuple #[]), (143, .tuple #[])] _ ⟨.tuple #[], .tuple #[], .tuple #[], Z, (by rw [g194, Bool.true_or])⟩
                ·skip
                 refine U.p (v := .pointer (some ⟨b10, 4, none⟩)) Z Z (.inr ⟨_, _, _, Z, Z, ((L 0 Z Z).trans (cB g194))⟩) (S.fieldAddr Z (L 9 Z Z) Try.underlying29 Z ti3 Z Z) ?_
                 refine U.k Z Z (.inr ⟨_, _, _, Z, Z, ((L 1 Z Z).trans (cB g194))⟩) (S.load Z (L 0 Z Z) Try.underlying3 Z ((ow169.own (k := 1) Z).cell Z)) nd ?_
                 refine U.p Z Z (.inr ⟨_, _, _, Z, Z, ((L 2 Z Z).trans (cB g194))⟩) (S.eqlI Z (L 0 Z Z) K) ?_
                 refine U.p Z Z (.inl Z) (S.pickF Z ((L 3 Z Z).trans (cB g194)) (L 0 Z Z)) ?_
                 exact kk [(146, .bool (decide (p1.imm = 1))), (145, .bool (decide (p1.imm = 1))), (144, .int .i64 p1.imm), (143, .pointer (some ⟨b10, 4, none⟩))] _ ⟨.bool (decide (p1.imm = 1)), .int .i64 p1.imm, .pointer (some ⟨b10, 4, none⟩), Z, (by rw [g194, Bool.false_or])⟩
              ·have h195 := ifF c183 h182
               refine WP.skip ?_
               refine blkN (sqN ?_)
               refine WP.seq ?_
               refine WP.usreg Z ?_
               refine U.p Z Z (.inl Z) (S.move Z (L 6 Z Z)) ?_
               refine U.done (nr Z) ?_
               refine WP.cond _ (L 0 Z Z) Z (fun c196 => ?_) (fun c196 => ?_)
               ·have h197 := ifT c196 h195
                refine WP.usreg Z ?_
                refine U.k Z Z (.inl Z) (S.loadB Z (L 5 Z Z) Try.underlying24 Z ti24 (ow169.own (k := 0) Z).get Z) nd ?_
                refine U.p (v := .pointer (some ⟨b10, 4, none⟩)) Z Z (.inl Z) (S.fieldAddr Z (L 7 Z Z) Try.underlying29 Z ti3 Z Z) ?_
                refine U.k Z Z (.inl Z) (S.load Z (L 0 Z Z) Try.underlying3 Z ((ow169.own (k := 1) Z).cell Z)) nd ?_
                have f198 := f2.up ((((((((le7.trans le12).trans le32).trans le37).trans le45).trans le72).trans le85).trans le97).trans le168)
                obtain ⟨x199, hx200, h201⟩ := bindS h197
                refine O.call (V := V167) Z Z (.inl Z) Z en15 (aC (L 2 Z Z) (aC (L 0 Z Z) aN)) (wk_ref08_count V167 _ p0 p1.imm v1 f198 ow169 _ hx200) (fun _ _ _ _ => nd) (fun v202 V203 le204 hp205 => ?_)
                obtain ⟨rfl, ow206⟩ := hp205
                refine U.p Z Z (.inl Z) (S.gtr Z (L 0 Z Z) K) ?_
                refine U.p Z Z (.inl Z) (S.assign Z (L 0 Z Z)) ?_
                refine U.done (nr Z) ?_
                refine WP.ret ?_
                refine sqR ?_
                refine fin.slot (.inr Z) Z (L 0 Z Z) ⟨V203, Z, (((((((((le7.trans le12).trans le32).trans le37).trans le45).trans le72).trans le85).trans le97).trans le168).trans le204), ?_⟩
                have ow207 := ow206.drop 0 Z
                have ow208 := ow207.drop 0 Z
                have e209 := Option.some.inj h201
                subst e209
                exact ⟨rfl, ow208⟩
               ·have h210 := ifF c196 h195
                refine WP.skip ?_
                refine sqN ?_
                refine WP.usreg Z ?_
                refine U.p (v := .pointer (some ⟨b10, 4, none⟩)) Z Z (.inl Z) (S.fieldAddr Z (L 6 Z Z) Try.underlying29 Z ti3 Z Z) ?_
                refine U.k Z Z (.inl Z) (S.load Z (L 0 Z Z) Try.underlying3 Z ((ow169.own (k := 1) Z).cell Z)) nd ?_
                refine U.p Z Z (.inl Z) (S.eqlI Z (L 0 Z Z) K) ?_
                refine U.p Z Z (.inl Z) (S.assign Z (L 0 Z Z)) ?_
                refine U.done (nr Z) ?_
                refine WP.ret ?_
                refine fin.slot (.inr Z) Z (L 0 Z Z) ⟨V167, Z, ((((((((le7.trans le12).trans le32).trans le37).trans le45).trans le72).trans le85).trans le97).trans le168), ?_⟩
                have ow211 := ow169.drop 0 Z
                have ow212 := ow211.drop 0 Z
                have e213 := Option.some.inj h210
                subst e213
                exact ⟨rfl, ow212⟩
           ·skip
            refine WP.usreg Z ?_
            refine U.p Z Z (.inl Z) (S.eqlI Z (L 0 Z Z) K) ?_
            refine U.p Z Z (.inl Z) (S.assign Z (L 0 Z Z)) ?_
            refine U.done (nr Z) ?_
            refine WP.cond _ (L 0 Z Z) Z (fun c214 => ?_) (fun c214 => ?_)
            ·have h215 := ifT c214 h165
             refine WP.skip ?_
             refine sqN ?_
             exact ⟨_, V96, Z, ⟨true, Z, (.refl _), ow98, h215⟩, (allCons (L 26 Z Z) (allCons (L 27 Z Z) (allCons (L 28 Z Z) (allCons (L 2 Z Z) (allCons ((L 0 Z Z).trans (cB c214)) allNil)))))⟩
            ·have h216 := ifF c214 h165
             refine WP.usreg Z ?_
             refine U.p Z Z (.inl Z) (S.eqlI Z (L 2 Z Z) K) ?_
             refine U.p Z Z (.inl Z) (S.assign Z (L 0 Z Z)) ?_
             refine U.done (nr Z) ?_
             refine WP.cond _ (L 0 Z Z) Z (fun c217 => ?_) (fun c217 => ?_)
             ·have h218 := ifT c217 h216
              refine WP.skip ?_
              refine sqN ?_
              exact ⟨_, V96, Z, ⟨true, Z, (.refl _), ow98, h218⟩, (allCons (L 28 Z Z) (allCons (L 29 Z Z) (allCons (L 30 Z Z) (allCons (L 4 Z Z) (allCons ((L 0 Z Z).trans (cB c217)) allNil)))))⟩
             ·have h219 := ifF c217 h216
              refine WP.usreg Z ?_
              refine U.p Z Z (.inl Z) (S.eqlI Z (L 4 Z Z) K) ?_
              refine U.p Z Z (.inl Z) (S.assign Z (L 0 Z Z)) ?_
              refine U.done (nr Z) ?_
              refine WP.cond _ (L 0 Z Z) Z (fun c220 => ?_) (fun c220 => ?_)
              ·have h221 := ifT c220 h219
               refine WP.skip ?_
               refine sqN ?_
               exact ⟨_, V96, Z, ⟨true, Z, (.refl _), ow98, h221⟩, (allCons (L 30 Z Z) (allCons (L 31 Z Z) (allCons (L 32 Z Z) (allCons (L 6 Z Z) (allCons ((L 0 Z Z).trans (cB c220)) allNil)))))⟩
              ·have h222 := ifF c220 h219
               refine WP.usreg Z ?_
               refine U.p Z Z (.inl Z) (S.eqlI Z (L 6 Z Z) K) ?_
               refine U.p Z Z (.inl Z) (S.assign Z (L 0 Z Z)) ?_
               refine U.done (nr Z) ?_
               refine WP.cond _ (L 0 Z Z) Z (fun c223 => ?_) (fun c223 => ?_)
               ·have h224 := ifT c223 h222
                refine WP.skip ?_
                refine sqN ?_
                exact ⟨_, V96, Z, ⟨true, Z, (.refl _), ow98, h224⟩, (allCons (L 32 Z Z) (allCons (L 33 Z Z) (allCons (L 34 Z Z) (allCons (L 8 Z Z) (allCons ((L 0 Z Z).trans (cB c223)) allNil)))))⟩
               ·have h225 := ifF c223 h222
                refine WP.ureg Z ?_
                refine U.p Z Z (.inl Z) (S.eqlI Z (L 8 Z Z) K) ?_
                refine U.p Z Z (.inl Z) (S.assign Z (L 0 Z Z)) ?_
                refine U.done (nr Z) ?_
                refine sqN ?_
                exact ⟨_, V96, Z, ⟨decide (p1.op = 21), Z, (.refl _), ow98, h225⟩, (allCons (L 34 Z Z) (allCons (L 35 Z Z) (allCons (L 36 Z Z) (allCons (L 10 Z Z) (allCons (L 0 Z Z) allNil)))))⟩
         ·intro kk
          refine bcase (b := (decide (p1.op ≠ 9)) && (decide (p1.op ≠ 10))) (fun g226 => ?_) (fun g226 => ?_)
          ·skip
           refine U.p (v := .pointer (some ⟨b10, 6, none⟩)) Z Z (.inr ⟨_, _, _, Z, Z, ((L 0 Z Z).trans (cB g226))⟩) (S.fieldAddr Z (L 11 Z Z) Try.underlying29 Z ti3 Z Z) ?_
           refine U.k Z Z (.inr ⟨_, _, _, Z, Z, ((L 1 Z Z).trans (cB g226))⟩) (S.load Z (L 0 Z Z) Try.underlying3 Z ((ow98.own (k := 1) Z).cell Z)) nd ?_
           refine U.p Z Z (.inr ⟨_, _, _, Z, Z, ((L 2 Z Z).trans (cB g226))⟩) (S.neqI Z (L 0 Z Z) K) ?_
           refine U.p Z Z (.inr ⟨_, _, _, Z, Z, ((L 3 Z Z).trans (cB g226))⟩) (S.move Z (L 0 Z Z)) ?_
           refine U.joinX 16 (fun e H => ∃ (u227 u228 : Value), H = V96.H ∧ e = [(118, .bool ((decide (p1.what ≠ 0)) || p1.volatile)), (117, u227), (116, u228)]) ?_ ?_
           ·rintro _ _ ⟨u227, u228, rfl, rfl⟩
            refine U.p Z Z (.inr ⟨_, _, _, Z, Z, ((L 7 Z Z).trans (cB g226))⟩) (S.move Z (L 0 Z Z)) ?_
            refine U.joinX 20 (fun e H => ∃ (u232 u233 : Value), H = V96.H ∧ e = [(122, .bool (((decide (p1.what ≠ 0)) || p1.volatile) || p1.final)), (121, u232), (120, u233)]) ?_ ?_
            ·rintro _ _ ⟨u232, u233, rfl, rfl⟩
             refine U.p Z Z (.inl Z) (S.pickT Z ((L 11 Z Z).trans (cB g226)) (L 0 Z Z)) ?_
             exact kk [(123, .bool (((decide (p1.what ≠ 0)) || p1.volatile) || p1.final)), (122, .bool (((decide (p1.what ≠ 0)) || p1.volatile) || p1.final)), (121, u232), (120, u233), (119, .bool ((decide (p1.what ≠ 0)) || p1.volatile)), (118, .bool ((decide (p1.what ≠ 0)) || p1.volatile)), (117, u227), (116, u228), (115, .bool (decide (p1.what ≠ 0))), (114, .bool (decide (p1.what ≠ 0))), (113, .int .i64 p1.what), (112, .pointer (some ⟨b10, 6, none⟩))] _ ⟨.bool (((decide (p1.what ≠ 0)) || p1.volatile) || p1.final), u232, u233, .bool ((decide (p1.what ≠ 0)) || p1.volatile), .bool ((decide (p1.what ≠ 0)) || p1.volatile), u227, u228, .bool (decide (p1.what ≠ 0)), .bool (decide (p1.what ≠ 0)), .int .i64 p1.what, .pointer (some ⟨b10, 6, none⟩), Z, (by rw [g226, Bool.true_and])⟩
            ·intro kk
             refine bcase (b := (decide (p1.what ≠ 0)) || p1.volatile) (fun g237 => ?_) (fun g237 => ?_)
             ·skip
              refine U.x Z Z Z Z ((L 0 Z Z).trans (cB g237)) (by decide) ?_
              refine U.x Z Z Z Z ((L 1 Z Z).trans (cB g237)) (by decide) ?_
              refine U.p Z Z (.inr ⟨_, _, _, Z, Z, ((L 10 Z Z).trans (cB g226))⟩) (S.pickT Z ((L 2 Z Z).trans (cB g237)) K) ?_
              exact kk [(122, .bool true), (121, .tuple #[]), (120, .tuple #[])] _ ⟨.tuple #[], .tuple #[], Z, (by rw [g237, Bool.true_or])⟩
             ·skip
              refine U.p (v := .pointer (some ⟨b10, 8, none⟩)) Z Z (.inr ⟨_, _, _, Z, Z, ((L 0 Z Z).trans (cB g237))⟩) (S.fieldAddr Z (L 19 Z Z) Try.underlying29 Z ti4 Z Z) ?_
              refine U.k Z Z (.inr ⟨_, _, _, Z, Z, ((L 1 Z Z).trans (cB g237))⟩) (S.load Z (L 0 Z Z) Try.underlying4 Z ((ow98.own (k := 1) Z).cell Z)) nd ?_
              refine U.p Z Z (.inr ⟨_, _, _, Z, Z, ((L 10 Z Z).trans (cB g226))⟩) (S.pickF Z ((L 2 Z Z).trans (cB g237)) (L 0 Z Z)) ?_
              exact kk [(122, .bool p1.final), (121, .bool p1.final), (120, .pointer (some ⟨b10, 8, none⟩))] _ ⟨.bool p1.final, .pointer (some ⟨b10, 8, none⟩), Z, (by rw [g237, Bool.false_or])⟩
           ·intro kk
            refine bcase (b := decide (p1.what ≠ 0)) (fun g238 => ?_) (fun g238 => ?_)
            ·skip
             refine U.x Z Z Z Z ((L 0 Z Z).trans (cB g238)) (by decide) ?_
             refine U.x Z Z Z Z ((L 1 Z Z).trans (cB g238)) (by decide) ?_
             refine U.p Z Z (.inr ⟨_, _, _, Z, Z, ((L 6 Z Z).trans (cB g226))⟩) (S.pickT Z ((L 2 Z Z).trans (cB g238)) K) ?_
             exact kk [(118, .bool true), (117, .tuple #[]), (116, .tuple #[])] _ ⟨.tuple #[], .tuple #[], Z, (by rw [g238, Bool.true_or])⟩
            ·skip
             refine U.p (v := .pointer (some ⟨b10, 7, none⟩)) Z Z (.inr ⟨_, _, _, Z, Z, ((L 0 Z Z).trans (cB g238))⟩) (S.fieldAddr Z (L 15 Z Z) Try.underlying29 Z ti4 Z Z) ?_
             refine U.k Z Z (.inr ⟨_, _, _, Z, Z, ((L 1 Z Z).trans (cB g238))⟩) (S.load Z (L 0 Z Z) Try.underlying4 Z ((ow98.own (k := 1) Z).cell Z)) nd ?_
             refine U.p Z Z (.inr ⟨_, _, _, Z, Z, ((L 6 Z Z).trans (cB g226))⟩) (S.pickF Z ((L 2 Z Z).trans (cB g238)) (L 0 Z Z)) ?_
             exact kk [(118, .bool p1.volatile), (117, .bool p1.volatile), (116, .pointer (some ⟨b10, 7, none⟩))] _ ⟨.bool p1.volatile, .pointer (some ⟨b10, 7, none⟩), Z, (by rw [g238, Bool.false_or])⟩
          ·skip
           refine U.x Z Z Z Z ((L 0 Z Z).trans (cB g226)) (by decide) ?_
           refine U.x Z Z Z Z ((L 1 Z Z).trans (cB g226)) (by decide) ?_
           refine U.x Z Z Z Z ((L 2 Z Z).trans (cB g226)) (by decide) ?_
           refine U.x Z Z Z Z ((L 3 Z Z).trans (cB g226)) (by decide) ?_
           refine U.z Z Z Z Z (L 0 Z Z) ?_
           refine U.z Z Z Z Z (L 1 Z Z) ?_
           refine U.x Z Z Z Z ((L 6 Z Z).trans (cB g226)) (by decide) ?_
           refine U.x Z Z Z Z ((L 7 Z Z).trans (cB g226)) (by decide) ?_
           refine U.z Z Z Z Z (L 0 Z Z) ?_
           refine U.z Z Z Z Z (L 1 Z Z) ?_
           refine U.x Z Z Z Z ((L 10 Z Z).trans (cB g226)) (by decide) ?_
           refine U.p Z Z (.inl Z) (S.pickF Z ((L 11 Z Z).trans (cB g226)) K) ?_
           exact kk [(123, .bool false), (122, .tuple #[]), (121, .tuple #[]), (120, .tuple #[]), (119, .tuple #[]), (118, .tuple #[]), (117, .tuple #[]), (116, .tuple #[]), (115, .tuple #[]), (114, .tuple #[]), (113, .tuple #[]), (112, .tuple #[])] _ ⟨.tuple #[], .tuple #[], .tuple #[], .tuple #[], .tuple #[], .tuple #[], .tuple #[], .tuple #[], .tuple #[], .tuple #[], .tuple #[], Z, (by rw [g226, Bool.false_and])⟩
        ·intro kk
         refine bcase (b := decide (p1.op ≠ 9)) (fun g239 => ?_) (fun g239 => ?_)
         ·skip
          refine U.p (v := .pointer (some ⟨b10, 0, none⟩)) Z Z (.inr ⟨_, _, _, Z, Z, ((L 0 Z Z).trans (cB g239))⟩) (S.fieldAddr Z (L 6 Z Z) Try.underlying29 Z ti3 Z Z) ?_
          refine U.k Z Z (.inr ⟨_, _, _, Z, Z, ((L 1 Z Z).trans (cB g239))⟩) (S.load Z (L 0 Z Z) Try.underlying3 Z ((ow98.own (k := 1) Z).cell Z)) nd ?_
          refine U.p Z Z (.inr ⟨_, _, _, Z, Z, ((L 2 Z Z).trans (cB g239))⟩) (S.neqI Z (L 0 Z Z) K) ?_
          refine U.p Z Z (.inl Z) (S.pickT Z ((L 3 Z Z).trans (cB g239)) (L 0 Z Z)) ?_
          exact kk [(110, .bool (decide (p1.op ≠ 10))), (109, .bool (decide (p1.op ≠ 10))), (108, .int .i64 p1.op), (107, .pointer (some ⟨b10, 0, none⟩))] _ ⟨.bool (decide (p1.op ≠ 10)), .int .i64 p1.op, .pointer (some ⟨b10, 0, none⟩), Z, (by rw [g239, Bool.true_and])⟩
         ·skip
          refine U.x Z Z Z Z ((L 0 Z Z).trans (cB g239)) (by decide) ?_
          refine U.x Z Z Z Z ((L 1 Z Z).trans (cB g239)) (by decide) ?_
          refine U.x Z Z Z Z ((L 2 Z Z).trans (cB g239)) (by decide) ?_
          refine U.p Z Z (.inl Z) (S.pickF Z ((L 3 Z Z).trans (cB g239)) K) ?_
          exact kk [(110, .bool false), (109, .tuple #[]), (108, .tuple #[]), (107, .tuple #[])] _ ⟨.tuple #[], .tuple #[], .tuple #[], Z, (by rw [g239, Bool.false_and])⟩
     ·intro kk
      refine bcase (b := y48) (fun g240 => ?_) (fun g240 => ?_)
      ·have h241 := ifT g240 hy75
       refine U.x Z Z Z Z ((L 0 Z Z).trans (cB g240)) (by decide) ?_
       refine U.x Z Z Z Z ((L 1 Z Z).trans (cB g240)) (by decide) ?_
       refine U.x Z Z Z Z ((L 2 Z Z).trans (cB g240)) (by decide) ?_
       refine U.x Z Z Z Z ((L 3 Z Z).trans (cB g240)) (by decide) ?_
       refine U.x Z Z Z Z ((L 4 Z Z).trans (cB g240)) (by decide) ?_
       refine U.x Z Z Z Z ((L 5 Z Z).trans (cB g240)) (by decide) ?_
       refine U.x Z Z Z Z ((L 6 Z Z).trans (cB g240)) (by decide) ?_
       refine U.p Z Z (.inl Z) (S.pickT Z ((L 7 Z Z).trans (cB g240)) K) ?_
       have e242 := Option.some.inj h241
       subst e242
       exact kk [(81, .bool true), (80, .tuple #[]), (79, .tuple #[]), (78, .tuple #[]), (77, .tuple #[]), (76, .tuple #[]), (75, .tuple #[]), (74, .tuple #[])] _ ⟨.tuple #[], .tuple #[], .tuple #[], .tuple #[], .tuple #[], .tuple #[], .tuple #[], V71, Z, (.refl _), Z, ow73⟩
      ·have h243 := ifF g240 hy75
       refine U.p Z Z (.inr ⟨_, _, _, Z, Z, ((L 0 Z Z).trans (cB g240))⟩) (S.move Z (L 37 Z Z)) ?_
       refine U.p (v := .pointer (some ⟨b10, 3, none⟩)) Z Z (.inr ⟨_, _, _, Z, Z, ((L 1 Z Z).trans (cB g240))⟩) (S.fieldAddr Z (L 35 Z Z) Try.underlying29 Z ti3 Z Z) ?_
       refine U.k Z Z (.inr ⟨_, _, _, Z, Z, ((L 2 Z Z).trans (cB g240))⟩) (S.load Z (L 0 Z Z) Try.underlying3 Z ((ow73.own (k := 1) Z).cell Z)) nd ?_
       refine U.p (v := .pointer (some ⟨b5, 2, none⟩)) Z Z (.inr ⟨_, _, _, Z, Z, ((L 3 Z Z).trans (cB g240))⟩) (S.fieldAddr Z (L 36 Z Z) Try.underlying24 Z ti3 Z Z) ?_
       refine U.k Z Z (.inr ⟨_, _, _, Z, Z, ((L 4 Z Z).trans (cB g240))⟩) (S.load Z (L 0 Z Z) Try.underlying3 Z ((ow73.own (k := 0) Z).cell Z)) nd ?_
       obtain ⟨x244, hx245, h246⟩ := bindS h243
       refine O.call (V := V71) Z Z (.inr ⟨_, _, _, Z, Z, ((L 5 Z Z).trans (cB g240))⟩) Z en25 (aC (L 4 Z Z) (aC K (aC (L 2 Z Z) (aC (L 0 Z Z) aN)))) (wk_ref08_register V71 _ x27.2.2.1 false p1.b p0.regs ow73 _ hx245) (fun _ _ _ _ => nd) (fun v247 V248 le249 hp250 => ?_)
       obtain ⟨rfl, ow251⟩ := hp250
       refine U.p Z Z (.inr ⟨_, _, _, Z, Z, ((L 6 Z Z).trans (cB g240))⟩) (S.not Z (L 0 Z Z)) ?_
       refine U.p Z Z (.inl Z) (S.pickF Z ((L 7 Z Z).trans (cB g240)) (L 0 Z Z)) ?_
       have e252 := Option.some.inj h246
       subst e252
       exact kk [(81, .bool (!x244)), (80, .bool (!x244)), (79, .bool x244), (78, .int .i64 p0.regs), (77, .pointer (some ⟨b5, 2, none⟩)), (76, .int .i64 p1.b), (75, .pointer (some ⟨b10, 3, none⟩)), (74, .bool x27.2.2.1)] _ ⟨.bool (!x244), .bool x244, .int .i64 p0.regs, .pointer (some ⟨b5, 2, none⟩), .int .i64 p1.b, .pointer (some ⟨b10, 3, none⟩), .bool x27.2.2.1, V248, Z, le249, Z, ow251⟩
    ·intro kk
     refine bcase (b := !x40) (fun g253 => ?_) (fun g253 => ?_)
     ·have h254 := ifT g253 hy49
      have k255 : x40 = false := nT g253
      refine U.x Z Z Z Z ((L 0 Z Z).trans (cB g253)) (by decide) ?_
      refine U.x Z Z Z Z ((L 1 Z Z).trans (cB g253)) (by decide) ?_
      refine U.x Z Z Z Z ((L 2 Z Z).trans (cB g253)) (by decide) ?_
      refine U.x Z Z Z Z ((L 3 Z Z).trans (cB g253)) (by decide) ?_
      refine U.x Z Z Z Z ((L 4 Z Z).trans (cB g253)) (by decide) ?_
      refine U.z Z Z Z Z (L 0 Z Z) ?_
      refine U.z Z Z Z Z (L 1 Z Z) ?_
      refine U.z Z Z Z Z (L 2 Z Z) ?_
      refine U.x Z Z Z Z ((L 8 Z Z).trans (cB g253)) (by decide) ?_
      refine U.x Z Z Z Z ((L 9 Z Z).trans (cB g253)) (by decide) ?_
      refine U.z Z Z Z Z (L 0 Z Z) ?_
      refine U.z Z Z Z Z (L 1 Z Z) ?_
      refine U.z Z Z Z Z (L 2 Z Z) ?_
      refine U.x Z Z Z Z ((L 13 Z Z).trans (cB g253)) (by decide) ?_
      refine U.x Z Z Z Z ((L 14 Z Z).trans (cB g253)) (by decide) ?_
      refine U.x Z Z Z Z ((L 15 Z Z).trans (cB g253)) (by decide) ?_
      refine U.x Z Z Z Z ((L 16 Z Z).trans (cB g253)) (by decide) ?_
      refine U.x Z Z Z Z ((L 17 Z Z).trans (cB g253)) (by decide) ?_
      refine U.x Z Z Z Z ((L 18 Z Z).trans (cB g253)) (by decide) ?_
      refine U.x Z Z Z Z ((L 19 Z Z).trans (cB g253)) (by decide) ?_
      refine U.p Z Z (.inl Z) (S.pickT Z ((L 20 Z Z).trans (cB g253)) K) ?_
      have e256 := Option.some.inj h254
      subst e256
      exact kk [(72, .bool true), (71, .tuple #[]), (70, .tuple #[]), (69, .tuple #[]), (68, .tuple #[]), (67, .tuple #[]), (66, .tuple #[]), (65, .tuple #[]), (64, .tuple #[]), (63, .tuple #[]), (62, .tuple #[]), (61, .tuple #[]), (60, .tuple #[]), (59, .tuple #[]), (58, .tuple #[]), (57, .tuple #[]), (56, .tuple #[]), (55, .tuple #[]), (54, .tuple #[]), (53, .tuple #[]), (52, .tuple #[])] _ ⟨.tuple #[], .tuple #[], .tuple #[], .tuple #[], .tuple #[], .tuple #[], .tuple #[], .tuple #[], .tuple #[], .tuple #[], .tuple #[], .tuple #[], .tuple #[], .tuple #[], .tuple #[], .tuple #[], .tuple #[], .tuple #[], .tuple #[], .tuple #[], V44, Z, (.refl _), Z, ow47⟩
     ·have h257 := ifF g253 hy49
      have k258 : x40 = true := nF g253
      refine U.p Z Z (.inr ⟨_, _, _, Z, Z, ((L 0 Z Z).trans (cB g253))⟩) (S.move Z (L 14 Z Z)) ?_
      refine U.p (v := .pointer (some ⟨b10, 0, none⟩)) Z Z (.inr ⟨_, _, _, Z, Z, ((L 1 Z Z).trans (cB g253))⟩) (S.fieldAddr Z (L 13 Z Z) Try.underlying29 Z ti3 Z Z) ?_
      refine U.k Z Z (.inr ⟨_, _, _, Z, Z, ((L 2 Z Z).trans (cB g253))⟩) (S.load Z (L 0 Z Z) Try.underlying3 Z ((ow47.own (k := 1) Z).cell Z)) nd ?_
      refine U.p Z Z (.inr ⟨_, _, _, Z, Z, ((L 3 Z Z).trans (cB g253))⟩) (S.eqlI Z (L 0 Z Z) K) ?_
      refine U.p Z Z (.inr ⟨_, _, _, Z, Z, ((L 4 Z Z).trans (cB g253))⟩) (S.move Z (L 0 Z Z)) ?_
      refine U.joinX 20 (fun e H => ∃ (u259 u260 u261 : Value), H = V44.H ∧ e = [(60, .bool ((decide (p1.op = 9)) || (decide (p1.op = 10)))), (59, u259), (58, u260), (57, u261)]) ?_ ?_
      ·rintro _ _ ⟨u259, u260, u261, rfl, rfl⟩
       refine U.p Z Z (.inr ⟨_, _, _, Z, Z, ((L 9 Z Z).trans (cB g253))⟩) (S.move Z (L 0 Z Z)) ?_
       refine U.joinX 25 (fun e H => ∃ (u265 u266 u267 : Value), H = V44.H ∧ e = [(65, .bool (((decide (p1.op = 9)) || (decide (p1.op = 10))) || (decide (p1.op = 15)))), (64, u265), (63, u266), (62, u267)]) ?_ ?_
       ·rintro _ _ ⟨u265, u266, u267, rfl, rfl⟩
        refine U.p (v := .pointer (some ⟨b10, 2, none⟩)) Z Z (.inr ⟨_, _, _, Z, Z, ((L 14 Z Z).trans (cB g253))⟩) (S.fieldAddr Z (L 26 Z Z) Try.underlying29 Z ti3 Z Z) ?_
        refine U.k Z Z (.inr ⟨_, _, _, Z, Z, ((L 15 Z Z).trans (cB g253))⟩) (S.load Z (L 0 Z Z) Try.underlying3 Z ((ow47.own (k := 1) Z).cell Z)) nd ?_
        refine U.p (v := .pointer (some ⟨b5, 2, none⟩)) Z Z (.inr ⟨_, _, _, Z, Z, ((L 16 Z Z).trans (cB g253))⟩) (S.fieldAddr Z (L 27 Z Z) Try.underlying24 Z ti3 Z Z) ?_
        refine U.k Z Z (.inr ⟨_, _, _, Z, Z, ((L 17 Z Z).trans (cB g253))⟩) (S.load Z (L 0 Z Z) Try.underlying3 Z ((ow47.own (k := 0) Z).cell Z)) nd ?_
        obtain ⟨x271, hx272, h273⟩ := bindS h257
        refine O.call (V := V44) Z Z (.inr ⟨_, _, _, Z, Z, ((L 18 Z Z).trans (cB g253))⟩) Z en25 (aC (L 17 Z Z) (aC (L 4 Z Z) (aC (L 2 Z Z) (aC (L 0 Z Z) aN)))) (wk_ref08_register V44 _ x35 (((decide (p1.op = 9)) || (decide (p1.op = 10))) || (decide (p1.op = 15))) p1.a p0.regs ow47 _ hx272) (fun _ _ _ _ => nd) (fun v274 V275 le276 hp277 => ?_)
        obtain ⟨rfl, ow278⟩ := hp277
        refine U.p Z Z (.inr ⟨_, _, _, Z, Z, ((L 19 Z Z).trans (cB g253))⟩) (S.not Z (L 0 Z Z)) ?_
        refine U.p Z Z (.inl Z) (S.pickF Z ((L 20 Z Z).trans (cB g253)) (L 0 Z Z)) ?_
        have e279 := Option.some.inj h273
        subst e279
        exact kk [(72, .bool (!x271)), (71, .bool (!x271)), (70, .bool x271), (69, .int .i64 p0.regs), (68, .pointer (some ⟨b5, 2, none⟩)), (67, .int .i64 p1.a), (66, .pointer (some ⟨b10, 2, none⟩)), (65, .bool (((decide (p1.op = 9)) || (decide (p1.op = 10))) || (decide (p1.op = 15)))), (64, u265), (63, u266), (62, u267), (61, .bool ((decide (p1.op = 9)) || (decide (p1.op = 10)))), (60, .bool ((decide (p1.op = 9)) || (decide (p1.op = 10)))), (59, u259), (58, u260), (57, u261), (56, .bool (decide (p1.op = 9))), (55, .bool (decide (p1.op = 9))), (54, .int .i64 p1.op), (53, .pointer (some ⟨b10, 0, none⟩)), (52, .bool x35)] _ ⟨.bool (!x271), .bool x271, .int .i64 p0.regs, .pointer (some ⟨b5, 2, none⟩), .int .i64 p1.a, .pointer (some ⟨b10, 2, none⟩), .bool (((decide (p1.op = 9)) || (decide (p1.op = 10))) || (decide (p1.op = 15))), u265, u266, u267, .bool ((decide (p1.op = 9)) || (decide (p1.op = 10))), .bool ((decide (p1.op = 9)) || (decide (p1.op = 10))), u259, u260, u261, .bool (decide (p1.op = 9)), .bool (decide (p1.op = 9)), .int .i64 p1.op, .pointer (some ⟨b10, 0, none⟩), .bool x35, V275, Z, le276, Z, ow278⟩
       ·intro kk
        refine bcase (b := (decide (p1.op = 9)) || (decide (p1.op = 10))) (fun g280 => ?_) (fun g280 => ?_)
        ·skip
         refine U.x Z Z Z Z ((L 0 Z Z).trans (cB g280)) (by decide) ?_
         refine U.x Z Z Z Z ((L 1 Z Z).trans (cB g280)) (by decide) ?_
         refine U.x Z Z Z Z ((L 2 Z Z).trans (cB g280)) (by decide) ?_
         refine U.p Z Z (.inr ⟨_, _, _, Z, Z, ((L 13 Z Z).trans (cB g253))⟩) (S.pickT Z ((L 3 Z Z).trans (cB g280)) K) ?_
         exact kk [(65, .bool true), (64, .tuple #[]), (63, .tuple #[]), (62, .tuple #[])] _ ⟨.tuple #[], .tuple #[], .tuple #[], Z, (by rw [g280, Bool.true_or])⟩
        ·skip
         refine U.p (v := .pointer (some ⟨b10, 0, none⟩)) Z Z (.inr ⟨_, _, _, Z, Z, ((L 0 Z Z).trans (cB g280))⟩) (S.fieldAddr Z (L 22 Z Z) Try.underlying29 Z ti3 Z Z) ?_
         refine U.k Z Z (.inr ⟨_, _, _, Z, Z, ((L 1 Z Z).trans (cB g280))⟩) (S.load Z (L 0 Z Z) Try.underlying3 Z ((ow47.own (k := 1) Z).cell Z)) nd ?_
         refine U.p Z Z (.inr ⟨_, _, _, Z, Z, ((L 2 Z Z).trans (cB g280))⟩) (S.eqlI Z (L 0 Z Z) K) ?_
         refine U.p Z Z (.inr ⟨_, _, _, Z, Z, ((L 13 Z Z).trans (cB g253))⟩) (S.pickF Z ((L 3 Z Z).trans (cB g280)) (L 0 Z Z)) ?_
         exact kk [(65, .bool (decide (p1.op = 15))), (64, .bool (decide (p1.op = 15))), (63, .int .i64 p1.op), (62, .pointer (some ⟨b10, 0, none⟩))] _ ⟨.bool (decide (p1.op = 15)), .int .i64 p1.op, .pointer (some ⟨b10, 0, none⟩), Z, (by rw [g280, Bool.false_or])⟩
      ·intro kk
       refine bcase (b := decide (p1.op = 9)) (fun g281 => ?_) (fun g281 => ?_)
       ·skip
        refine U.x Z Z Z Z ((L 0 Z Z).trans (cB g281)) (by decide) ?_
        refine U.x Z Z Z Z ((L 1 Z Z).trans (cB g281)) (by decide) ?_
        refine U.x Z Z Z Z ((L 2 Z Z).trans (cB g281)) (by decide) ?_
        refine U.p Z Z (.inr ⟨_, _, _, Z, Z, ((L 8 Z Z).trans (cB g253))⟩) (S.pickT Z ((L 3 Z Z).trans (cB g281)) K) ?_
        exact kk [(60, .bool true), (59, .tuple #[]), (58, .tuple #[]), (57, .tuple #[])] _ ⟨.tuple #[], .tuple #[], .tuple #[], Z, (by rw [g281, Bool.true_or])⟩
       ·skip
        refine U.p (v := .pointer (some ⟨b10, 0, none⟩)) Z Z (.inr ⟨_, _, _, Z, Z, ((L 0 Z Z).trans (cB g281))⟩) (S.fieldAddr Z (L 17 Z Z) Try.underlying29 Z ti3 Z Z) ?_
        refine U.k Z Z (.inr ⟨_, _, _, Z, Z, ((L 1 Z Z).trans (cB g281))⟩) (S.load Z (L 0 Z Z) Try.underlying3 Z ((ow47.own (k := 1) Z).cell Z)) nd ?_
        refine U.p Z Z (.inr ⟨_, _, _, Z, Z, ((L 2 Z Z).trans (cB g281))⟩) (S.eqlI Z (L 0 Z Z) K) ?_
        refine U.p Z Z (.inr ⟨_, _, _, Z, Z, ((L 8 Z Z).trans (cB g253))⟩) (S.pickF Z ((L 3 Z Z).trans (cB g281)) (L 0 Z Z)) ?_
        exact kk [(60, .bool (decide (p1.op = 10))), (59, .bool (decide (p1.op = 10))), (58, .int .i64 p1.op), (57, .pointer (some ⟨b10, 0, none⟩))] _ ⟨.bool (decide (p1.op = 10)), .int .i64 p1.op, .pointer (some ⟨b10, 0, none⟩), Z, (by rw [g281, Bool.false_or])⟩
   ·skip
    refine WP.usreg Z ?_
    refine U.p (v := .pointer (some ⟨b10, 0, none⟩)) Z Z (.inl Z) (S.fieldAddr Z (L 21 Z Z) Try.underlying29 Z ti3 Z Z) ?_
    refine U.k Z Z (.inl Z) (S.load Z (L 0 Z Z) Try.underlying3 Z ((ow34.own (k := 0) Z).cell Z)) nd ?_
    refine U.p Z Z (.inl Z) (S.eqlI Z (L 0 Z Z) K) ?_
    refine U.done (nr Z) ?_
    refine WP.cond _ (L 0 Z Z) Z (fun c282 => ?_) (fun c282 => ?_)
    ·have h283 := ifT c282 h29
     refine WP.seq ?_
     refine WP.usreg Z ?_
     refine U.p (v := .pointer (some ⟨b10, 4, none⟩)) Z Z (.inl Z) (S.fieldAddr Z (L 24 Z Z) Try.underlying29 Z ti3 Z Z) ?_
     refine U.k Z Z (.inl Z) (S.load Z (L 0 Z Z) Try.underlying3 Z ((ow34.own (k := 0) Z).cell Z)) nd ?_
     refine U.p Z Z (.inl Z) (S.lss Z (L 0 Z Z) K) ?_
     refine U.p Z Z (.inl Z) (S.move Z (L 0 Z Z)) ?_
     refine U.joinX 8 (fun e H => ∃ (u284 u285 u286 : Value), H = V31.H ∧ e = [(37, .bool ((decide (p1.imm < 1)) || (decide (3 < p1.imm)))), (36, u284), (35, u285), (34, u286)]) ?_ ?_
     ·rintro _ _ ⟨u284, u285, u286, rfl, rfl⟩
      refine U.done (nr Z) ?_
      refine WP.cond _ (L 0 Z Z) Z (fun c290 => ?_) (fun c290 => ?_)
      ·have h291 := ifT c290 h283
       refine WP.usreg Z ?_
       refine U.p Z Z (.inl Z) (S.assign Z K) ?_
       refine U.done (nr Z) ?_
       refine WP.ret ?_
       refine sqR (sqR ?_)
       refine fin.slot (.inr Z) Z (L 0 Z Z) ⟨V31, Z, ((le7.trans le12).trans le32), ?_⟩
       have ow292 := ow34.drop 0 Z
       have ow293 := ow292.drop 0 Z
       have e294 := Option.some.inj h291
       subst e294
       exact ⟨rfl, ow293⟩
      ·have h295 := ifF c290 h283
       refine WP.skip ?_
       refine sqN ?_
       refine WP.ureg Z ?_
       refine U.p (v := .pointer (some ⟨b10, 4, none⟩)) Z Z (.inl Z) (S.fieldAddr Z (L 32 Z Z) Try.underlying29 Z ti3 Z Z) ?_
       refine U.k Z Z (.inl Z) (S.load Z (L 0 Z Z) Try.underlying3 Z ((ow34.own (k := 0) Z).cell Z)) nd ?_
       refine U.p Z Z (.inl Z) (S.eqlI Z (L 0 Z Z) K) ?_
       refine U.p Z Z (.inl Z) (S.assign Z (L 0 Z Z)) ?_
       refine U.done (nr Z) ?_
       refine sqN ?_
       have ow296 := ow34.pick 0 Z
       have ow297 := ow296.pick 1 Z
       exact ⟨_, V31, Z, ⟨decide (p1.imm = 3), Z, (.refl _), ow297, h295⟩, (allCons (L 37 Z Z) (allCons (L 36 Z Z) (allCons (L 18 Z Z) (allCons (L 0 Z Z) (allCons (L 16 Z Z) (allCons (L 15 Z Z) allNil))))))⟩
     ·intro kk
      refine bcase (b := decide (p1.imm < 1)) (fun g298 => ?_) (fun g298 => ?_)
      ·skip
       refine U.x Z Z Z Z ((L 0 Z Z).trans (cB g298)) (by decide) ?_
       refine U.x Z Z Z Z ((L 1 Z Z).trans (cB g298)) (by decide) ?_
       refine U.x Z Z Z Z ((L 2 Z Z).trans (cB g298)) (by decide) ?_
       refine U.p Z Z (.inl Z) (S.pickT Z ((L 3 Z Z).trans (cB g298)) K) ?_
       exact kk [(37, .bool true), (36, .tuple #[]), (35, .tuple #[]), (34, .tuple #[])] _ ⟨.tuple #[], .tuple #[], .tuple #[], Z, (by rw [g298, Bool.true_or])⟩
      ·skip
       refine U.p (v := .pointer (some ⟨b10, 4, none⟩)) Z Z (.inr ⟨_, _, _, Z, Z, ((L 0 Z Z).trans (cB g298))⟩) (S.fieldAddr Z (L 28 Z Z) Try.underlying29 Z ti3 Z Z) ?_
       refine U.k Z Z (.inr ⟨_, _, _, Z, Z, ((L 1 Z Z).trans (cB g298))⟩) (S.load Z (L 0 Z Z) Try.underlying3 Z ((ow34.own (k := 0) Z).cell Z)) nd ?_
       refine U.p Z Z (.inr ⟨_, _, _, Z, Z, ((L 2 Z Z).trans (cB g298))⟩) (S.gtr Z (L 0 Z Z) K) ?_
       refine U.p Z Z (.inl Z) (S.pickF Z ((L 3 Z Z).trans (cB g298)) (L 0 Z Z)) ?_
       exact kk [(37, .bool (decide (3 < p1.imm))), (36, .bool (decide (3 < p1.imm))), (35, .int .i64 p1.imm), (34, .pointer (some ⟨b10, 4, none⟩))] _ ⟨.bool (decide (3 < p1.imm)), .int .i64 p1.imm, .pointer (some ⟨b10, 4, none⟩), Z, (by rw [g298, Bool.false_or])⟩
    ·have h299 := ifF c282 h29
     refine WP.skip ?_
     refine sqN ?_
     have ow300 := ow34.pick 0 Z
     have ow301 := ow300.pick 1 Z
     exact ⟨_, V31, Z, ⟨x27.2.1, Z, (.refl _), ow301, h299⟩, (allCons (L 25 Z Z) (allCons (L 24 Z Z) (allCons (L 6 Z Z) (allCons (L 5 Z Z) (allCons (L 4 Z Z) (allCons (L 3 Z Z) allNil))))))⟩
 ·intro kk
  refine bcase (b := decide (p1.op < 1)) (fun g302 => ?_) (fun g302 => ?_)
  ·skip
   refine U.x Z Z Z Z ((L 0 Z Z).trans (cB g302)) (by decide) ?_
   refine U.x Z Z Z Z ((L 1 Z Z).trans (cB g302)) (by decide) ?_
   refine U.x Z Z Z Z ((L 2 Z Z).trans (cB g302)) (by decide) ?_
   refine U.p Z Z (.inl Z) (S.pickT Z ((L 3 Z Z).trans (cB g302)) K) ?_
   exact kk [(18, .bool true), (17, .tuple #[]), (16, .tuple #[]), (15, .tuple #[])] _ ⟨.tuple #[], .tuple #[], .tuple #[], Z, (by rw [g302, Bool.true_or])⟩
  ·skip
   refine U.p (v := .pointer (some ⟨b10, 0, none⟩)) Z Z (.inr ⟨_, _, _, Z, Z, ((L 0 Z Z).trans (cB g302))⟩) (S.fieldAddr Z (L 5 Z Z) Try.underlying29 Z ti3 Z Z) ?_
   refine U.k Z Z (.inr ⟨_, _, _, Z, Z, ((L 1 Z Z).trans (cB g302))⟩) (S.load Z (L 0 Z Z) Try.underlying3 Z ((ow13.own (k := 0) Z).cell Z)) nd ?_
   refine U.p Z Z (.inr ⟨_, _, _, Z, Z, ((L 2 Z Z).trans (cB g302))⟩) (S.gtr Z (L 0 Z Z) K) ?_
   refine U.p Z Z (.inl Z) (S.pickF Z ((L 3 Z Z).trans (cB g302)) (L 0 Z Z)) ?_
   exact kk [(18, .bool (decide (22 < p1.op))), (17, .bool (decide (22 < p1.op))), (16, .int .i64 p1.op), (15, .pointer (some ⟨b10, 0, none⟩))] _ ⟨.bool (decide (22 < p1.op)), .int .i64 p1.op, .pointer (some ⟨b10, 0, none⟩), Z, (by rw [g302, Bool.false_or])⟩
theorem wk_ref08_Good (V : Vw) (Rs : List At) (p0 : TFunc) (v1 : Value) (f2 : Fz RT_TIns V v1 p0.code) (ow : Ow V (Rs)) (r : Bool) (h : ref08_Good p0 = some r) : ∃ v V', Cl Try.prog 0 7 #[.agg #[.string p0.name, .int .i64 p0.params, .int .i64 p0.regs, v1]] V.H v V'.H ∧ V.le V' ∧ (v = .bool r ∧ Ow V' (Rs)) := by
 refine Ct.of (Nat.zero_le _) Try.func7 Z (nr Z) ?_
 unfold ref08_Good at h
 refine WP.usreg Z ?_
 refine O.box ow Z Z (.inl Z) Z (L 0 Z Z) (by simp [topV]) Z nd (fun b3 V4 le5 ow6 => ?_)
 refine U.p Z Z (.inl Z) (S.assign Z K) ?_
 refine U.done (nr Z) ?_
 refine WP.usreg Z ?_
 refine U.p (v := .pointer (some ⟨b3, 3, none⟩)) Z Z (.inl Z) (S.fieldAddr Z (L 1 Z Z) Try.underlying24 Z ti22 Z Z) ?_
 refine U.k Z Z (.inl Z) (S.load Z (L 0 Z Z) Try.underlying22 Z ((ow6.own (k := 0) Z).cell Z)) nd ?_
 refine U.p Z Z (.inl Z) (f2.1.len Z (L 0 Z Z) Try.underlying22) ?_
 refine U.p Z Z (.inl Z) (S.assign Z (L 0 Z Z)) ?_
 refine U.done (nr Z) ?_
 refine WP.seq ?_
 refine WP.usreg Z ?_
 refine U.p Z Z (.inl Z) (S.move Z (L 0 Z Z)) ?_
 refine U.p Z Z (.inl Z) (S.eqlI Z (L 0 Z Z) K) ?_
 refine U.p Z Z (.inl Z) (S.move Z (L 0 Z Z)) ?_
 refine U.joinX 7 (fun e H => ∃ (u8 u9 u10 : Value), H = V4.H ∧ e = [(16, .bool ((decide ((p0.code.length : Int) = 0)) || (decide (p0.params < 0)))), (15, u8), (14, u9), (13, u10)]) ?_ ?_
 ·rintro _ _ ⟨u8, u9, u10, rfl, rfl⟩
  refine U.p Z Z (.inl Z) (S.move Z (L 0 Z Z)) ?_
  refine U.joinX 14 (fun e H => ∃ (u14 u15 u16 u17 u18 : Value), H = V4.H ∧ e = [(23, .bool (((decide ((p0.code.length : Int) = 0)) || (decide (p0.params < 0))) || (decide (p0.regs < p0.params)))), (22, u14), (21, u15), (20, u16), (19, u17), (18, u18)]) ?_ ?_
  ·rintro _ _ ⟨u14, u15, u16, u17, u18, rfl, rfl⟩
   refine U.done (nr Z) ?_
   refine WP.cond _ (L 0 Z Z) Z (fun c22 => ?_) (fun c22 => ?_)
   ·have h23 := ifT c22 h
    refine WP.usreg Z ?_
    refine U.p Z Z (.inl Z) (S.assign Z K) ?_
    refine U.done (nr Z) ?_
    refine WP.ret ?_
    refine sqR ?_
    refine fin.slot (.inr Z) Z (L 0 Z Z) ⟨V4, Z, le5, ?_⟩
    have ow24 := ow6.drop 0 Z
    have e25 := Option.some.inj h23
    subst e25
    exact ⟨rfl, ow24⟩
   ·have h26 := ifF c22 h
    refine WP.skip ?_
    refine sqN ?_
    refine WP.usreg Z ?_
    refine U.p (v := .pointer (some ⟨b3, 3, none⟩)) Z Z (.inl Z) (S.fieldAddr Z (L 19 Z Z) Try.underlying24 Z ti22 Z Z) ?_
    refine U.k Z Z (.inl Z) (S.load Z (L 0 Z Z) Try.underlying22 Z ((ow6.own (k := 0) Z).cell Z)) nd ?_
    refine U.p Z Z (.inl Z) (S.move Z (L 16 Z Z)) ?_
    refine U.p Z Z (.inl Z) (S.sub Z (L 0 Z Z) K) ?_
    obtain ⟨x27, hx28, h29⟩ := bindS h26
    obtain ⟨b30, o31, c32, cs33, hv34, hf35, hr36, hc37⟩ := f2.at hx28
    obtain ⟨v38, rfl, f39⟩ := hr36
    refine U.p Z Z (.inl Z) (S.index Z ((L 2 Z Z).trans hv34) (L 0 Z Z) Try.underlying22 ti29 (ix_ge hx28) (ix_lt hx28)) ?_
    refine U.p (v := .pointer (some ⟨b30, o31 + Int.toNat (w64 ((p0.code.length : Int) - 1)) * 9, none⟩)) Z Z (.inl Z) (S.fieldAddr Z (L 0 Z Z) Try.underlying29 Z ti3 Z Z) ?_
    refine U.k Z Z (.inl Z) (S.load Z (L 0 Z Z) Try.underlying3 Z (le5.cell hf35 (hc37 0 _ Z))) nd ?_
    refine U.p Z Z (.inl Z) (S.assign Z (L 0 Z Z)) ?_
    refine U.done (nr Z) ?_
    refine WP.seq ?_
    refine WP.usreg Z ?_
    refine U.p Z Z (.inl Z) (S.move Z (L 0 Z Z)) ?_
    refine U.p Z Z (.inl Z) (S.neqI Z (L 0 Z Z) K) ?_
    refine U.p Z Z (.inl Z) (S.move Z (L 0 Z Z)) ?_
    refine U.joinX 6 (fun e H => ∃ (u40 u41 : Value), H = V4.H ∧ e = [(36, .bool ((decide (x27.op ≠ 12)) && (decide (x27.op ≠ 15)))), (35, u40), (34, u41)]) ?_ ?_
    ·rintro _ _ ⟨u40, u41, rfl, rfl⟩
     refine U.p Z Z (.inl Z) (S.move Z (L 0 Z Z)) ?_
     refine U.joinX 10 (fun e H => ∃ (u45 u46 : Value), H = V4.H ∧ e = [(40, .bool (((decide (x27.op ≠ 12)) && (decide (x27.op ≠ 15))) && (decide (x27.op ≠ 16)))), (39, u45), (38, u46)]) ?_ ?_
     ·rintro _ _ ⟨u45, u46, rfl, rfl⟩
      refine U.done (nr Z) ?_
      refine WP.cond _ (L 0 Z Z) Z (fun c50 => ?_) (fun c50 => ?_)
      ·have h51 := ifT c50 h29
       refine WP.usreg Z ?_
       refine U.p Z Z (.inl Z) (S.assign Z K) ?_
       refine U.done (nr Z) ?_
       refine WP.ret ?_
       refine sqR ?_
       refine fin.slot (.inr Z) Z (L 0 Z Z) ⟨V4, Z, le5, ?_⟩
       have ow52 := ow6.drop 0 Z
       have e53 := Option.some.inj h51
       subst e53
       exact ⟨rfl, ow52⟩
      ·have h54 := ifF c50 h29
       refine WP.skip ?_
       refine sqN ?_
       refine WP.seq ?_
       refine WP.usreg Z ?_
       refine U.p (v := .pointer (some ⟨b3, 3, none⟩)) Z Z (.inl Z) (S.fieldAddr Z (L 37 Z Z) Try.underlying24 Z ti22 Z Z) ?_
       refine U.k Z Z (.inl Z) (S.load Z (L 0 Z Z) Try.underlying22 Z ((ow6.own (k := 0) Z).cell Z)) nd ?_
       refine U.p Z Z (.inl Z) (f2.1.len Z (L 0 Z Z) Try.underlying22) ?_
       refine U.p Z Z (.inl Z) (S.move Z K) ?_
       refine U.done (nr Z) ?_
       refine WP.blk ?_
       unfold ref08_Good_l1 at h54
       obtain ⟨n57, hn56⟩ := loopO_some.1 h54
       refine WP.loopI2 (fun n l V' => ∃ (x55 : Int), l = [(1, .pointer (some ⟨b3, 0, none⟩)), (42, v1), (43, .int .i64 (p0.code.length : Int)), (44, .int .i64 x55)] ∧ V4.le V' ∧ Ow V' (.pt b3 (.cells 0 [.string p0.name, .int .i64 p0.params, .int .i64 p0.regs, v1]) :: Rs) ∧ itO (fun s => ref08_Good_l1b p0 s) n x55 = some r) n57 _ ⟨0, Z, .refl _, ow6, hn56⟩ (allCons (L 41 Z Z) (allCons (L 2 Z Z) (allCons (L 1 Z Z) (allCons (L 0 Z Z) allNil)))) ?_
       rintro _ _ V58 ⟨x55, rfl, le59, ow60, h64⟩
       obtain ⟨m61, q62, rfl, h65, e63⟩ := itS h64
       replace h65 : ref08_Good_l1b p0 x55 = some q62 := h65
       unfold ref08_Good_l1b at h65
       refine WP.usreg Z ?_
       refine U.p Z Z (.inl Z) (S.lss Z (L 3 Z Z) (L 2 Z Z)) ?_
       refine U.done (nr Z) ?_
       refine WP.seq ?_
       refine WP.cond _ (L 0 Z Z) Z (fun c66 => ?_) (fun c66 => ?_)
       ·have h67 := ifT c66 h65
        refine WP.skip ?_
        refine sqN ?_
        refine WP.seq ?_
        refine WP.blk ?_
        refine WP.usreg Z ?_
        obtain ⟨x68, hx69, h70⟩ := bindS h67
        obtain ⟨b71, o72, c73, cs74, hv75, hf76, hr77, hc78⟩ := f2.at hx69
        obtain ⟨v79, rfl, f80⟩ := hr77
        refine U.p Z Z (.inl Z) (S.index Z ((L 2 Z Z).trans hv75) (L 4 Z Z) Try.underlying22 ti29 (ix_ge hx69) (ix_lt hx69)) ?_
        refine U.k Z Z (.inl Z) (S.loadN (cs := [.int .i64 x68.op, .int .i64 x68.d, .int .i64 x68.a, .int .i64 x68.b, .int .i64 x68.imm, v79, .int .i64 x68.what, .bool x68.volatile, .bool x68.final]) Z (L 0 Z Z) Try.underlying29 Z ti29 Z (fun j v hj => (le5.trans le59).cell hf76 (hc78 j v hj))) nd ?_
        refine O.alloc ow60 Z Z (.inl Z) Z ti29 Z Z nd (fun b81 V82 le83 ow84 => ?_)
        refine O.store (k := 0) (cs := [.int .i64 x68.op, .int .i64 x68.d, .int .i64 x68.a, .int .i64 x68.b, .int .i64 x68.imm, v79, .int .i64 x68.what, .bool x68.volatile, .bool x68.final]) (c' := [.int .i64 x68.op, .int .i64 x68.d, .int .i64 x68.a, .int .i64 x68.b, .int .i64 x68.imm, v79, .int .i64 x68.what, .bool x68.volatile, .bool x68.final]) ow84 Z Z Z (.inl Z) Z (L 0 Z Z) (L 1 Z Z) ti29 (by simp [topV]) Z Z (nr Z) (by have q0 := f80.one; simp only [List.all_cons, List.all_nil, q0]; rfl) Z nd (fun V86 le87 ow88 => ?_)
        refine U.done (nr Z) ?_
        refine WP.usreg Z ?_
        refine U.k Z Z (.inl Z) (S.loadB Z (L 4 Z Z) Try.underlying24 Z ti24 (ow88.own (k := 1) Z).get Z) nd ?_
        refine U.k Z Z (.inl Z) (S.loadB Z (L 1 Z Z) Try.underlying29 Z ti29 (ow88.own (k := 0) Z).get Z) nd ?_
        have f89 := f2.up (((le5.trans le59).trans le83).trans le87)
        have f90 := f80.up (((le5.trans le59).trans le83).trans le87)
        obtain ⟨x91, hx92, h93⟩ := bindS h70
        refine O.call (V := V86) Z Z (.inl Z) Z en14 (aC (L 1 Z Z) (aC (L 0 Z Z) aN)) (wk_ref08_ins V86 _ p0 x68 v1 v79 f89 f90 ow88 _ hx92) (fun _ _ _ _ => nd) (fun v94 V95 le96 hp97 => ?_)
        obtain ⟨rfl, ow98⟩ := hp97
        refine U.p Z Z (.inl Z) (S.not Z (L 0 Z Z)) ?_
        refine U.p Z Z (.inl Z) (S.move Z (L 0 Z Z)) ?_
        obtain ⟨y99, hy100, h101⟩ := bindS h93
        refine U.joinX 16 (fun e H => ∃ (u102 u103 u104 u105 u106 u107 u108 u109 u110 u111 : Value), ∃ V' : Vw, H = V'.H ∧ V95.le V' ∧ e = [(63, .bool y99), (62, u102), (61, u103), (60, u104), (59, u105), (58, u106), (57, u107), (56, u108), (55, u109), (54, u110), (53, u111)] ∧ Ow V' (.pt b81 (.cells 9 [.int .i64 x68.op, .int .i64 x68.d, .int .i64 x68.a, .int .i64 x68.b, .int .i64 x68.imm, v79, .int .i64 x68.what, .bool x68.volatile, .bool x68.final]) :: .pt b3 (.cells 0 [.string p0.name, .int .i64 p0.params, .int .i64 p0.regs, v1]) :: Rs)) ?_ ?_
        ·rintro _ _ ⟨u102, u103, u104, u105, u106, u107, u108, u109, u110, u111, V112, rfl, le113, rfl, ow114⟩
         refine U.done (nr Z) ?_
         refine WP.cond _ (L 0 Z Z) Z (fun c115 => ?_) (fun c115 => ?_)
         ·have h116 := ifT c115 h101
          refine WP.usreg Z ?_
          refine U.p Z Z (.inl Z) (S.assign Z K) ?_
          refine U.done (nr Z) ?_
          refine WP.ret ?_
          refine blkR (sqR (sqR (blkR (sqR ?_))))
          have h117 := exitS h116 e63
          refine fin.slot (.inr Z) Z (L 0 Z Z) ⟨V112, Z, (((((le5.trans le59).trans le83).trans le87).trans le96).trans le113), ?_⟩
          have ow118 := ow114.drop 0 Z
          have ow119 := ow118.drop 0 Z
          have e120 := Option.some.inj h117
          subst e120
          exact ⟨rfl, ow119⟩
         ·have h121 := ifF c115 h101
          refine WP.skip ?_
          refine blkN (sqN ?_)
          refine WP.ureg Z ?_
          refine U.p Z Z (.inl Z) (S.add Z (L 23 Z Z) K) ?_
          refine U.p Z Z (.inl Z) (S.move Z (L 0 Z Z)) ?_
          refine U.done (nr Z) ?_
          refine sqN ?_
          have ow122 := ow114.drop 0 Z
          exact ⟨_, V112, Z, ⟨m61, Nat.lt_succ_self _, w64 (x55 + 1), Z, ((((le59.trans le83).trans le87).trans le96).trans le113), ow122, backS h121 e63⟩, (allCons (L 22 Z Z) (allCons (L 23 Z Z) (allCons (L 24 Z Z) (allCons (L 0 Z Z) allNil))))⟩
        ·intro kk
         refine bcase (b := !x91) (fun g123 => ?_) (fun g123 => ?_)
         ·have h124 := ifT g123 hy100
          have k125 : x91 = false := nT g123
          refine U.x Z Z Z Z ((L 0 Z Z).trans (cB g123)) (by decide) ?_
          refine U.x Z Z Z Z ((L 1 Z Z).trans (cB g123)) (by decide) ?_
          refine U.x Z Z Z Z ((L 2 Z Z).trans (cB g123)) (by decide) ?_
          refine U.x Z Z Z Z ((L 3 Z Z).trans (cB g123)) (by decide) ?_
          refine U.z Z Z Z Z (L 0 Z Z) ?_
          refine U.z Z Z Z Z (L 1 Z Z) ?_
          refine U.z Z Z Z Z (L 2 Z Z) ?_
          refine U.z Z Z Z Z (L 3 Z Z) ?_
          refine U.z Z Z Z Z (L 4 Z Z) ?_
          refine U.x Z Z Z Z ((L 9 Z Z).trans (cB g123)) (by decide) ?_
          refine U.p Z Z (.inl Z) (S.pickT Z ((L 10 Z Z).trans (cB g123)) K) ?_
          have e126 := Option.some.inj h124
          subst e126
          exact kk [(63, .bool true), (62, .tuple #[]), (61, .tuple #[]), (60, .tuple #[]), (59, .tuple #[]), (58, .tuple #[]), (57, .tuple #[]), (56, .tuple #[]), (55, .tuple #[]), (54, .tuple #[]), (53, .tuple #[])] _ ⟨.tuple #[], .tuple #[], .tuple #[], .tuple #[], .tuple #[], .tuple #[], .tuple #[], .tuple #[], .tuple #[], .tuple #[], V95, Z, (.refl _), Z, ow98⟩
         ·have h127 := ifF g123 hy100
          have k128 : x91 = true := nF g123
          refine U.p (v := .pointer (some ⟨b81, 0, none⟩)) Z Z (.inr ⟨_, _, _, Z, Z, ((L 0 Z Z).trans (cB g123))⟩) (S.fieldAddr Z (L 5 Z Z) Try.underlying29 Z ti3 Z Z) ?_
          refine U.k Z Z (.inr ⟨_, _, _, Z, Z, ((L 1 Z Z).trans (cB g123))⟩) (S.load Z (L 0 Z Z) Try.underlying3 Z ((ow98.own (k := 0) Z).cell Z)) nd ?_
          refine U.p Z Z (.inr ⟨_, _, _, Z, Z, ((L 2 Z Z).trans (cB g123))⟩) (S.eqlI Z (L 0 Z Z) K) ?_
          refine U.p Z Z (.inr ⟨_, _, _, Z, Z, ((L 3 Z Z).trans (cB g123))⟩) (S.move Z (L 0 Z Z)) ?_
          obtain ⟨y129, hy130, h131⟩ := bindS h127
          refine U.joinX 15 (fun e H => ∃ (u132 u133 u134 u135 u136 : Value), ∃ V' : Vw, H = V'.H ∧ V95.le V' ∧ e = [(62, .bool y129), (61, u132), (60, u133), (59, u134), (58, u135), (57, u136)] ∧ Ow V' (.pt b81 (.cells 9 [.int .i64 x68.op, .int .i64 x68.d, .int .i64 x68.a, .int .i64 x68.b, .int .i64 x68.imm, v79, .int .i64 x68.what, .bool x68.volatile, .bool x68.final]) :: .pt b3 (.cells 0 [.string p0.name, .int .i64 p0.params, .int .i64 p0.regs, v1]) :: Rs)) ?_ ?_
          ·rintro _ _ ⟨u132, u133, u134, u135, u136, V137, rfl, le138, rfl, ow139⟩
           refine U.p Z Z (.inl Z) (S.pickF Z ((L 10 Z Z).trans (cB g123)) (L 0 Z Z)) ?_
           have e140 := Option.some.inj h131
           subst e140
           exact kk [(63, .bool y129), (62, .bool y129), (61, u132), (60, u133), (59, u134), (58, u135), (57, u136), (56, .bool (decide (x68.op = 11))), (55, .bool (decide (x68.op = 11))), (54, .int .i64 x68.op), (53, .pointer (some ⟨b81, 0, none⟩))] _ ⟨.bool y129, u132, u133, u134, u135, u136, .bool (decide (x68.op = 11)), .bool (decide (x68.op = 11)), .int .i64 x68.op, .pointer (some ⟨b81, 0, none⟩), V137, Z, le138, Z, ow139⟩
          ·intro kk
           refine bcase (b := decide (x68.op = 11)) (fun g141 => ?_) (fun g141 => ?_)
           ·have h142 := ifT g141 hy130
            refine U.k Z Z (.inr ⟨_, _, _, Z, Z, ((L 0 Z Z).trans (cB g141))⟩) (S.loadB Z (L 13 Z Z) Try.underlying24 Z ti24 (ow98.own (k := 1) Z).get Z) nd ?_
            refine U.p (v := .pointer (some ⟨b81, 4, none⟩)) Z Z (.inr ⟨_, _, _, Z, Z, ((L 1 Z Z).trans (cB g141))⟩) (S.fieldAddr Z (L 10 Z Z) Try.underlying29 Z ti3 Z Z) ?_
            refine U.k Z Z (.inr ⟨_, _, _, Z, Z, ((L 2 Z Z).trans (cB g141))⟩) (S.load Z (L 0 Z Z) Try.underlying3 Z ((ow98.own (k := 0) Z).cell Z)) nd ?_
            have f143 := f89.up le96
            obtain ⟨x144, hx145, h146⟩ := bindS h142
            refine O.call (V := V95) Z Z (.inr ⟨_, _, _, Z, Z, ((L 3 Z Z).trans (cB g141))⟩) Z en15 (aC (L 2 Z Z) (aC (L 0 Z Z) aN)) (wk_ref08_count V95 _ p0 x68.imm v1 f143 ow98 _ hx145) (fun _ _ _ _ => nd) (fun v147 V148 le149 hp150 => ?_)
            obtain ⟨rfl, ow151⟩ := hp150
            refine U.p Z Z (.inr ⟨_, _, _, Z, Z, ((L 4 Z Z).trans (cB g141))⟩) (S.neqI Z (L 0 Z Z) K) ?_
            refine U.p Z Z (.inr ⟨_, _, _, Z, Z, ((L 9 Z Z).trans (cB g123))⟩) (S.pickT Z ((L 5 Z Z).trans (cB g141)) (L 0 Z Z)) ?_
            have e152 := Option.some.inj h146
            subst e152
            exact kk [(62, .bool (decide (x144 ≠ 1))), (61, .bool (decide (x144 ≠ 1))), (60, .int .i64 x144), (59, .int .i64 x68.imm), (58, .pointer (some ⟨b81, 4, none⟩)), (57, .agg #[.string p0.name, .int .i64 p0.params, .int .i64 p0.regs, v1])] _ ⟨.bool (decide (x144 ≠ 1)), .int .i64 x144, .int .i64 x68.imm, .pointer (some ⟨b81, 4, none⟩), .agg #[.string p0.name, .int .i64 p0.params, .int .i64 p0.regs, v1], V148, Z, le149, Z, ow151⟩
           ·have h153 := ifF g141 hy130
            refine U.x Z Z Z Z ((L 0 Z Z).trans (cB g141)) (by decide) ?_
            refine U.x Z Z Z Z ((L 1 Z Z).trans (cB g141)) (by decide) ?_
            refine U.x Z Z Z Z ((L 2 Z Z).trans (cB g141)) (by decide) ?_
            refine U.x Z Z Z Z ((L 3 Z Z).trans (cB g141)) (by decide) ?_
            refine U.x Z Z Z Z ((L 4 Z Z).trans (cB g141)) (by decide) ?_
            refine U.p Z Z (.inr ⟨_, _, _, Z, Z, ((L 9 Z Z).trans (cB g123))⟩) (S.pickF Z ((L 5 Z Z).trans (cB g141)) K) ?_
            have e154 := Option.some.inj h153
            subst e154
            exact kk [(62, .bool false), (61, .tuple #[]), (60, .tuple #[]), (59, .tuple #[]), (58, .tuple #[]), (57, .tuple #[])] _ ⟨.tuple #[], .tuple #[], .tuple #[], .tuple #[], .tuple #[], V95, Z, (.refl _), Z, ow98⟩
       ·have h155 := ifF c66 h65
        refine WP.exit ?_
        refine sqE (sqE (blkE (sqN ?_)))
        have h156 := exitS h155 e63
        refine WP.usreg Z ?_
        refine U.p Z Z (.inl Z) (S.assign Z K) ?_
        refine U.done (nr Z) ?_
        refine WP.ret ?_
        refine fin.slot (.inr Z) Z (L 0 Z Z) ⟨V58, Z, (le5.trans le59), ?_⟩
        have ow157 := ow60.drop 0 Z
        have e158 := Option.some.inj h156
        subst e158
        exact ⟨rfl, ow157⟩
     ·intro kk
      refine bcase (b := (decide (x27.op ≠ 12)) && (decide (x27.op ≠ 15))) (fun g159 => ?_) (fun g159 => ?_)
      ·skip
       refine U.p Z Z (.inr ⟨_, _, _, Z, Z, ((L 0 Z Z).trans (cB g159))⟩) (S.move Z (L 7 Z Z)) ?_
       refine U.p Z Z (.inr ⟨_, _, _, Z, Z, ((L 1 Z Z).trans (cB g159))⟩) (S.neqI Z (L 0 Z Z) K) ?_
       refine U.p Z Z (.inl Z) (S.pickT Z ((L 2 Z Z).trans (cB g159)) (L 0 Z Z)) ?_
       exact kk [(40, .bool (decide (x27.op ≠ 16))), (39, .bool (decide (x27.op ≠ 16))), (38, .int .i64 x27.op)] _ ⟨.bool (decide (x27.op ≠ 16)), .int .i64 x27.op, Z, (by rw [g159, Bool.true_and])⟩
      ·skip
       refine U.x Z Z Z Z ((L 0 Z Z).trans (cB g159)) (by decide) ?_
       refine U.x Z Z Z Z ((L 1 Z Z).trans (cB g159)) (by decide) ?_
       refine U.p Z Z (.inl Z) (S.pickF Z ((L 2 Z Z).trans (cB g159)) K) ?_
       exact kk [(40, .bool false), (39, .tuple #[]), (38, .tuple #[])] _ ⟨.tuple #[], .tuple #[], Z, (by rw [g159, Bool.false_and])⟩
    ·intro kk
     refine bcase (b := decide (x27.op ≠ 12)) (fun g160 => ?_) (fun g160 => ?_)
     ·skip
      refine U.p Z Z (.inr ⟨_, _, _, Z, Z, ((L 0 Z Z).trans (cB g160))⟩) (S.move Z (L 3 Z Z)) ?_
      refine U.p Z Z (.inr ⟨_, _, _, Z, Z, ((L 1 Z Z).trans (cB g160))⟩) (S.neqI Z (L 0 Z Z) K) ?_
      refine U.p Z Z (.inl Z) (S.pickT Z ((L 2 Z Z).trans (cB g160)) (L 0 Z Z)) ?_
      exact kk [(36, .bool (decide (x27.op ≠ 15))), (35, .bool (decide (x27.op ≠ 15))), (34, .int .i64 x27.op)] _ ⟨.bool (decide (x27.op ≠ 15)), .int .i64 x27.op, Z, (by rw [g160, Bool.true_and])⟩
     ·skip
      refine U.x Z Z Z Z ((L 0 Z Z).trans (cB g160)) (by decide) ?_
      refine U.x Z Z Z Z ((L 1 Z Z).trans (cB g160)) (by decide) ?_
      refine U.p Z Z (.inl Z) (S.pickF Z ((L 2 Z Z).trans (cB g160)) K) ?_
      exact kk [(36, .bool false), (35, .tuple #[]), (34, .tuple #[])] _ ⟨.tuple #[], .tuple #[], Z, (by rw [g160, Bool.false_and])⟩
  ·intro kk
   refine bcase (b := (decide ((p0.code.length : Int) = 0)) || (decide (p0.params < 0))) (fun g161 => ?_) (fun g161 => ?_)
   ·skip
    refine U.x Z Z Z Z ((L 0 Z Z).trans (cB g161)) (by decide) ?_
    refine U.x Z Z Z Z ((L 1 Z Z).trans (cB g161)) (by decide) ?_
    refine U.x Z Z Z Z ((L 2 Z Z).trans (cB g161)) (by decide) ?_
    refine U.x Z Z Z Z ((L 3 Z Z).trans (cB g161)) (by decide) ?_
    refine U.x Z Z Z Z ((L 4 Z Z).trans (cB g161)) (by decide) ?_
    refine U.p Z Z (.inl Z) (S.pickT Z ((L 5 Z Z).trans (cB g161)) K) ?_
    exact kk [(23, .bool true), (22, .tuple #[]), (21, .tuple #[]), (20, .tuple #[]), (19, .tuple #[]), (18, .tuple #[])] _ ⟨.tuple #[], .tuple #[], .tuple #[], .tuple #[], .tuple #[], Z, (by rw [g161, Bool.true_or])⟩
   ·skip
    refine U.p (v := .pointer (some ⟨b3, 1, none⟩)) Z Z (.inr ⟨_, _, _, Z, Z, ((L 0 Z Z).trans (cB g161))⟩) (S.fieldAddr Z (L 13 Z Z) Try.underlying24 Z ti3 Z Z) ?_
    refine U.k Z Z (.inr ⟨_, _, _, Z, Z, ((L 1 Z Z).trans (cB g161))⟩) (S.load Z (L 0 Z Z) Try.underlying3 Z ((ow6.own (k := 0) Z).cell Z)) nd ?_
    refine U.p (v := .pointer (some ⟨b3, 2, none⟩)) Z Z (.inr ⟨_, _, _, Z, Z, ((L 2 Z Z).trans (cB g161))⟩) (S.fieldAddr Z (L 15 Z Z) Try.underlying24 Z ti3 Z Z) ?_
    refine U.k Z Z (.inr ⟨_, _, _, Z, Z, ((L 3 Z Z).trans (cB g161))⟩) (S.load Z (L 0 Z Z) Try.underlying3 Z ((ow6.own (k := 0) Z).cell Z)) nd ?_
    refine U.p Z Z (.inr ⟨_, _, _, Z, Z, ((L 4 Z Z).trans (cB g161))⟩) (S.gtr Z (L 2 Z Z) (L 0 Z Z)) ?_
    refine U.p Z Z (.inl Z) (S.pickF Z ((L 5 Z Z).trans (cB g161)) (L 0 Z Z)) ?_
    exact kk [(23, .bool (decide (p0.regs < p0.params))), (22, .bool (decide (p0.regs < p0.params))), (21, .int .i64 p0.regs), (20, .pointer (some ⟨b3, 2, none⟩)), (19, .int .i64 p0.params), (18, .pointer (some ⟨b3, 1, none⟩))] _ ⟨.bool (decide (p0.regs < p0.params)), .int .i64 p0.regs, .pointer (some ⟨b3, 2, none⟩), .int .i64 p0.params, .pointer (some ⟨b3, 1, none⟩), Z, (by rw [g161, Bool.false_or])⟩
 ·intro kk
  refine bcase (b := decide ((p0.code.length : Int) = 0)) (fun g162 => ?_) (fun g162 => ?_)
  ·skip
   refine U.x Z Z Z Z ((L 0 Z Z).trans (cB g162)) (by decide) ?_
   refine U.x Z Z Z Z ((L 1 Z Z).trans (cB g162)) (by decide) ?_
   refine U.x Z Z Z Z ((L 2 Z Z).trans (cB g162)) (by decide) ?_
   refine U.p Z Z (.inl Z) (S.pickT Z ((L 3 Z Z).trans (cB g162)) K) ?_
   exact kk [(16, .bool true), (15, .tuple #[]), (14, .tuple #[]), (13, .tuple #[])] _ ⟨.tuple #[], .tuple #[], .tuple #[], Z, (by rw [g162, Bool.true_or])⟩
  ·skip
   refine U.p (v := .pointer (some ⟨b3, 1, none⟩)) Z Z (.inr ⟨_, _, _, Z, Z, ((L 0 Z Z).trans (cB g162))⟩) (S.fieldAddr Z (L 8 Z Z) Try.underlying24 Z ti3 Z Z) ?_
   refine U.k Z Z (.inr ⟨_, _, _, Z, Z, ((L 1 Z Z).trans (cB g162))⟩) (S.load Z (L 0 Z Z) Try.underlying3 Z ((ow6.own (k := 0) Z).cell Z)) nd ?_
   refine U.p Z Z (.inr ⟨_, _, _, Z, Z, ((L 2 Z Z).trans (cB g162))⟩) (S.lss Z (L 0 Z Z) K) ?_
   refine U.p Z Z (.inl Z) (S.pickF Z ((L 3 Z Z).trans (cB g162)) (L 0 Z Z)) ?_
   exact kk [(16, .bool (decide (p0.params < 0))), (15, .bool (decide (p0.params < 0))), (14, .int .i64 p0.params), (13, .pointer (some ⟨b3, 1, none⟩))] _ ⟨.bool (decide (p0.params < 0)), .int .i64 p0.params, .pointer (some ⟨b3, 1, none⟩), Z, (by rw [g162, Bool.false_or])⟩
theorem wk_ref10_reads (V : Vw) (Rs : List At) (p0 : TIns) (p1 : Int) (v1 : Value) (f2 : Fz (RT.int .i64) V v1 p0.args) (ow : Ow V (Rs)) (r : Bool) (h : ref10_reads p0 p1 = some r) : ∃ v V', Cl Try.prog 0 36 #[.agg #[.int .i64 p0.op, .int .i64 p0.d, .int .i64 p0.a, .int .i64 p0.b, .int .i64 p0.imm, v1, .int .i64 p0.what, .bool p0.volatile, .bool p0.final], .int .i64 p1] V.H v V'.H ∧ V.le V' ∧ (v = .bool r ∧ Ow V' (Rs)) := by
 refine Ct.of (Nat.zero_le _) Try.func36 Z (nr Z) ?_
 unfold ref10_reads at h
 refine WP.usreg Z ?_
 refine O.box ow Z Z (.inl Z) Z (L 0 Z Z) (by simp [topV]) Z nd (fun b3 V4 le5 ow6 => ?_)
 refine U.p Z Z (.inl Z) (S.assign Z K) ?_
 refine U.done (nr Z) ?_
 refine WP.seq ?_
 refine WP.usreg Z ?_
 refine U.p (v := .pointer (some ⟨b3, 5, none⟩)) Z Z (.inl Z) (S.fieldAddr Z (L 1 Z Z) Try.underlying29 Z ti27 Z Z) ?_
 refine U.k Z Z (.inl Z) (S.load Z (L 0 Z Z) Try.underlying27 Z ((ow6.own (k := 0) Z).cell Z)) nd ?_
 refine U.p Z Z (.inl Z) (f2.1.len Z (L 0 Z Z) Try.underlying27) ?_
 refine U.p Z Z (.inl Z) (S.move Z K) ?_
 refine U.done (nr Z) ?_
 refine WP.blk ?_
 unfold ref10_reads_l1 at h
 obtain ⟨n10, hn9⟩ := loopO_some.1 h
 refine WP.loopI2 (fun n l V' => ∃ (x8 : Int), l = [(1, .int .i64 p1), (2, .pointer (some ⟨b3, 0, none⟩)), (8, v1), (9, .int .i64 (p0.args.length : Int)), (10, .int .i64 x8)] ∧ V4.le V' ∧ Ow V' (.pt b3 (.cells 0 [.int .i64 p0.op, .int .i64 p0.d, .int .i64 p0.a, .int .i64 p0.b, .int .i64 p0.imm, v1, .int .i64 p0.what, .bool p0.volatile, .bool p0.final]) :: Rs) ∧ itO (fun s => ref10_reads_l1b p0 p1 s) n x8 = some r) n10 _ ⟨0, Z, .refl _, ow6, hn9⟩ (allCons (L 7 Z Z) (allCons (L 5 Z Z) (allCons (L 2 Z Z) (allCons (L 1 Z Z) (allCons (L 0 Z Z) allNil))))) ?_
 rintro _ _ V11 ⟨x8, rfl, le12, ow13, h17⟩
 obtain ⟨m14, q15, rfl, h18, e16⟩ := itS h17
 replace h18 : ref10_reads_l1b p0 p1 x8 = some q15 := h18
 unfold ref10_reads_l1b at h18
 refine WP.usreg Z ?_
 refine U.p Z Z (.inl Z) (S.lss Z (L 4 Z Z) (L 3 Z Z)) ?_
 refine U.done (nr Z) ?_
 refine WP.seq ?_
 refine WP.cond _ (L 0 Z Z) Z (fun c19 => ?_) (fun c19 => ?_)
 ·have h20 := ifT c19 h18
  refine WP.skip ?_
  refine sqN ?_
  refine WP.seq ?_
  refine WP.blk ?_
  refine WP.usreg Z ?_
  obtain ⟨x21, hx22, h23⟩ := bindS h20
  obtain ⟨b24, o25, c26, cs27, hv28, hf29, hr30, hc31⟩ := f2.at hx22
  obtain rfl : cs27 = [.int .i64 x21] := hr30
  refine U.p Z Z (.inl Z) (S.index Z ((L 3 Z Z).trans hv28) (L 5 Z Z) Try.underlying27 ti3 (ix_ge hx22) (ix_lt hx22)) ?_
  refine U.k Z Z (.inl Z) (S.load Z (L 0 Z Z) Try.underlying3 Z ((le5.trans le12).cell hf29 (hc31 0 _ Z))) nd ?_
  refine U.p Z Z (.inl Z) (S.assign Z (L 0 Z Z)) ?_
  refine U.done (nr Z) ?_
  refine WP.usreg Z ?_
  refine U.p Z Z (.inl Z) (S.move Z (L 0 Z Z)) ?_
  refine U.p Z Z (.inl Z) (S.move Z (L 5 Z Z)) ?_
  refine U.p Z Z (.inl Z) (S.eqlI Z (L 1 Z Z) (L 0 Z Z)) ?_
  refine U.done (nr Z) ?_
  refine WP.cond _ (L 0 Z Z) Z (fun c32 => ?_) (fun c32 => ?_)
  ·have h33 := ifT c32 h23
   refine WP.usreg Z ?_
   refine U.p Z Z (.inl Z) (S.assign Z K) ?_
   refine U.done (nr Z) ?_
   refine WP.ret ?_
   refine blkR (sqR (sqR (blkR (sqR ?_))))
   have h34 := exitS h33 e16
   refine fin.slot (.inr Z) Z (L 0 Z Z) ⟨V11, Z, (le5.trans le12), ?_⟩
   have ow35 := ow13.drop 0 Z
   have e36 := Option.some.inj h34
   subst e36
   exact ⟨rfl, ow35⟩
  ·have h37 := ifF c32 h23
   refine WP.skip ?_
   refine blkN (sqN ?_)
   refine WP.ureg Z ?_
   refine U.p Z Z (.inl Z) (S.add Z (L 11 Z Z) K) ?_
   refine U.p Z Z (.inl Z) (S.move Z (L 0 Z Z)) ?_
   refine U.done (nr Z) ?_
   refine sqN ?_
   exact ⟨_, V11, Z, ⟨m14, Nat.lt_succ_self _, w64 (x8 + 1), Z, le12, ow13, backS h37 e16⟩, (allCons (L 9 Z Z) (allCons (L 10 Z Z) (allCons (L 11 Z Z) (allCons (L 12 Z Z) (allCons (L 0 Z Z) allNil)))))⟩
 ·have h38 := ifF c19 h18
  refine WP.exit ?_
  refine sqE (sqE (blkE (sqN ?_)))
  have h39 := exitS h38 e16
  refine WP.usreg Z ?_
  refine U.p (v := .pointer (some ⟨b3, 2, none⟩)) Z Z (.inl Z) (S.fieldAddr Z (L 2 Z Z) Try.underlying29 Z ti3 Z Z) ?_
  refine U.k Z Z (.inl Z) (S.load Z (L 0 Z Z) Try.underlying3 Z ((ow13.own (k := 0) Z).cell Z)) nd ?_
  refine U.p Z Z (.inl Z) (S.move Z (L 3 Z Z)) ?_
  refine U.p Z Z (.inl Z) (S.eqlI Z (L 1 Z Z) (L 0 Z Z)) ?_
  refine U.p Z Z (.inl Z) (S.move Z (L 0 Z Z)) ?_
  refine U.joinX 10 (fun e H => ∃ (u40 u41 u42 u43 : Value), H = V11.H ∧ e = [(27, .bool ((decide (p0.a = p1)) || (decide (p0.b = p1)))), (26, u40), (25, u41), (24, u42), (23, u43)]) ?_ ?_
  ·rintro _ _ ⟨u40, u41, u42, u43, rfl, rfl⟩
   refine U.p Z Z (.inl Z) (S.assign Z (L 0 Z Z)) ?_
   refine U.done (nr Z) ?_
   refine WP.ret ?_
   refine fin.slot (.inr Z) Z (L 0 Z Z) ⟨V11, Z, (le5.trans le12), ?_⟩
   have ow47 := ow13.drop 0 Z
   have e48 := Option.some.inj h39
   subst e48
   exact ⟨rfl, ow47⟩
  ·intro kk
   refine bcase (b := decide (p0.a = p1)) (fun g49 => ?_) (fun g49 => ?_)
   ·skip
    refine U.x Z Z Z Z ((L 0 Z Z).trans (cB g49)) (by decide) ?_
    refine U.x Z Z Z Z ((L 1 Z Z).trans (cB g49)) (by decide) ?_
    refine U.x Z Z Z Z ((L 2 Z Z).trans (cB g49)) (by decide) ?_
    refine U.x Z Z Z Z ((L 3 Z Z).trans (cB g49)) (by decide) ?_
    refine U.p Z Z (.inl Z) (S.pickT Z ((L 4 Z Z).trans (cB g49)) K) ?_
    exact kk [(27, .bool true), (26, .tuple #[]), (25, .tuple #[]), (24, .tuple #[]), (23, .tuple #[])] _ ⟨.tuple #[], .tuple #[], .tuple #[], .tuple #[], Z, (by rw [g49, Bool.true_or])⟩
   ·skip
    refine U.p (v := .pointer (some ⟨b3, 3, none⟩)) Z Z (.inr ⟨_, _, _, Z, Z, ((L 0 Z Z).trans (cB g49))⟩) (S.fieldAddr Z (L 7 Z Z) Try.underlying29 Z ti3 Z Z) ?_
    refine U.k Z Z (.inr ⟨_, _, _, Z, Z, ((L 1 Z Z).trans (cB g49))⟩) (S.load Z (L 0 Z Z) Try.underlying3 Z ((ow13.own (k := 0) Z).cell Z)) nd ?_
    refine U.p Z Z (.inr ⟨_, _, _, Z, Z, ((L 2 Z Z).trans (cB g49))⟩) (S.move Z (L 8 Z Z)) ?_
    refine U.p Z Z (.inr ⟨_, _, _, Z, Z, ((L 3 Z Z).trans (cB g49))⟩) (S.eqlI Z (L 1 Z Z) (L 0 Z Z)) ?_
    refine U.p Z Z (.inl Z) (S.pickF Z ((L 4 Z Z).trans (cB g49)) (L 0 Z Z)) ?_
    exact kk [(27, .bool (decide (p0.b = p1))), (26, .bool (decide (p0.b = p1))), (25, .int .i64 p1), (24, .int .i64 p0.b), (23, .pointer (some ⟨b3, 3, none⟩))] _ ⟨.bool (decide (p0.b = p1)), .int .i64 p1, .int .i64 p0.b, .pointer (some ⟨b3, 3, none⟩), Z, (by rw [g49, Bool.false_or])⟩
theorem wk_ref10_Next (V : Vw) (Rs : List At) (p0 : TFunc) (p1 : Int) (v1 : Value) (f2 : Fz RT_TIns V v1 p0.code) (ow : Ow V (Rs)) (r : List Int) (h : ref10_Next p0 p1 = some r) : ∃ v V', Cl Try.prog 0 46 #[.agg #[.string p0.name, .int .i64 p0.params, .int .i64 p0.regs, v1], .int .i64 p1] V.H v V'.H ∧ V.le V' ∧ (∃ (v3 : Value), v = v3 ∧ Ow V' (.os (RT.int .i64) v3 r :: Rs)) := by
 refine Ct.of (Nat.zero_le _) Try.func46 Z (nr Z) ?_
 unfold ref10_Next at h
 refine WP.usreg Z ?_
 refine O.box ow Z Z (.inl Z) Z (L 0 Z Z) (by simp [topV]) Z nd (fun b5 V6 le7 ow8 => ?_)
 refine U.p Z Z (.inl Z) (S.assign Z K) ?_
 refine U.done (nr Z) ?_
 refine WP.seq ?_
 refine WP.usreg Z ?_
 refine U.p Z Z (.inl Z) (S.move Z (L 3 Z Z)) ?_
 refine U.p Z Z (.inl Z) (S.lss Z (L 0 Z Z) K) ?_
 refine U.p Z Z (.inl Z) (S.move Z (L 0 Z Z)) ?_
 refine U.joinX 9 (fun e H => ∃ (u10 u11 u12 u13 u14 : Value), H = V6.H ∧ e = [(17, .bool ((decide (p1 < 0)) || (decide ((p0.code.length : Int) ≤ p1)))), (16, u10), (15, u11), (14, u12), (13, u13), (12, u14)]) ?_ ?_
 ·rintro _ _ ⟨u10, u11, u12, u13, u14, rfl, rfl⟩
  refine U.done (nr Z) ?_
  refine WP.cond _ (L 0 Z Z) Z (fun c18 => ?_) (fun c18 => ?_)
  ·have h19 := ifT c18 h
   refine WP.usreg Z ?_
   refine U.p Z Z (.inl Z) (S.assign Z K) ?_
   refine U.done (nr Z) ?_
   refine WP.ret ?_
   refine sqR ?_
   have ow20 := ow8.nil (RT.int .i64)
   refine fin.slot (.inr Z) Z (L 0 Z Z) ⟨V6, Z, le7, ?_⟩
   have ow22 := ow20.drop 1 Z
   have e23 := Option.some.inj h19
   subst e23
   exact ⟨(.slice none 0 0), Z, ow22⟩
  ·have h24 := ifF c18 h
   refine WP.skip ?_
   refine sqN ?_
   refine WP.usreg Z ?_
   refine U.p (v := .pointer (some ⟨b5, 3, none⟩)) Z Z (.inl Z) (S.fieldAddr Z (L 10 Z Z) Try.underlying24 Z ti22 Z Z) ?_
   refine U.k Z Z (.inl Z) (S.load Z (L 0 Z Z) Try.underlying22 Z ((ow8.own (k := 0) Z).cell Z)) nd ?_
   refine U.p Z Z (.inl Z) (S.move Z (L 14 Z Z)) ?_
   obtain ⟨x25, hx26, h27⟩ := bindS h24
   obtain ⟨b28, o29, c30, cs31, hv32, hf33, hr34, hc35⟩ := f2.at hx26
   obtain ⟨v36, rfl, f37⟩ := hr34
   refine U.p Z Z (.inl Z) (S.index Z ((L 1 Z Z).trans hv32) (L 0 Z Z) Try.underlying22 ti29 (ix_ge hx26) (ix_lt hx26)) ?_
   refine U.k Z Z (.inl Z) (S.loadN (cs := [.int .i64 x25.op, .int .i64 x25.d, .int .i64 x25.a, .int .i64 x25.b, .int .i64 x25.imm, v36, .int .i64 x25.what, .bool x25.volatile, .bool x25.final]) Z (L 0 Z Z) Try.underlying29 Z ti29 Z (fun j v hj => le7.cell hf33 (hc35 j v hj))) nd ?_
   refine O.alloc ow8 Z Z (.inl Z) Z ti29 Z Z nd (fun b38 V39 le40 ow41 => ?_)
   refine O.store (k := 0) (cs := [.int .i64 x25.op, .int .i64 x25.d, .int .i64 x25.a, .int .i64 x25.b, .int .i64 x25.imm, v36, .int .i64 x25.what, .bool x25.volatile, .bool x25.final]) (c' := [.int .i64 x25.op, .int .i64 x25.d, .int .i64 x25.a, .int .i64 x25.b, .int .i64 x25.imm, v36, .int .i64 x25.what, .bool x25.volatile, .bool x25.final]) ow41 Z Z Z (.inl Z) Z (L 0 Z Z) (L 1 Z Z) ti29 (by simp [topV]) Z Z (nr Z) (by have q0 := f37.one; simp only [List.all_cons, List.all_nil, q0]; rfl) Z nd (fun V43 le44 ow45 => ?_)
   refine U.done (nr Z) ?_
   refine WP.usreg Z ?_
   refine U.p Z Z (.inl Z) (S.assign Z K) ?_
   refine U.done (nr Z) ?_
   refine WP.seqI (fun l V' => ∃ (v47 : Value) (xs48 : List Int), l = [(2, .pointer (some ⟨b5, 0, none⟩)), (5, .pointer (some ⟨b38, 0, none⟩)), (6, v47)] ∧ V43.le V' ∧ Ow V' (.pt b5 (.cells 0 [.string p0.name, .int .i64 p0.params, .int .i64 p0.regs, v1]) :: .pt b38 (.cells 9 [.int .i64 x25.op, .int .i64 x25.d, .int .i64 x25.a, .int .i64 x25.b, .int .i64 x25.imm, v36, .int .i64 x25.what, .bool x25.volatile, .bool x25.final]) :: .os (RT.int .i64) v47 xs48 :: Rs) ∧ ref10_Next_k1 p0 x25 xs48 = some r) ?_ ?_
   ·rintro _ V49 ⟨v47, xs48, rfl, le50, ow51, h52⟩
    unfold ref10_Next_k1 at h52
    refine WP.seqI (fun l V' => ∃ (v54 : Value) (xs55 : List Int), l = [(6, v54)] ∧ V49.le V' ∧ Ow V' (.os (RT.int .i64) v54 xs55 :: Rs) ∧ ref10_Next_k2 xs55 = some r) ?_ ?_
    ·rintro _ V56 ⟨v54, xs55, rfl, le57, ow58, h59⟩
     unfold ref10_Next_k2 at h59
     refine WP.usreg Z ?_
     refine U.p Z Z (.inl Z) (S.move Z (L 0 Z Z)) ?_
     refine U.p Z Z (.inl Z) (S.assign Z (L 0 Z Z)) ?_
     refine U.done (nr Z) ?_
     refine WP.ret ?_
     refine fin.slot (.inr Z) Z (L 0 Z Z) ⟨V56, Z, ((((le7.trans le40).trans le44).trans le50).trans le57), ?_⟩
     have e60 := Option.some.inj h59
     subst e60
     exact ⟨v54, Z, ow58⟩
    ·skip
     refine WP.usreg Z ?_
     refine U.p (v := .pointer (some ⟨b38, 0, none⟩)) Z Z (.inl Z) (S.fieldAddr Z (L 1 Z Z) Try.underlying29 Z ti3 Z Z) ?_
     refine U.k Z Z (.inl Z) (S.load Z (L 0 Z Z) Try.underlying3 Z ((ow51.own (k := 1) Z).cell Z)) nd ?_
     refine U.p Z Z (.inl Z) (S.eqlI Z (L 0 Z Z) K) ?_
     refine U.p Z Z (.inl Z) (S.move Z (L 0 Z Z)) ?_
     refine U.joinX 8 (fun e H => ∃ (u61 u62 u63 : Value), H = V49.H ∧ e = [(56, .bool ((decide (x25.op = 12)) || (decide (x25.op = 13)))), (55, u61), (54, u62), (53, u63)]) ?_ ?_
     ·rintro _ _ ⟨u61, u62, u63, rfl, rfl⟩
      refine U.p Z Z (.inl Z) (S.move Z (L 0 Z Z)) ?_
      refine U.joinX 13 (fun e H => ∃ (u67 u68 u69 : Value), H = V49.H ∧ e = [(61, .bool (((decide (x25.op = 12)) || (decide (x25.op = 13))) || (decide (x25.op = 17)))), (60, u67), (59, u68), (58, u69)]) ?_ ?_
      ·rintro _ _ ⟨u67, u68, u69, rfl, rfl⟩
       refine U.done (nr Z) ?_
       refine WP.cond _ (L 0 Z Z) Z (fun c73 => ?_) (fun c73 => ?_)
       ·have h74 := ifT c73 h52
        refine WP.usreg Z ?_
        refine U.p (v := .pointer (some ⟨b5, 3, none⟩)) Z Z (.inl Z) (S.fieldAddr Z (L 13 Z Z) Try.underlying24 Z ti22 Z Z) ?_
        refine U.k Z Z (.inl Z) (S.load Z (L 0 Z Z) Try.underlying22 Z ((ow51.own (k := 0) Z).cell Z)) nd ?_
        refine U.p Z Z (.inl Z) (f2.1.len Z (L 0 Z Z) Try.underlying22) ?_
        refine U.p Z Z (.inl Z) (S.move Z K) ?_
        refine U.done (nr Z) ?_
        refine WP.blk ?_
        have ow79 := ow51.drop 0 Z
        unfold ref10_Next_l1 at h74
        obtain ⟨n81, hn80⟩ := loopO_some.1 h74
        refine WP.loopI2 (fun n l V' => ∃ (v76 : Value) (xs77 : List Int) (x78 : Int), l = [(5, .pointer (some ⟨b38, 0, none⟩)), (6, v76), (63, v1), (64, .int .i64 (p0.code.length : Int)), (65, .int .i64 x78)] ∧ V49.le V' ∧ Ow V' (.pt b38 (.cells 9 [.int .i64 x25.op, .int .i64 x25.d, .int .i64 x25.a, .int .i64 x25.b, .int .i64 x25.imm, v36, .int .i64 x25.what, .bool x25.volatile, .bool x25.final]) :: .os (RT.int .i64) v76 xs77 :: Rs) ∧ itO (fun s => ref10_Next_l1b p0 x25 s.1 s.2) n (xs77, x78) = some r) n81 _ ⟨v47, xs48, 0, Z, .refl _, ow79, hn80⟩ (allCons (L 18 Z Z) (allCons (L 19 Z Z) (allCons (L 2 Z Z) (allCons (L 1 Z Z) (allCons (L 0 Z Z) allNil))))) ?_
        rintro _ _ V82 ⟨v76, xs77, x78, rfl, le83, ow84, h88⟩
        obtain ⟨m85, q86, rfl, h89, e87⟩ := itS h88
        replace h89 : ref10_Next_l1b p0 x25 xs77 x78 = some q86 := h89
        unfold ref10_Next_l1b at h89
        refine WP.usreg Z ?_
        refine U.p Z Z (.inl Z) (S.lss Z (L 4 Z Z) (L 3 Z Z)) ?_
        refine U.done (nr Z) ?_
        refine WP.seq ?_
        refine WP.cond _ (L 0 Z Z) Z (fun c90 => ?_) (fun c90 => ?_)
        ·have h91 := ifT c90 h89
         refine WP.skip ?_
         refine sqN ?_
         refine WP.seqI (fun l V' => ∃ (v93 : Value) (xs94 : List Int), l = [(5, .pointer (some ⟨b38, 0, none⟩)), (6, v93), (63, v1), (64, .int .i64 (p0.code.length : Int)), (65, .int .i64 x78)] ∧ V82.le V' ∧ Ow V' (.pt b38 (.cells 9 [.int .i64 x25.op, .int .i64 x25.d, .int .i64 x25.a, .int .i64 x25.b, .int .i64 x25.imm, v36, .int .i64 x25.what, .bool x25.volatile, .bool x25.final]) :: .os (RT.int .i64) v93 xs94 :: Rs) ∧ ref10_Next_k3 x78 xs94 = some q86) ?_ ?_
         ·rintro _ V95 ⟨v93, xs94, rfl, le96, ow97, h98⟩
          unfold ref10_Next_k3 at h98
          refine WP.ureg Z ?_
          refine U.p Z Z (.inl Z) (S.add Z (L 4 Z Z) K) ?_
          refine U.p Z Z (.inl Z) (S.move Z (L 0 Z Z)) ?_
          refine U.done (nr Z) ?_
          refine sqN ?_
          exact ⟨_, V95, Z, ⟨m85, Nat.lt_succ_self _, v93, xs94, w64 (x78 + 1), Z, (le83.trans le96), ow97, backS h98 e87⟩, (allCons (L 2 Z Z) (allCons (L 3 Z Z) (allCons (L 4 Z Z) (allCons (L 5 Z Z) (allCons (L 0 Z Z) allNil)))))⟩
         ·skip
          refine WP.blk ?_
          refine WP.usreg Z ?_
          refine U.p Z Z (.inl Z) (S.move Z (L 5 Z Z)) ?_
          obtain ⟨x99, hx100, h101⟩ := bindS h91
          obtain ⟨b102, o103, c104, cs105, hv106, hf107, hr108, hc109⟩ := f2.at hx100
          obtain ⟨v110, rfl, f111⟩ := hr108
          refine U.p Z Z (.inl Z) (S.index Z ((L 4 Z Z).trans hv106) (L 6 Z Z) Try.underlying22 ti29 (ix_ge hx100) (ix_lt hx100)) ?_
          refine U.k Z Z (.inl Z) (S.loadN (cs := [.int .i64 x99.op, .int .i64 x99.d, .int .i64 x99.a, .int .i64 x99.b, .int .i64 x99.imm, v110, .int .i64 x99.what, .bool x99.volatile, .bool x99.final]) Z (L 0 Z Z) Try.underlying29 Z ti29 Z (fun j v hj => ((((le7.trans le40).trans le44).trans le50).trans le83).cell hf107 (hc109 j v hj))) nd ?_
          refine O.alloc ow84 Z Z (.inl Z) Z ti29 Z Z nd (fun b112 V113 le114 ow115 => ?_)
          refine U.p Z Z (.inl Z) (S.assign Z (L 3 Z Z)) ?_
          refine O.store (k := 0) (cs := [.int .i64 x99.op, .int .i64 x99.d, .int .i64 x99.a, .int .i64 x99.b, .int .i64 x99.imm, v110, .int .i64 x99.what, .bool x99.volatile, .bool x99.final]) (c' := [.int .i64 x99.op, .int .i64 x99.d, .int .i64 x99.a, .int .i64 x99.b, .int .i64 x99.imm, v110, .int .i64 x99.what, .bool x99.volatile, .bool x99.final]) ow115 Z Z Z (.inl Z) Z (L 1 Z Z) (L 2 Z Z) ti29 (by simp [topV]) Z Z (nr Z) (by have q0 := f111.one; simp only [List.all_cons, List.all_nil, q0]; rfl) Z nd (fun V117 le118 ow119 => ?_)
          refine U.done (nr Z) ?_
          refine WP.usreg Z ?_
          refine U.p (v := .pointer (some ⟨b112, 0, none⟩)) Z Z (.inl Z) (S.fieldAddr Z (L 1 Z Z) Try.underlying29 Z ti3 Z Z) ?_
          refine U.k Z Z (.inl Z) (S.load Z (L 0 Z Z) Try.underlying3 Z ((ow119.own (k := 0) Z).cell Z)) nd ?_
          refine U.p Z Z (.inl Z) (S.eqlI Z (L 0 Z Z) K) ?_
          refine U.p Z Z (.inl Z) (S.move Z (L 0 Z Z)) ?_
          refine U.joinX 10 (fun e H => ∃ (u120 u121 u122 u123 u124 : Value), H = V117.H ∧ e = [(79, .bool ((decide (x99.op = 11)) && (decide (x99.imm = x25.imm)))), (78, u120), (77, u121), (76, u122), (75, u123), (74, u124)]) ?_ ?_
          ·rintro _ _ ⟨u120, u121, u122, u123, u124, rfl, rfl⟩
           refine U.p Z Z (.inl Z) (S.move Z (L 0 Z Z)) ?_
           obtain ⟨y128, hy129, h130⟩ := bindS h101
           refine U.joinX 22 (fun e H => ∃ (u131 u132 u133 u134 u135 u136 u137 u138 u139 u140 : Value), H = V117.H ∧ e = [(91, .bool y128), (90, u131), (89, u132), (88, u133), (87, u134), (86, u135), (85, u136), (84, u137), (83, u138), (82, u139), (81, u140)]) ?_ ?_
           ·rintro _ _ ⟨u131, u132, u133, u134, u135, u136, u137, u138, u139, u140, rfl, rfl⟩
            refine U.done (nr Z) ?_
            refine WP.cond _ (L 0 Z Z) Z (fun c144 => ?_) (fun c144 => ?_)
            ·have h145 := ifT c144 h130
             refine WP.ureg Z ?_
             refine U.p Z Z (.inl Z) (S.move Z (L 29 Z Z)) ?_
             refine U.p Z Z (.inl Z) (S.move Z (L 23 Z Z)) ?_
             refine O.lit (R := (RT.int .i64)) ow119 Z Z (.inl Z) Z Try.underlying27 ti3 Z Z Z (nr Z) Z (aC (L 0 Z Z) aN) (.cons _ _ x78 _ (by simp [topV]) Z .nil) (fun _ => nd) (fun v146 V147 le148 ow149 => ?_)
             obtain ⟨xs151, hx152, h153⟩ := bindS h145
             refine O.append (k := 3) ow149 Z Z Z (.inl Z) Z (L 2 Z Z) (L 0 Z Z) Try.underlying27 ti3 Z Z (nr Z) (ow149.src (k := 0) Z Try.underlying27) hx152 (fun _ _ => nd) (fun v154 V155 le156 ow157 => ?_)
             refine U.p Z Z (.inl Z) (S.assign Z (L 0 Z Z)) ?_
             refine U.done (nr Z) ?_
             refine blkN (sqN ?_)
             have ow159 := ow157.drop 0 Z
             have ow160 := ow159.drop 0 Z
             exact ⟨_, V155, Z, ⟨v154, xs151, Z, (((le114.trans le118).trans le148).trans le156), ow160, h153⟩, (allCons (L 33 Z Z) (allCons (L 0 Z Z) (allCons (L 35 Z Z) (allCons (L 36 Z Z) (allCons (L 37 Z Z) allNil)))))⟩
            ·have h161 := ifF c144 h130
             refine WP.skip ?_
             refine blkN (sqN ?_)
             have ow162 := ow119.drop 0 Z
             exact ⟨_, V117, Z, ⟨v76, xs77, Z, (le114.trans le118), ow162, h161⟩, (allCons (L 28 Z Z) (allCons (L 29 Z Z) (allCons (L 30 Z Z) (allCons (L 31 Z Z) (allCons (L 32 Z Z) allNil)))))⟩
           ·intro kk
            refine bcase (b := (decide (x99.op = 11)) && (decide (x99.imm = x25.imm))) (fun g163 => ?_) (fun g163 => ?_)
            ·have h164 := ifT g163 hy129
             refine U.p Z Z (.inr ⟨_, _, _, Z, Z, ((L 0 Z Z).trans (cB g163))⟩) (S.move Z (L 18 Z Z)) ?_
             refine U.p Z Z (.inr ⟨_, _, _, Z, Z, ((L 1 Z Z).trans (cB g163))⟩) (ow119.oslen (k := 2) Z Z (L 0 Z Z) Try.underlying27) ?_
             refine U.p Z Z (.inr ⟨_, _, _, Z, Z, ((L 2 Z Z).trans (cB g163))⟩) (S.eqlI Z (L 0 Z Z) K) ?_
             refine U.p Z Z (.inr ⟨_, _, _, Z, Z, ((L 3 Z Z).trans (cB g163))⟩) (S.move Z (L 0 Z Z)) ?_
             obtain ⟨y165, hy166, h167⟩ := bindS h164
             refine U.joinX 21 (fun e H => ∃ (u168 u169 u170 u171 u172 : Value), H = V117.H ∧ e = [(90, .bool y165), (89, u168), (88, u169), (87, u170), (86, u171), (85, u172)]) ?_ ?_
             ·rintro _ _ ⟨u168, u169, u170, u171, u172, rfl, rfl⟩
              refine U.p Z Z (.inl Z) (S.pickT Z ((L 10 Z Z).trans (cB g163)) (L 0 Z Z)) ?_
              have e176 := Option.some.inj h167
              subst e176
              exact kk [(91, .bool y165), (90, .bool y165), (89, u168), (88, u169), (87, u170), (86, u171), (85, u172), (84, .bool (decide ((xs77.length : Int) = 0))), (83, .bool (decide ((xs77.length : Int) = 0))), (82, .int .i64 (xs77.length : Int)), (81, v76)] _ ⟨.bool y165, u168, u169, u170, u171, u172, .bool (decide ((xs77.length : Int) = 0)), .bool (decide ((xs77.length : Int) = 0)), .int .i64 (xs77.length : Int), v76, Z, Z⟩
             ·intro kk
              refine bcase (b := decide ((xs77.length : Int) = 0)) (fun g177 => ?_) (fun g177 => ?_)
              ·have h178 := ifT g177 hy166
               refine U.x Z Z Z Z ((L 0 Z Z).trans (cB g177)) (by decide) ?_
               refine U.x Z Z Z Z ((L 1 Z Z).trans (cB g177)) (by decide) ?_
               refine U.x Z Z Z Z ((L 2 Z Z).trans (cB g177)) (by decide) ?_
               refine U.x Z Z Z Z ((L 3 Z Z).trans (cB g177)) (by decide) ?_
               refine U.x Z Z Z Z ((L 4 Z Z).trans (cB g177)) (by decide) ?_
               refine U.p Z Z (.inr ⟨_, _, _, Z, Z, ((L 9 Z Z).trans (cB g163))⟩) (S.pickT Z ((L 5 Z Z).trans (cB g177)) K) ?_
               have e179 := Option.some.inj h178
               subst e179
               exact kk [(90, .bool true), (89, .tuple #[]), (88, .tuple #[]), (87, .tuple #[]), (86, .tuple #[]), (85, .tuple #[])] _ ⟨.tuple #[], .tuple #[], .tuple #[], .tuple #[], .tuple #[], Z, Z⟩
              ·have h180 := ifF g177 hy166
               refine U.p Z Z (.inr ⟨_, _, _, Z, Z, ((L 0 Z Z).trans (cB g177))⟩) (S.move Z (L 22 Z Z)) ?_
               obtain ⟨x181, hx182, h183⟩ := bindS h180
               obtain ⟨b184, o185, n186, c187, hv188⟩ := ow119.ospt (k := 2) Z hx182
               obtain ⟨_, hv189, _⟩ := ow119.osel (k := 2) Z hv188 hx182
               refine U.p Z Z (.inr ⟨_, _, _, Z, Z, ((L 1 Z Z).trans (cB g177))⟩) (S.index Z ((L 0 Z Z).trans hv189) K Try.underlying27 ti3 (ix_ge hx182) (ix_lt hx182)) ?_
               obtain ⟨cs190, hv191, hlt192, hr193, hc194⟩ := ow119.osel (k := 2) Z hv188 hx182
               obtain rfl : cs190 = [.int .i64 x181] := hr193
               refine U.k Z Z (.inr ⟨_, _, _, Z, Z, ((L 2 Z Z).trans (cB g177))⟩) (S.load Z (L 0 Z Z) Try.underlying3 Z (hc194 0 _ Z)) nd ?_
               refine U.p Z Z (.inr ⟨_, _, _, Z, Z, ((L 3 Z Z).trans (cB g177))⟩) (S.move Z (L 18 Z Z)) ?_
               refine U.p Z Z (.inr ⟨_, _, _, Z, Z, ((L 4 Z Z).trans (cB g177))⟩) (S.neqI Z (L 1 Z Z) (L 0 Z Z)) ?_
               refine U.p Z Z (.inr ⟨_, _, _, Z, Z, ((L 9 Z Z).trans (cB g163))⟩) (S.pickF Z ((L 5 Z Z).trans (cB g177)) (L 0 Z Z)) ?_
               have e195 := Option.some.inj h183
               subst e195
               exact kk [(90, .bool (decide (x181 ≠ x78))), (89, .bool (decide (x181 ≠ x78))), (88, .int .i64 x78), (87, .int .i64 x181), (86, .pointer (some ⟨b184, o185 + Int.toNat 0 * 1, none⟩)), (85, v76)] _ ⟨.bool (decide (x181 ≠ x78)), .int .i64 x78, .int .i64 x181, .pointer (some ⟨b184, o185 + Int.toNat 0 * 1, none⟩), v76, Z, Z⟩
            ·have h196 := ifF g163 hy129
             refine U.x Z Z Z Z ((L 0 Z Z).trans (cB g163)) (by decide) ?_
             refine U.x Z Z Z Z ((L 1 Z Z).trans (cB g163)) (by decide) ?_
             refine U.x Z Z Z Z ((L 2 Z Z).trans (cB g163)) (by decide) ?_
             refine U.x Z Z Z Z ((L 3 Z Z).trans (cB g163)) (by decide) ?_
             refine U.z Z Z Z Z (L 0 Z Z) ?_
             refine U.z Z Z Z Z (L 1 Z Z) ?_
             refine U.z Z Z Z Z (L 2 Z Z) ?_
             refine U.z Z Z Z Z (L 3 Z Z) ?_
             refine U.z Z Z Z Z (L 4 Z Z) ?_
             refine U.x Z Z Z Z ((L 9 Z Z).trans (cB g163)) (by decide) ?_
             refine U.p Z Z (.inl Z) (S.pickF Z ((L 10 Z Z).trans (cB g163)) K) ?_
             have e197 := Option.some.inj h196
             subst e197
             exact kk [(91, .bool false), (90, .tuple #[]), (89, .tuple #[]), (88, .tuple #[]), (87, .tuple #[]), (86, .tuple #[]), (85, .tuple #[]), (84, .tuple #[]), (83, .tuple #[]), (82, .tuple #[]), (81, .tuple #[])] _ ⟨.tuple #[], .tuple #[], .tuple #[], .tuple #[], .tuple #[], .tuple #[], .tuple #[], .tuple #[], .tuple #[], .tuple #[], Z, Z⟩
          ·intro kk
           refine bcase (b := decide (x99.op = 11)) (fun g198 => ?_) (fun g198 => ?_)
           ·skip
            refine U.p (v := .pointer (some ⟨b112, 4, none⟩)) Z Z (.inr ⟨_, _, _, Z, Z, ((L 0 Z Z).trans (cB g198))⟩) (S.fieldAddr Z (L 5 Z Z) Try.underlying29 Z ti3 Z Z) ?_
            refine U.k Z Z (.inr ⟨_, _, _, Z, Z, ((L 1 Z Z).trans (cB g198))⟩) (S.load Z (L 0 Z Z) Try.underlying3 Z ((ow119.own (k := 0) Z).cell Z)) nd ?_
            refine U.p (v := .pointer (some ⟨b38, 4, none⟩)) Z Z (.inr ⟨_, _, _, Z, Z, ((L 2 Z Z).trans (cB g198))⟩) (S.fieldAddr Z (L 12 Z Z) Try.underlying29 Z ti3 Z Z) ?_
            refine U.k Z Z (.inr ⟨_, _, _, Z, Z, ((L 3 Z Z).trans (cB g198))⟩) (S.load Z (L 0 Z Z) Try.underlying3 Z ((ow119.own (k := 1) Z).cell Z)) nd ?_
            refine U.p Z Z (.inr ⟨_, _, _, Z, Z, ((L 4 Z Z).trans (cB g198))⟩) (S.eqlI Z (L 2 Z Z) (L 0 Z Z)) ?_
            refine U.p Z Z (.inl Z) (S.pickT Z ((L 5 Z Z).trans (cB g198)) (L 0 Z Z)) ?_
            exact kk [(79, .bool (decide (x99.imm = x25.imm))), (78, .bool (decide (x99.imm = x25.imm))), (77, .int .i64 x25.imm), (76, .pointer (some ⟨b38, 4, none⟩)), (75, .int .i64 x99.imm), (74, .pointer (some ⟨b112, 4, none⟩))] _ ⟨.bool (decide (x99.imm = x25.imm)), .int .i64 x25.imm, .pointer (some ⟨b38, 4, none⟩), .int .i64 x99.imm, .pointer (some ⟨b112, 4, none⟩), Z, (by rw [g198, Bool.true_and])⟩
           ·skip
            refine U.x Z Z Z Z ((L 0 Z Z).trans (cB g198)) (by decide) ?_
            refine U.x Z Z Z Z ((L 1 Z Z).trans (cB g198)) (by decide) ?_
            refine U.x Z Z Z Z ((L 2 Z Z).trans (cB g198)) (by decide) ?_
            refine U.x Z Z Z Z ((L 3 Z Z).trans (cB g198)) (by decide) ?_
            refine U.x Z Z Z Z ((L 4 Z Z).trans (cB g198)) (by decide) ?_
            refine U.p Z Z (.inl Z) (S.pickF Z ((L 5 Z Z).trans (cB g198)) K) ?_
            exact kk [(79, .bool false), (78, .tuple #[]), (77, .tuple #[]), (76, .tuple #[]), (75, .tuple #[]), (74, .tuple #[])] _ ⟨.tuple #[], .tuple #[], .tuple #[], .tuple #[], .tuple #[], Z, (by rw [g198, Bool.false_and])⟩
        ·have h199 := ifF c90 h89
         refine WP.exit ?_
         refine sqE (sqE (blkE (sqN ?_)))
         have h200 := exitS h199 e87
         have ow201 := ow84.drop 0 Z
         exact ⟨_, V82, Z, ⟨v76, xs77, Z, le83, ow201, h200⟩, (allCons (L 2 Z Z) allNil)⟩
       ·have h202 := ifF c73 h52
        refine WP.skip ?_
        refine sqN ?_
        have ow203 := ow51.drop 0 Z
        have ow204 := ow203.drop 0 Z
        exact ⟨_, V49, Z, ⟨v47, xs48, Z, (.refl _), ow204, h202⟩, (allCons (L 15 Z Z) allNil)⟩
      ·intro kk
       refine bcase (b := (decide (x25.op = 12)) || (decide (x25.op = 13))) (fun g205 => ?_) (fun g205 => ?_)
       ·skip
        refine U.x Z Z Z Z ((L 0 Z Z).trans (cB g205)) (by decide) ?_
        refine U.x Z Z Z Z ((L 1 Z Z).trans (cB g205)) (by decide) ?_
        refine U.x Z Z Z Z ((L 2 Z Z).trans (cB g205)) (by decide) ?_
        refine U.p Z Z (.inl Z) (S.pickT Z ((L 3 Z Z).trans (cB g205)) K) ?_
        exact kk [(61, .bool true), (60, .tuple #[]), (59, .tuple #[]), (58, .tuple #[])] _ ⟨.tuple #[], .tuple #[], .tuple #[], Z, (by rw [g205, Bool.true_or])⟩
       ·skip
        refine U.p (v := .pointer (some ⟨b38, 0, none⟩)) Z Z (.inr ⟨_, _, _, Z, Z, ((L 0 Z Z).trans (cB g205))⟩) (S.fieldAddr Z (L 10 Z Z) Try.underlying29 Z ti3 Z Z) ?_
        refine U.k Z Z (.inr ⟨_, _, _, Z, Z, ((L 1 Z Z).trans (cB g205))⟩) (S.load Z (L 0 Z Z) Try.underlying3 Z ((ow51.own (k := 1) Z).cell Z)) nd ?_
        refine U.p Z Z (.inr ⟨_, _, _, Z, Z, ((L 2 Z Z).trans (cB g205))⟩) (S.eqlI Z (L 0 Z Z) K) ?_
        refine U.p Z Z (.inl Z) (S.pickF Z ((L 3 Z Z).trans (cB g205)) (L 0 Z Z)) ?_
        exact kk [(61, .bool (decide (x25.op = 17))), (60, .bool (decide (x25.op = 17))), (59, .int .i64 x25.op), (58, .pointer (some ⟨b38, 0, none⟩))] _ ⟨.bool (decide (x25.op = 17)), .int .i64 x25.op, .pointer (some ⟨b38, 0, none⟩), Z, (by rw [g205, Bool.false_or])⟩
     ·intro kk
      refine bcase (b := decide (x25.op = 12)) (fun g206 => ?_) (fun g206 => ?_)
      ·skip
       refine U.x Z Z Z Z ((L 0 Z Z).trans (cB g206)) (by decide) ?_
       refine U.x Z Z Z Z ((L 1 Z Z).trans (cB g206)) (by decide) ?_
       refine U.x Z Z Z Z ((L 2 Z Z).trans (cB g206)) (by decide) ?_
       refine U.p Z Z (.inl Z) (S.pickT Z ((L 3 Z Z).trans (cB g206)) K) ?_
       exact kk [(56, .bool true), (55, .tuple #[]), (54, .tuple #[]), (53, .tuple #[])] _ ⟨.tuple #[], .tuple #[], .tuple #[], Z, (by rw [g206, Bool.true_or])⟩
      ·skip
       refine U.p (v := .pointer (some ⟨b38, 0, none⟩)) Z Z (.inr ⟨_, _, _, Z, Z, ((L 0 Z Z).trans (cB g206))⟩) (S.fieldAddr Z (L 5 Z Z) Try.underlying29 Z ti3 Z Z) ?_
       refine U.k Z Z (.inr ⟨_, _, _, Z, Z, ((L 1 Z Z).trans (cB g206))⟩) (S.load Z (L 0 Z Z) Try.underlying3 Z ((ow51.own (k := 1) Z).cell Z)) nd ?_
       refine U.p Z Z (.inr ⟨_, _, _, Z, Z, ((L 2 Z Z).trans (cB g206))⟩) (S.eqlI Z (L 0 Z Z) K) ?_
       refine U.p Z Z (.inl Z) (S.pickF Z ((L 3 Z Z).trans (cB g206)) (L 0 Z Z)) ?_
       exact kk [(56, .bool (decide (x25.op = 13))), (55, .bool (decide (x25.op = 13))), (54, .int .i64 x25.op), (53, .pointer (some ⟨b38, 0, none⟩))] _ ⟨.bool (decide (x25.op = 13)), .int .i64 x25.op, .pointer (some ⟨b38, 0, none⟩), Z, (by rw [g206, Bool.false_or])⟩
   ·skip
    refine WP.usreg Z ?_
    refine U.p (v := .pointer (some ⟨b38, 0, none⟩)) Z Z (.inl Z) (S.fieldAddr Z (L 1 Z Z) Try.underlying29 Z ti3 Z Z) ?_
    refine U.k Z Z (.inl Z) (S.load Z (L 0 Z Z) Try.underlying3 Z ((ow45.own (k := 0) Z).cell Z)) nd ?_
    refine U.p Z Z (.inl Z) (S.neqI Z (L 0 Z Z) K) ?_
    refine U.p Z Z (.inl Z) (S.move Z (L 0 Z Z)) ?_
    refine U.joinX 8 (fun e H => ∃ (u207 u208 u209 : Value), H = V43.H ∧ e = [(30, .bool ((decide (x25.op ≠ 12)) && (decide (x25.op ≠ 15)))), (29, u207), (28, u208), (27, u209)]) ?_ ?_
    ·rintro _ _ ⟨u207, u208, u209, rfl, rfl⟩
     refine U.p Z Z (.inl Z) (S.move Z (L 0 Z Z)) ?_
     refine U.joinX 13 (fun e H => ∃ (u213 u214 u215 : Value), H = V43.H ∧ e = [(35, .bool (((decide (x25.op ≠ 12)) && (decide (x25.op ≠ 15))) && (decide (x25.op ≠ 16)))), (34, u213), (33, u214), (32, u215)]) ?_ ?_
     ·rintro _ _ ⟨u213, u214, u215, rfl, rfl⟩
      refine U.p Z Z (.inl Z) (S.move Z (L 0 Z Z)) ?_
      refine U.joinX 21 (fun e H => ∃ (u219 u220 u221 u222 u223 u224 : Value), H = V43.H ∧ e = [(43, .bool ((((decide (x25.op ≠ 12)) && (decide (x25.op ≠ 15))) && (decide (x25.op ≠ 16))) && (decide ((w64 (p1 + 1)) < (p0.code.length : Int))))), (42, u219), (41, u220), (40, u221), (39, u222), (38, u223), (37, u224)]) ?_ ?_
      ·rintro _ _ ⟨u219, u220, u221, u222, u223, u224, rfl, rfl⟩
       refine U.done (nr Z) ?_
       refine WP.cond _ (L 0 Z Z) Z (fun c228 => ?_) (fun c228 => ?_)
       ·have h229 := ifT c228 h27
        refine WP.ureg Z ?_
        refine U.p Z Z (.inl Z) (S.move Z (L 21 Z Z)) ?_
        refine U.p Z Z (.inl Z) (S.move Z (L 41 Z Z)) ?_
        refine U.p Z Z (.inl Z) (S.add Z (L 0 Z Z) K) ?_
        refine O.lit (R := (RT.int .i64)) ow45 Z Z (.inl Z) Z Try.underlying27 ti3 Z Z Z (nr Z) Z (aC (L 0 Z Z) aN) (.cons _ _ (w64 (p1 + 1)) _ (by simp [topV]) Z .nil) (fun _ => nd) (fun v230 V231 le232 ow233 => ?_)
        have ow235 := ow233.nil (RT.int .i64)
        obtain ⟨xs237, hx238, h239⟩ := bindS h229
        refine O.append (k := 0) ow235 Z Z Z (.inl Z) Z (L 3 Z Z) (L 0 Z Z) Try.underlying27 ti3 Z Z (nr Z) (ow235.src (k := 1) Z Try.underlying27) hx238 (fun _ _ => nd) (fun v240 V241 le242 ow243 => ?_)
        refine U.p Z Z (.inl Z) (S.assign Z (L 0 Z Z)) ?_
        refine U.done (nr Z) ?_
        refine sqN ?_
        have ow245 := ow243.drop 1 Z
        have ow246 := ow245.pick 0 Z
        have ow247 := ow246.pick 1 Z
        have ow248 := ow247.pick 2 Z
        exact ⟨_, V241, Z, ⟨v240, xs237, Z, (le232.trans le242), ow248, h239⟩, (allCons (L 44 Z Z) (allCons (L 28 Z Z) (allCons (L 0 Z Z) allNil)))⟩
       ·have h249 := ifF c228 h27
        refine WP.skip ?_
        refine sqN ?_
        have ow250 := ow45.nil (RT.int .i64)
        have ow252 := ow250.pick 0 Z
        have ow253 := ow252.pick 1 Z
        have ow254 := ow253.pick 2 Z
        exact ⟨_, V43, Z, ⟨(.slice none 0 0), [], Z, (.refl _), ow254, h249⟩, (allCons (L 38 Z Z) (allCons (L 22 Z Z) (allCons (L 21 Z Z) allNil)))⟩
      ·intro kk
       refine bcase (b := ((decide (x25.op ≠ 12)) && (decide (x25.op ≠ 15))) && (decide (x25.op ≠ 16))) (fun g255 => ?_) (fun g255 => ?_)
       ·skip
        refine U.p Z Z (.inr ⟨_, _, _, Z, Z, ((L 0 Z Z).trans (cB g255))⟩) (S.move Z (L 33 Z Z)) ?_
        refine U.p Z Z (.inr ⟨_, _, _, Z, Z, ((L 1 Z Z).trans (cB g255))⟩) (S.add Z (L 0 Z Z) K) ?_
        refine U.p (v := .pointer (some ⟨b5, 3, none⟩)) Z Z (.inr ⟨_, _, _, Z, Z, ((L 2 Z Z).trans (cB g255))⟩) (S.fieldAddr Z (L 33 Z Z) Try.underlying24 Z ti22 Z Z) ?_
        refine U.k Z Z (.inr ⟨_, _, _, Z, Z, ((L 3 Z Z).trans (cB g255))⟩) (S.load Z (L 0 Z Z) Try.underlying22 Z ((ow45.own (k := 1) Z).cell Z)) nd ?_
        refine U.p Z Z (.inr ⟨_, _, _, Z, Z, ((L 4 Z Z).trans (cB g255))⟩) (f2.1.len Z (L 0 Z Z) Try.underlying22) ?_
        refine U.p Z Z (.inr ⟨_, _, _, Z, Z, ((L 5 Z Z).trans (cB g255))⟩) (S.lss Z (L 3 Z Z) (L 0 Z Z)) ?_
        refine U.p Z Z (.inl Z) (S.pickT Z ((L 6 Z Z).trans (cB g255)) (L 0 Z Z)) ?_
        exact kk [(43, .bool (decide ((w64 (p1 + 1)) < (p0.code.length : Int)))), (42, .bool (decide ((w64 (p1 + 1)) < (p0.code.length : Int)))), (41, .int .i64 (p0.code.length : Int)), (40, v1), (39, .pointer (some ⟨b5, 3, none⟩)), (38, .int .i64 (w64 (p1 + 1))), (37, .int .i64 p1)] _ ⟨.bool (decide ((w64 (p1 + 1)) < (p0.code.length : Int))), .int .i64 (p0.code.length : Int), v1, .pointer (some ⟨b5, 3, none⟩), .int .i64 (w64 (p1 + 1)), .int .i64 p1, Z, (by rw [g255, Bool.true_and])⟩
       ·skip
        refine U.x Z Z Z Z ((L 0 Z Z).trans (cB g255)) (by decide) ?_
        refine U.x Z Z Z Z ((L 1 Z Z).trans (cB g255)) (by decide) ?_
        refine U.x Z Z Z Z ((L 2 Z Z).trans (cB g255)) (by decide) ?_
        refine U.x Z Z Z Z ((L 3 Z Z).trans (cB g255)) (by decide) ?_
        refine U.x Z Z Z Z ((L 4 Z Z).trans (cB g255)) (by decide) ?_
        refine U.x Z Z Z Z ((L 5 Z Z).trans (cB g255)) (by decide) ?_
        refine U.p Z Z (.inl Z) (S.pickF Z ((L 6 Z Z).trans (cB g255)) K) ?_
        exact kk [(43, .bool false), (42, .tuple #[]), (41, .tuple #[]), (40, .tuple #[]), (39, .tuple #[]), (38, .tuple #[]), (37, .tuple #[])] _ ⟨.tuple #[], .tuple #[], .tuple #[], .tuple #[], .tuple #[], .tuple #[], Z, (by rw [g255, Bool.false_and])⟩
     ·intro kk
      refine bcase (b := (decide (x25.op ≠ 12)) && (decide (x25.op ≠ 15))) (fun g256 => ?_) (fun g256 => ?_)
      ·skip
       refine U.p (v := .pointer (some ⟨b38, 0, none⟩)) Z Z (.inr ⟨_, _, _, Z, Z, ((L 0 Z Z).trans (cB g256))⟩) (S.fieldAddr Z (L 10 Z Z) Try.underlying29 Z ti3 Z Z) ?_
       refine U.k Z Z (.inr ⟨_, _, _, Z, Z, ((L 1 Z Z).trans (cB g256))⟩) (S.load Z (L 0 Z Z) Try.underlying3 Z ((ow45.own (k := 0) Z).cell Z)) nd ?_
       refine U.p Z Z (.inr ⟨_, _, _, Z, Z, ((L 2 Z Z).trans (cB g256))⟩) (S.neqI Z (L 0 Z Z) K) ?_
       refine U.p Z Z (.inl Z) (S.pickT Z ((L 3 Z Z).trans (cB g256)) (L 0 Z Z)) ?_
       exact kk [(35, .bool (decide (x25.op ≠ 16))), (34, .bool (decide (x25.op ≠ 16))), (33, .int .i64 x25.op), (32, .pointer (some ⟨b38, 0, none⟩))] _ ⟨.bool (decide (x25.op ≠ 16)), .int .i64 x25.op, .pointer (some ⟨b38, 0, none⟩), Z, (by rw [g256, Bool.true_and])⟩
      ·skip
       refine U.x Z Z Z Z ((L 0 Z Z).trans (cB g256)) (by decide) ?_
       refine U.x Z Z Z Z ((L 1 Z Z).trans (cB g256)) (by decide) ?_
       refine U.x Z Z Z Z ((L 2 Z Z).trans (cB g256)) (by decide) ?_
       refine U.p Z Z (.inl Z) (S.pickF Z ((L 3 Z Z).trans (cB g256)) K) ?_
       exact kk [(35, .bool false), (34, .tuple #[]), (33, .tuple #[]), (32, .tuple #[])] _ ⟨.tuple #[], .tuple #[], .tuple #[], Z, (by rw [g256, Bool.false_and])⟩
    ·intro kk
     refine bcase (b := decide (x25.op ≠ 12)) (fun g257 => ?_) (fun g257 => ?_)
     ·skip
      refine U.p (v := .pointer (some ⟨b38, 0, none⟩)) Z Z (.inr ⟨_, _, _, Z, Z, ((L 0 Z Z).trans (cB g257))⟩) (S.fieldAddr Z (L 5 Z Z) Try.underlying29 Z ti3 Z Z) ?_
      refine U.k Z Z (.inr ⟨_, _, _, Z, Z, ((L 1 Z Z).trans (cB g257))⟩) (S.load Z (L 0 Z Z) Try.underlying3 Z ((ow45.own (k := 0) Z).cell Z)) nd ?_
      refine U.p Z Z (.inr ⟨_, _, _, Z, Z, ((L 2 Z Z).trans (cB g257))⟩) (S.neqI Z (L 0 Z Z) K) ?_
      refine U.p Z Z (.inl Z) (S.pickT Z ((L 3 Z Z).trans (cB g257)) (L 0 Z Z)) ?_
      exact kk [(30, .bool (decide (x25.op ≠ 15))), (29, .bool (decide (x25.op ≠ 15))), (28, .int .i64 x25.op), (27, .pointer (some ⟨b38, 0, none⟩))] _ ⟨.bool (decide (x25.op ≠ 15)), .int .i64 x25.op, .pointer (some ⟨b38, 0, none⟩), Z, (by rw [g257, Bool.true_and])⟩
     ·skip
      refine U.x Z Z Z Z ((L 0 Z Z).trans (cB g257)) (by decide) ?_
      refine U.x Z Z Z Z ((L 1 Z Z).trans (cB g257)) (by decide) ?_
      refine U.x Z Z Z Z ((L 2 Z Z).trans (cB g257)) (by decide) ?_
      refine U.p Z Z (.inl Z) (S.pickF Z ((L 3 Z Z).trans (cB g257)) K) ?_
      exact kk [(30, .bool false), (29, .tuple #[]), (28, .tuple #[]), (27, .tuple #[])] _ ⟨.tuple #[], .tuple #[], .tuple #[], Z, (by rw [g257, Bool.false_and])⟩
 ·intro kk
  refine bcase (b := decide (p1 < 0)) (fun g258 => ?_) (fun g258 => ?_)
  ·skip
   refine U.x Z Z Z Z ((L 0 Z Z).trans (cB g258)) (by decide) ?_
   refine U.x Z Z Z Z ((L 1 Z Z).trans (cB g258)) (by decide) ?_
   refine U.x Z Z Z Z ((L 2 Z Z).trans (cB g258)) (by decide) ?_
   refine U.x Z Z Z Z ((L 3 Z Z).trans (cB g258)) (by decide) ?_
   refine U.x Z Z Z Z ((L 4 Z Z).trans (cB g258)) (by decide) ?_
   refine U.p Z Z (.inl Z) (S.pickT Z ((L 5 Z Z).trans (cB g258)) K) ?_
   exact kk [(17, .bool true), (16, .tuple #[]), (15, .tuple #[]), (14, .tuple #[]), (13, .tuple #[]), (12, .tuple #[])] _ ⟨.tuple #[], .tuple #[], .tuple #[], .tuple #[], .tuple #[], Z, (by rw [g258, Bool.true_or])⟩
  ·skip
   refine U.p Z Z (.inr ⟨_, _, _, Z, Z, ((L 0 Z Z).trans (cB g258))⟩) (S.move Z (L 6 Z Z)) ?_
   refine U.p (v := .pointer (some ⟨b5, 3, none⟩)) Z Z (.inr ⟨_, _, _, Z, Z, ((L 1 Z Z).trans (cB g258))⟩) (S.fieldAddr Z (L 5 Z Z) Try.underlying24 Z ti22 Z Z) ?_
   refine U.k Z Z (.inr ⟨_, _, _, Z, Z, ((L 2 Z Z).trans (cB g258))⟩) (S.load Z (L 0 Z Z) Try.underlying22 Z ((ow8.own (k := 0) Z).cell Z)) nd ?_
   refine U.p Z Z (.inr ⟨_, _, _, Z, Z, ((L 3 Z Z).trans (cB g258))⟩) (f2.1.len Z (L 0 Z Z) Try.underlying22) ?_
   refine U.p Z Z (.inr ⟨_, _, _, Z, Z, ((L 4 Z Z).trans (cB g258))⟩) (S.geq Z (L 3 Z Z) (L 0 Z Z)) ?_
   refine U.p Z Z (.inl Z) (S.pickF Z ((L 5 Z Z).trans (cB g258)) (L 0 Z Z)) ?_
   exact kk [(17, .bool (decide ((p0.code.length : Int) ≤ p1))), (16, .bool (decide ((p0.code.length : Int) ≤ p1))), (15, .int .i64 (p0.code.length : Int)), (14, v1), (13, .pointer (some ⟨b5, 3, none⟩)), (12, .int .i64 p1)] _ ⟨.bool (decide ((p0.code.length : Int) ≤ p1)), .int .i64 (p0.code.length : Int), v1, .pointer (some ⟨b5, 3, none⟩), .int .i64 p1, Z, (by rw [g258, Bool.false_or])⟩
theorem wk_ref10_Needed (V : Vw) (Rs : List At) (p0 : TFunc) (p1 : Int) (p2 : Int) (v1 : Value) (f2 : Fz RT_TIns V v1 p0.code) (ow : Ow V (Rs)) (r : Bool) (h : ref10_Needed p0 p1 p2 = some r) : ∃ v V', Cl Try.prog 0 37 #[.agg #[.string p0.name, .int .i64 p0.params, .int .i64 p0.regs, v1], .int .i64 p1, .int .i64 p2] V.H v V'.H ∧ V.le V' ∧ (v = .bool r ∧ Ow V' (Rs)) := by
 refine Ct.of (Nat.zero_le _) Try.func37 Z (nr Z) ?_
 unfold ref10_Needed at h
 refine WP.usreg Z ?_
 refine O.box ow Z Z (.inl Z) Z (L 0 Z Z) (by simp [topV]) Z nd (fun b3 V4 le5 ow6 => ?_)
 refine U.p Z Z (.inl Z) (S.assign Z K) ?_
 refine U.done (nr Z) ?_
 refine WP.usreg Z ?_
 refine U.p (v := .pointer (some ⟨b3, 3, none⟩)) Z Z (.inl Z) (S.fieldAddr Z (L 1 Z Z) Try.underlying24 Z ti22 Z Z) ?_
 refine U.k Z Z (.inl Z) (S.load Z (L 0 Z Z) Try.underlying22 Z ((ow6.own (k := 0) Z).cell Z)) nd ?_
 refine U.p Z Z (.inl Z) (f2.1.len Z (L 0 Z Z) Try.underlying22) ?_
 obtain ⟨xs8, hx9, h10⟩ := bindS h
 refine O.make (R := RT.bool) ow6 Z Z (.inl Z) Z (L 0 Z Z) (L 0 Z Z) Try.underlying43 ti4 Z Z Z (nr Z) Z hx9 (fun _ => nd) (fun v11 V12 le13 ow14 => ?_)
 refine U.p Z Z (.inl Z) (S.assign Z (L 0 Z Z)) ?_
 refine U.done (nr Z) ?_
 refine WP.usreg Z ?_
 refine U.p Z Z (.inl Z) (S.move Z (L 9 Z Z)) ?_
 refine O.lit (R := (RT.int .i64)) ow14 Z Z (.inl Z) Z Try.underlying27 ti3 Z Z Z (nr Z) Z (aC (L 0 Z Z) aN) (.cons _ _ p2 _ (by simp [topV]) Z .nil) (fun _ => nd) (fun v16 V17 le18 ow19 => ?_)
 refine U.p Z Z (.inl Z) (S.assign Z (L 0 Z Z)) ?_
 refine U.done (nr Z) ?_
 refine WP.seq ?_
 refine WP.blk ?_
 have ow25 := ow19.pick 0 Z
 have ow26 := ow25.pick 1 Z
 have ow27 := ow26.pick 2 Z
 unfold ref10_Needed_l1 at h10
 obtain ⟨n29, hn28⟩ := loopO_some.1 h10
 refine WP.loopI2 (fun n l V' => ∃ (xs21 : List Bool) (v23 : Value) (xs24 : List Int), l = [(1, .int .i64 p1), (3, .pointer (some ⟨b3, 0, none⟩)), (7, v11), (8, v23)] ∧ V17.le V' ∧ Ow V' (.pt b3 (.cells 0 [.string p0.name, .int .i64 p0.params, .int .i64 p0.regs, v1]) :: .os RT.bool v11 xs21 :: .os (RT.int .i64) v23 xs24 :: Rs) ∧ itO (fun s => ref10_Needed_l1b p0 p1 s.1 s.2) n (xs21, xs24) = some r) n29 _ ⟨xs8, v16, [p2], Z, .refl _, ow27, hn28⟩ (allCons (L 11 Z Z) (allCons (L 9 Z Z) (allCons (L 3 Z Z) (allCons (L 0 Z Z) allNil)))) ?_
 rintro _ _ V30 ⟨xs21, v23, xs24, rfl, le31, ow32, h36⟩
 obtain ⟨m33, q34, rfl, h37, e35⟩ := itS h36
 replace h37 : ref10_Needed_l1b p0 p1 xs21 xs24 = some q34 := h37
 unfold ref10_Needed_l1b at h37
 refine WP.seq ?_
 refine WP.usreg Z ?_
 refine U.p Z Z (.inl Z) (S.move Z (L 3 Z Z)) ?_
 refine U.p Z Z (.inl Z) (ow32.oslen (k := 2) Z Z (L 0 Z Z) Try.underlying27) ?_
 refine U.p Z Z (.inl Z) (S.gtr Z (L 0 Z Z) K) ?_
 refine U.done (nr Z) ?_
 refine WP.cond _ (L 0 Z Z) Z (fun c38 => ?_) (fun c38 => ?_)
 ·have h39 := ifT c38 h37
  refine WP.skip ?_
  refine sqN ?_
  refine WP.blk ?_
  refine WP.usreg Z ?_
  refine U.p Z Z (.inl Z) (S.move Z (L 6 Z Z)) ?_
  obtain ⟨x40, hx41, h42⟩ := bindS h39
  obtain ⟨b43, o44, n45, c46, hv47⟩ := ow32.ospt (k := 2) Z hx41
  obtain ⟨_, hv48, _⟩ := ow32.osel (k := 2) Z hv47 hx41
  refine U.p Z Z (.inl Z) (S.index Z ((L 0 Z Z).trans hv48) K Try.underlying27 ti3 (ix_ge hx41) (ix_lt hx41)) ?_
  obtain ⟨cs49, hv50, hlt51, hr52, hc53⟩ := ow32.osel (k := 2) Z hv47 hx41
  obtain rfl : cs49 = [.int .i64 x40] := hr52
  refine U.k Z Z (.inl Z) (S.load Z (L 0 Z Z) Try.underlying3 Z (hc53 0 _ Z)) nd ?_
  refine U.p Z Z (.inl Z) (S.assign Z (L 0 Z Z)) ?_
  refine U.done (nr Z) ?_
  refine WP.usreg Z ?_
  refine U.p Z Z (.inl Z) (S.move Z (L 10 Z Z)) ?_
  obtain ⟨xs54, hx55, h56⟩ := bindS h42
  refine O.subO (k := 2) ow32 Z hx55 Z Z (.inl Z) Z (L 0 Z Z) Try.underlying27 ti3 ⟨.inr ⟨_, _, Z, K⟩, .inl ⟨rfl, Z⟩, .inl Z⟩ (fun v57 ow60 => ?_)
  refine U.p Z Z (.inl Z) (S.assign Z (L 0 Z Z)) ?_
  refine U.done (nr Z) ?_
  refine WP.seq ?_
  refine WP.usreg Z ?_
  refine U.p Z Z (.inl Z) (S.move Z (L 12 Z Z)) ?_
  refine U.p Z Z (.inl Z) (S.move Z (L 4 Z Z)) ?_
  obtain ⟨x62, hx63, h64⟩ := bindS h56
  obtain ⟨b65, o66, n67, c68, hv69⟩ := ow60.ospt (k := 1) Z hx63
  obtain ⟨_, hv70, _⟩ := ow60.osel (k := 1) Z hv69 hx63
  refine U.p Z Z (.inl Z) (S.index Z ((L 1 Z Z).trans hv70) (L 0 Z Z) Try.underlying43 ti4 (ix_ge hx63) (ix_lt hx63)) ?_
  obtain ⟨cs71, hv72, hlt73, hr74, hc75⟩ := ow60.osel (k := 1) Z hv69 hx63
  obtain rfl : cs71 = [.bool x62] := hr74
  refine U.k Z Z (.inl Z) (S.load Z (L 0 Z Z) Try.underlying4 Z (hc75 0 _ Z)) nd ?_
  refine U.done (nr Z) ?_
  refine WP.cond _ (L 0 Z Z) Z (fun c76 => ?_) (fun c76 => ?_)
  ·have h77 := ifT c76 h64
   refine WP.exit ?_
   refine sqE (blkE (sqN ?_))
   exact ⟨_, V30, Z, ⟨m33, Nat.lt_succ_self _, xs21, v57, xs54, Z, le31, ow60, backS h77 e35⟩, (allCons (L 14 Z Z) (allCons (L 15 Z Z) (allCons (L 16 Z Z) (allCons (L 4 Z Z) allNil))))⟩
  ·have h78 := ifF c76 h64
   refine WP.skip ?_
   refine sqN ?_
   refine WP.usreg Z ?_
   refine U.p Z Z (.inl Z) (S.move Z (L 16 Z Z)) ?_
   refine U.p Z Z (.inl Z) (S.move Z (L 8 Z Z)) ?_
   obtain ⟨x79, hx80, h81⟩ := bindS h78
   obtain ⟨_, hv82, _⟩ := ow60.osel (k := 1) Z hv69 hx80
   refine U.p Z Z (.inl Z) (S.index Z ((L 1 Z Z).trans hv82) (L 0 Z Z) Try.underlying43 ti4 (ix_ge hx80) (ix_lt hx80)) ?_
   obtain ⟨cs83, hv84, hlt85, hr86, hc87⟩ := ow60.osel (k := 1) Z hv69 hx80
   obtain rfl : cs83 = [.bool x79] := hr86
   refine O.storeE (k := 1) (R := RT.bool) (j := 0) (y := true) (cs := [.bool true]) ow60 Z hv84 Z Z (.inl Z) Z (L 0 Z Z) K ti4 hx80 (by simp [topV]) Z Z Z (full Z) (fun _ _ => nd) (fun V88 le89 ow90 => ?_)
   refine U.done (nr Z) ?_
   refine WP.seq ?_
   refine WP.usreg Z ?_
   refine U.p (v := .pointer (some ⟨b3, 3, none⟩)) Z Z (.inl Z) (S.fieldAddr Z (L 18 Z Z) Try.underlying24 Z ti22 Z Z) ?_
   refine U.k Z Z (.inl Z) (S.load Z (L 0 Z Z) Try.underlying22 Z ((ow90.own (k := 0) Z).cell Z)) nd ?_
   refine U.p Z Z (.inl Z) (S.move Z (L 12 Z Z)) ?_
   obtain ⟨x91, hx92, h93⟩ := bindS h81
   obtain ⟨b94, o95, c96, cs97, hv98, hf99, hr100, hc101⟩ := f2.at hx92
   obtain ⟨v102, rfl, f103⟩ := hr100
   refine U.p Z Z (.inl Z) (S.index Z ((L 1 Z Z).trans hv98) (L 0 Z Z) Try.underlying22 ti29 (ix_ge hx92) (ix_lt hx92)) ?_
   refine U.k Z Z (.inl Z) (S.loadN (cs := [.int .i64 x91.op, .int .i64 x91.d, .int .i64 x91.a, .int .i64 x91.b, .int .i64 x91.imm, v102, .int .i64 x91.what, .bool x91.volatile, .bool x91.final]) Z (L 0 Z Z) Try.underlying29 Z ti29 Z (fun j v hj => ((((le5.trans le13).trans le18).trans le31).trans le89).cell hf99 (hc101 j v hj))) nd ?_
   refine U.p Z Z (.inl Z) (S.move Z (L 22 Z Z)) ?_
   have f104 := f103.up ((((le5.trans le13).trans le18).trans le31).trans le89)
   obtain ⟨x105, hx106, h107⟩ := bindS h93
   refine O.call (V := V88) Z Z (.inl Z) Z en36 (aC (L 1 Z Z) (aC (L 0 Z Z) aN)) (wk_ref10_reads V88 _ x91 p1 v102 f104 ow90 _ hx106) (fun _ _ _ _ => nd) (fun v108 V109 le110 hp111 => ?_)
   obtain ⟨rfl, ow112⟩ := hp111
   refine U.done (nr Z) ?_
   refine WP.cond _ (L 0 Z Z) Z (fun c113 => ?_) (fun c113 => ?_)
   ·have h114 := ifT c113 h107
    refine WP.usreg Z ?_
    refine U.p Z Z (.inl Z) (S.assign Z K) ?_
    refine U.done (nr Z) ?_
    refine WP.ret ?_
    refine sqR (blkR (sqR (blkR (sqR ?_))))
    have h115 := exitS h114 e35
    refine fin.slot (.inr Z) Z (L 0 Z Z) ⟨V109, Z, (((((le5.trans le13).trans le18).trans le31).trans le89).trans le110), ?_⟩
    have ow116 := ow112.drop 0 Z
    have ow117 := ow116.drop 0 Z
    have ow118 := ow117.drop 0 Z
    have e119 := Option.some.inj h115
    subst e119
    exact ⟨rfl, ow118⟩
   ·have h120 := ifF c113 h107
    refine WP.skip ?_
    refine sqN ?_
    refine WP.usreg Z ?_
    refine U.p (v := .pointer (some ⟨b3, 3, none⟩)) Z Z (.inl Z) (S.fieldAddr Z (L 25 Z Z) Try.underlying24 Z ti22 Z Z) ?_
    refine U.k Z Z (.inl Z) (S.load Z (L 0 Z Z) Try.underlying22 Z ((ow112.own (k := 0) Z).cell Z)) nd ?_
    refine U.p Z Z (.inl Z) (S.move Z (L 19 Z Z)) ?_
    obtain ⟨x121, hx122, h123⟩ := bindS h120
    obtain ⟨b124, o125, c126, cs127, hv128, hf129, hr130, hc131⟩ := f2.at hx122
    obtain ⟨v132, rfl, f133⟩ := hr130
    refine U.p Z Z (.inl Z) (S.index Z ((L 1 Z Z).trans hv128) (L 0 Z Z) Try.underlying22 ti29 (ix_ge hx122) (ix_lt hx122)) ?_
    refine U.p (v := .pointer (some ⟨b124, o125 + Int.toNat x40 * 9 + 1, none⟩)) Z Z (.inl Z) (S.fieldAddr Z (L 0 Z Z) Try.underlying29 Z ti3 Z Z) ?_
    refine U.k Z Z (.inl Z) (S.load Z (L 0 Z Z) Try.underlying3 Z ((((((le5.trans le13).trans le18).trans le31).trans le89).trans le110).cell hf129 (hc131 1 _ Z))) nd ?_
    refine U.p Z Z (.inl Z) (S.move Z (L 30 Z Z)) ?_
    refine U.p Z Z (.inl Z) (S.neqI Z (L 1 Z Z) (L 0 Z Z)) ?_
    refine U.done (nr Z) ?_
    refine WP.cond _ (L 0 Z Z) Z (fun c134 => ?_) (fun c134 => ?_)
    ·have h135 := ifT c134 h123
     refine WP.ureg Z ?_
     refine U.p Z Z (.inl Z) (S.move Z (L 22 Z Z)) ?_
     refine U.k Z Z (.inl Z) (S.loadB Z (L 34 Z Z) Try.underlying24 Z ti24 (ow112.own (k := 0) Z).get Z) nd ?_
     refine U.p Z Z (.inl Z) (S.move Z (L 27 Z Z)) ?_
     have f136 := f2.up (((((le5.trans le13).trans le18).trans le31).trans le89).trans le110)
     obtain ⟨x137, hx138, h139⟩ := bindS h135
     refine O.call (V := V109) Z Z (.inl Z) Z en46 (aC (L 1 Z Z) (aC (L 0 Z Z) aN)) (wk_ref10_Next V109 _ p0 x40 v1 f136 ow112 _ hx138) (fun _ _ _ _ => nd) (fun v140 V141 le142 hp143 => ?_)
     obtain ⟨_, rfl, ow144⟩ := hp143
     obtain ⟨xs147, hx148, h149⟩ := bindS h139
     refine O.append (k := 3) ow144 Z Z Z (.inl Z) Z (L 3 Z Z) (L 0 Z Z) Try.underlying27 ti3 Z Z (nr Z) (ow144.src (k := 0) Z Try.underlying27) hx148 (fun _ _ => nd) (fun v150 V151 le152 ow153 => ?_)
     refine U.p Z Z (.inl Z) (S.assign Z (L 0 Z Z)) ?_
     refine U.done (nr Z) ?_
     refine blkN (sqN ?_)
     have ow155 := ow153.drop 0 Z
     exact ⟨_, V151, Z, ⟨m33, Nat.lt_succ_self _, xs21.set (Int.toNat x40) true, v150, xs147, Z, ((((le31.trans le89).trans le110).trans le142).trans le152), ow155, backS h149 e35⟩, (allCons (L 38 Z Z) (allCons (L 39 Z Z) (allCons (L 40 Z Z) (allCons (L 0 Z Z) allNil))))⟩
    ·have h156 := ifF c134 h123
     refine WP.skip ?_
     refine blkN (sqN ?_)
     exact ⟨_, V109, Z, ⟨m33, Nat.lt_succ_self _, xs21.set (Int.toNat x40) true, v57, xs54, Z, ((le31.trans le89).trans le110), ow112, backS h156 e35⟩, (allCons (L 32 Z Z) (allCons (L 33 Z Z) (allCons (L 34 Z Z) (allCons (L 22 Z Z) allNil))))⟩
 ·have h157 := ifF c38 h37
  refine WP.exit ?_
  refine sqE (sqE (blkE (sqN ?_)))
  have h158 := exitS h157 e35
  refine WP.usreg Z ?_
  refine U.p Z Z (.inl Z) (S.assign Z K) ?_
  refine U.done (nr Z) ?_
  refine WP.ret ?_
  refine fin.slot (.inr Z) Z (L 0 Z Z) ⟨V30, Z, (((le5.trans le13).trans le18).trans le31), ?_⟩
  have ow159 := ow32.drop 0 Z
  have ow160 := ow159.drop 0 Z
  have ow161 := ow160.drop 0 Z
  have e162 := Option.some.inj h158
  subst e162
  exact ⟨rfl, ow161⟩
theorem wk_ref10_Span (V : Vw) (Rs : List At) (p0 : TFunc) (p1 : Int) (v1 : Value) (f2 : Fz RT_TIns V v1 p0.code) (ow : Ow V (Rs)) (r : Int × Int × Bool) (h : ref10_Span p0 p1 = some r) : ∃ v V', Cl Try.prog 0 19 #[.agg #[.string p0.name, .int .i64 p0.params, .int .i64 p0.regs, v1], .int .i64 p1] V.H v V'.H ∧ V.le V' ∧ (v = .tuple #[.int .i64 r.1, .int .i64 r.2.1, .bool r.2.2] ∧ Ow V' (Rs)) := by
 refine Ct.of (Nat.zero_le _) Try.func19 Z (nr Z) ?_
 unfold ref10_Span at h
 refine WP.usreg Z ?_
 refine O.box ow Z Z (.inl Z) Z (L 0 Z Z) (by simp [topV]) Z nd (fun b3 V4 le5 ow6 => ?_)
 refine U.p Z Z (.inl Z) (S.assign Z K) ?_
 refine U.p Z Z (.inl Z) (S.assign Z K) ?_
 refine U.p Z Z (.inl Z) (S.assign Z K) ?_
 refine U.done (nr Z) ?_
 refine WP.usdreg Z Z Z ?_
 refine U.p Z Z (.inl Z) (S.move Z (L 5 Z Z)) ?_
 refine U.p (v := .pointer (some ⟨b3, 1, none⟩)) Z Z (.inl Z) (S.fieldAddr Z (L 4 Z Z) Try.underlying24 Z ti3 Z Z) ?_
 refine U.k Z Z (.inl Z) (S.loadC Z (L 0 Z Z) Try.underlying3 Z ((ow6.own (k := 0) Z).cell Z)) (fun _ => (okH.nil (fun r h => by cases h; exact (ow6.own (k := 0) Z).lt))) ?_
 refine U.p Z Z (.inl Z) (S.lss Z (L 2 Z Z) (L 0 Z Z)) ?_
 refine U.p Z Z (.inl Z) (S.assign Z K) ?_
 refine U.p Z Z (.inl Z) (S.assign Z K) ?_
 refine U.p Z Z (.inl Z) (S.assign Z (L 2 Z Z)) ?_
 refine U.done (nr Z) ?_
 refine WP.seq ?_
 refine WP.usreg Z ?_
 refine U.p (v := .pointer (some ⟨b3, 3, none⟩)) Z Z (.inl Z) (S.fieldAddr Z (L 10 Z Z) Try.underlying24 Z ti22 Z Z) ?_
 refine U.k Z Z (.inl Z) (S.load Z (L 0 Z Z) Try.underlying22 Z ((ow6.own (k := 0) Z).cell Z)) nd ?_
 refine U.p Z Z (.inl Z) (f2.1.len Z (L 0 Z Z) Try.underlying22) ?_
 refine U.p Z Z (.inl Z) (S.move Z K) ?_
 refine U.done (nr Z) ?_
 refine WP.blk ?_
 unfold ref10_Span_l1 at h
 obtain ⟨n13, hn12⟩ := loopO_some.1 h
 refine WP.loopI2 (fun n l V' => ∃ (x8 : Int) (x9 : Int) (x10 : Bool) (x11 : Int), l = [(1, .int .i64 p1), (2, .pointer (some ⟨b3, 0, none⟩)), (7, .int .i64 x8), (8, .int .i64 x9), (9, .bool x10), (17, v1), (18, .int .i64 (p0.code.length : Int)), (19, .int .i64 x11)] ∧ V4.le V' ∧ Ow V' (.pt b3 (.cells 0 [.string p0.name, .int .i64 p0.params, .int .i64 p0.regs, v1]) :: Rs) ∧ itO (fun s => ref10_Span_l1b p0 p1 s.1 s.2.1 s.2.2.1 s.2.2.2) n (x8, x9, x10, x11) = some r) n13 _ ⟨0, 0, decide (p1 < p0.params), 0, Z, .refl _, ow6, hn12⟩ (allCons (L 16 Z Z) (allCons (L 14 Z Z) (allCons (L 6 Z Z) (allCons (L 5 Z Z) (allCons (L 4 Z Z) (allCons (L 2 Z Z) (allCons (L 1 Z Z) (allCons (L 0 Z Z) allNil)))))))) ?_
 rintro _ _ V14 ⟨x8, x9, x10, x11, rfl, le15, ow16, h20⟩
 obtain ⟨m17, q18, rfl, h21, e19⟩ := itS h20
 replace h21 : ref10_Span_l1b p0 p1 x8 x9 x10 x11 = some q18 := h21
 unfold ref10_Span_l1b at h21
 refine WP.usreg Z ?_
 refine U.p Z Z (.inl Z) (S.lss Z (L 7 Z Z) (L 6 Z Z)) ?_
 refine U.done (nr Z) ?_
 refine WP.seq ?_
 refine WP.cond _ (L 0 Z Z) Z (fun c22 => ?_) (fun c22 => ?_)
 ·have h23 := ifT c22 h21
  refine WP.skip ?_
  refine sqN ?_
  refine WP.seqI (fun l V' => ∃ (x24 : Int) (x25 : Int) (x26 : Bool), l = [(1, .int .i64 p1), (2, .pointer (some ⟨b3, 0, none⟩)), (7, .int .i64 x24), (8, .int .i64 x25), (9, .bool x26), (17, v1), (18, .int .i64 (p0.code.length : Int)), (19, .int .i64 x11)] ∧ V14.le V' ∧ Ow V' (.pt b3 (.cells 0 [.string p0.name, .int .i64 p0.params, .int .i64 p0.regs, v1]) :: Rs) ∧ ref10_Span_k1 x11 x24 x25 x26 = some q18) ?_ ?_
  ·rintro _ V27 ⟨x24, x25, x26, rfl, le28, ow29, h30⟩
   unfold ref10_Span_k1 at h30
   refine WP.ureg Z ?_
   refine U.p Z Z (.inl Z) (S.add Z (L 7 Z Z) K) ?_
   refine U.p Z Z (.inl Z) (S.move Z (L 0 Z Z)) ?_
   refine U.done (nr Z) ?_
   refine sqN ?_
   exact ⟨_, V27, Z, ⟨m17, Nat.lt_succ_self _, x24, x25, x26, w64 (x11 + 1), Z, (le15.trans le28), ow29, backS h30 e19⟩, (allCons (L 2 Z Z) (allCons (L 3 Z Z) (allCons (L 4 Z Z) (allCons (L 5 Z Z) (allCons (L 6 Z Z) (allCons (L 7 Z Z) (allCons (L 8 Z Z) (allCons (L 0 Z Z) allNil))))))))⟩
  ·skip
   refine WP.blk ?_
   refine WP.usreg Z ?_
   refine U.p Z Z (.inl Z) (S.move Z (L 8 Z Z)) ?_
   obtain ⟨x31, hx32, h33⟩ := bindS h23
   obtain ⟨b34, o35, c36, cs37, hv38, hf39, hr40, hc41⟩ := f2.at hx32
   obtain ⟨v42, rfl, f43⟩ := hr40
   refine U.p Z Z (.inl Z) (S.index Z ((L 7 Z Z).trans hv38) (L 9 Z Z) Try.underlying22 ti29 (ix_ge hx32) (ix_lt hx32)) ?_
   refine U.k Z Z (.inl Z) (S.loadN (cs := [.int .i64 x31.op, .int .i64 x31.d, .int .i64 x31.a, .int .i64 x31.b, .int .i64 x31.imm, v42, .int .i64 x31.what, .bool x31.volatile, .bool x31.final]) Z (L 0 Z Z) Try.underlying29 Z ti29 Z (fun j v hj => (le5.trans le15).cell hf39 (hc41 j v hj))) nd ?_
   refine O.alloc ow16 Z Z (.inl Z) Z ti29 Z Z nd (fun b44 V45 le46 ow47 => ?_)
   refine U.p Z Z (.inl Z) (S.assign Z (L 3 Z Z)) ?_
   refine O.store (k := 0) (cs := [.int .i64 x31.op, .int .i64 x31.d, .int .i64 x31.a, .int .i64 x31.b, .int .i64 x31.imm, v42, .int .i64 x31.what, .bool x31.volatile, .bool x31.final]) (c' := [.int .i64 x31.op, .int .i64 x31.d, .int .i64 x31.a, .int .i64 x31.b, .int .i64 x31.imm, v42, .int .i64 x31.what, .bool x31.volatile, .bool x31.final]) ow47 Z Z Z (.inl Z) Z (L 1 Z Z) (L 2 Z Z) ti29 (by simp [topV]) Z Z (nr Z) (by have q0 := f43.one; simp only [List.all_cons, List.all_nil, q0]; rfl) Z nd (fun V49 le50 ow51 => ?_)
   refine U.done (nr Z) ?_
   refine WP.usreg Z ?_
   refine U.k Z Z (.inl Z) (S.loadB Z (L 1 Z Z) Try.underlying29 Z ti29 (ow51.own (k := 0) Z).get Z) nd ?_
   refine U.p Z Z (.inl Z) (S.move Z (L 7 Z Z)) ?_
   have f52 := f43.up (((le5.trans le15).trans le46).trans le50)
   obtain ⟨x53, hx54, h55⟩ := bindS h33
   refine O.call (V := V49) Z Z (.inl Z) Z en36 (aC (L 1 Z Z) (aC (L 0 Z Z) aN)) (wk_ref10_reads V49 _ x31 p1 v42 f52 ow51 _ hx54) (fun _ _ _ _ => nd) (fun v56 V57 le58 hp59 => ?_)
   obtain ⟨rfl, ow60⟩ := hp59
   refine U.p Z Z (.inl Z) (S.move Z (L 0 Z Z)) ?_
   refine U.joinX 9 (fun e H => ∃ (u61 u62 u63 u64 : Value), H = V57.H ∧ e = [(32, .bool (x53 || (decide (x31.d = p1)))), (31, u61), (30, u62), (29, u63), (28, u64)]) ?_ ?_
   ·rintro _ _ ⟨u61, u62, u63, u64, rfl, rfl⟩
    refine U.p Z Z (.inl Z) (S.move Z (L 0 Z Z)) ?_
    obtain ⟨y68, hy69, h70⟩ := bindS h55
    refine U.joinX 15 (fun e H => ∃ (u71 u72 u73 u74 : Value), ∃ V' : Vw, H = V'.H ∧ V57.le V' ∧ e = [(38, .bool y68), (37, u71), (36, u72), (35, u73), (34, u74)] ∧ Ow V' (.pt b44 (.cells 9 [.int .i64 x31.op, .int .i64 x31.d, .int .i64 x31.a, .int .i64 x31.b, .int .i64 x31.imm, v42, .int .i64 x31.what, .bool x31.volatile, .bool x31.final]) :: .pt b3 (.cells 0 [.string p0.name, .int .i64 p0.params, .int .i64 p0.regs, v1]) :: Rs)) ?_ ?_
    ·rintro _ _ ⟨u71, u72, u73, u74, V75, rfl, le76, rfl, ow77⟩
     refine U.done (nr Z) ?_
     refine WP.cond _ (L 0 Z Z) Z (fun c78 => ?_) (fun c78 => ?_)
     ·have h79 := ifT c78 h70
      refine WP.seqI (fun l V' => ∃ (x80 : Int), l = [(1, .int .i64 p1), (2, .pointer (some ⟨b3, 0, none⟩)), (7, .int .i64 x80), (8, .int .i64 x9), (9, .bool x10), (10, .int .i64 x11), (17, v1), (18, .int .i64 (p0.code.length : Int)), (19, .int .i64 x11)] ∧ V75.le V' ∧ Ow V' (.pt b3 (.cells 0 [.string p0.name, .int .i64 p0.params, .int .i64 p0.regs, v1]) :: Rs) ∧ ref10_Span_k2 x9 x10 x11 x80 = some q18) ?_ ?_
      ·rintro _ V81 ⟨x80, rfl, le82, ow83, h84⟩
       unfold ref10_Span_k2 at h84
       refine WP.seqI (fun l V' => ∃ (x85 : Int), l = [(1, .int .i64 p1), (2, .pointer (some ⟨b3, 0, none⟩)), (7, .int .i64 x80), (8, .int .i64 x85), (17, v1), (18, .int .i64 (p0.code.length : Int)), (19, .int .i64 x11)] ∧ V81.le V' ∧ Ow V' (.pt b3 (.cells 0 [.string p0.name, .int .i64 p0.params, .int .i64 p0.regs, v1]) :: Rs) ∧ ref10_Span_k3 x11 x80 x85 = some q18) ?_ ?_
       ·rintro _ V86 ⟨x85, rfl, le87, ow88, h89⟩
        unfold ref10_Span_k3 at h89
        refine WP.ureg Z ?_
        refine U.p Z Z (.inl Z) (S.assign Z K) ?_
        refine U.done (nr Z) ?_
        refine blkN (sqN ?_)
        exact ⟨_, V86, Z, ⟨x80, x85, true, Z, (((((le46.trans le50).trans le58).trans le76).trans le82).trans le87), ow88, h89⟩, (allCons (L 1 Z Z) (allCons (L 2 Z Z) (allCons (L 3 Z Z) (allCons (L 4 Z Z) (allCons (L 0 Z Z) (allCons (L 5 Z Z) (allCons (L 6 Z Z) (allCons (L 7 Z Z) allNil))))))))⟩
       ·skip
        refine WP.usreg Z ?_
        refine U.p Z Z (.inl Z) (S.move Z (L 4 Z Z)) ?_
        refine U.p Z Z (.inl Z) (S.not Z (L 0 Z Z)) ?_
        refine U.p Z Z (.inl Z) (S.move Z (L 0 Z Z)) ?_
        refine U.joinX 7 (fun e H => ∃ (u90 u91 u92 : Value), H = V81.H ∧ e = [(53, .bool ((!x10) || (decide (x9 < x11)))), (52, u90), (51, u91), (50, u92)]) ?_ ?_
        ·rintro _ _ ⟨u90, u91, u92, rfl, rfl⟩
         refine U.done (nr Z) ?_
         refine WP.cond _ (L 0 Z Z) Z (fun c96 => ?_) (fun c96 => ?_)
         ·have h97 := ifT c96 h84
          refine WP.ureg Z ?_
          refine U.p Z Z (.inl Z) (S.move Z (L 12 Z Z)) ?_
          refine U.p Z Z (.inl Z) (S.assign Z (L 0 Z Z)) ?_
          refine U.done (nr Z) ?_
          refine sqN ?_
          exact ⟨_, V81, Z, ⟨x11, Z, (.refl _), ow83, h97⟩, (allCons (L 9 Z Z) (allCons (L 10 Z Z) (allCons (L 11 Z Z) (allCons (L 0 Z Z) (allCons (L 15 Z Z) (allCons (L 16 Z Z) (allCons (L 17 Z Z) allNil)))))))⟩
         ·have h98 := ifF c96 h84
          refine WP.skip ?_
          refine sqN ?_
          exact ⟨_, V81, Z, ⟨x9, Z, (.refl _), ow83, h98⟩, (allCons (L 7 Z Z) (allCons (L 8 Z Z) (allCons (L 9 Z Z) (allCons (L 10 Z Z) (allCons (L 13 Z Z) (allCons (L 14 Z Z) (allCons (L 15 Z Z) allNil)))))))⟩
        ·intro kk
         refine bcase (b := !x10) (fun g99 => ?_) (fun g99 => ?_)
         ·skip
          have k100 : x10 = false := nT g99
          refine U.x Z Z Z Z ((L 0 Z Z).trans (cB g99)) (by decide) ?_
          refine U.x Z Z Z Z ((L 1 Z Z).trans (cB g99)) (by decide) ?_
          refine U.x Z Z Z Z ((L 2 Z Z).trans (cB g99)) (by decide) ?_
          refine U.p Z Z (.inl Z) (S.pickT Z ((L 3 Z Z).trans (cB g99)) K) ?_
          exact kk [(53, .bool true), (52, .tuple #[]), (51, .tuple #[]), (50, .tuple #[])] _ ⟨.tuple #[], .tuple #[], .tuple #[], Z, (by rw [g99, Bool.true_or])⟩
         ·skip
          have k101 : x10 = true := nF g99
          refine U.p Z Z (.inr ⟨_, _, _, Z, Z, ((L 0 Z Z).trans (cB g99))⟩) (S.move Z (L 8 Z Z)) ?_
          refine U.p Z Z (.inr ⟨_, _, _, Z, Z, ((L 1 Z Z).trans (cB g99))⟩) (S.move Z (L 7 Z Z)) ?_
          refine U.p Z Z (.inr ⟨_, _, _, Z, Z, ((L 2 Z Z).trans (cB g99))⟩) (S.gtr Z (L 1 Z Z) (L 0 Z Z)) ?_
          refine U.p Z Z (.inl Z) (S.pickF Z ((L 3 Z Z).trans (cB g99)) (L 0 Z Z)) ?_
          exact kk [(53, .bool (decide (x9 < x11))), (52, .bool (decide (x9 < x11))), (51, .int .i64 x9), (50, .int .i64 x11)] _ ⟨.bool (decide (x9 < x11)), .int .i64 x9, .int .i64 x11, Z, (by rw [g99, Bool.false_or])⟩
      ·skip
       refine WP.usreg Z ?_
       refine U.p Z Z (.inl Z) (S.move Z (L 25 Z Z)) ?_
       refine U.p Z Z (.inl Z) (S.not Z (L 0 Z Z)) ?_
       refine U.p Z Z (.inl Z) (S.move Z (L 0 Z Z)) ?_
       refine U.joinX 7 (fun e H => ∃ (u102 u103 u104 : Value), H = V75.H ∧ e = [(45, .bool ((!x10) || (decide (x11 < x8)))), (44, u102), (43, u103), (42, u104)]) ?_ ?_
       ·rintro _ _ ⟨u102, u103, u104, rfl, rfl⟩
        refine U.done (nr Z) ?_
        refine WP.cond _ (L 0 Z Z) Z (fun c108 => ?_) (fun c108 => ?_)
        ·have h109 := ifT c108 h79
         refine WP.ureg Z ?_
         refine U.p Z Z (.inl Z) (S.move Z (L 22 Z Z)) ?_
         refine U.p Z Z (.inl Z) (S.assign Z (L 0 Z Z)) ?_
         refine U.done (nr Z) ?_
         refine sqN ?_
         have ow110 := ow77.drop 0 Z
         exact ⟨_, V75, Z, ⟨x11, Z, (.refl _), ow110, h109⟩, (allCons (L 30 Z Z) (allCons (L 31 Z Z) (allCons (L 0 Z Z) (allCons (L 33 Z Z) (allCons (L 34 Z Z) (allCons (L 24 Z Z) (allCons (L 35 Z Z) (allCons (L 36 Z Z) (allCons (L 37 Z Z) allNil)))))))))⟩
        ·have h111 := ifF c108 h79
         refine WP.skip ?_
         refine sqN ?_
         have ow112 := ow77.drop 0 Z
         exact ⟨_, V75, Z, ⟨x8, Z, (.refl _), ow112, h111⟩, (allCons (L 28 Z Z) (allCons (L 29 Z Z) (allCons (L 30 Z Z) (allCons (L 31 Z Z) (allCons (L 32 Z Z) (allCons (L 22 Z Z) (allCons (L 33 Z Z) (allCons (L 34 Z Z) (allCons (L 35 Z Z) allNil)))))))))⟩
       ·intro kk
        refine bcase (b := !x10) (fun g113 => ?_) (fun g113 => ?_)
        ·skip
         have k114 : x10 = false := nT g113
         refine U.x Z Z Z Z ((L 0 Z Z).trans (cB g113)) (by decide) ?_
         refine U.x Z Z Z Z ((L 1 Z Z).trans (cB g113)) (by decide) ?_
         refine U.x Z Z Z Z ((L 2 Z Z).trans (cB g113)) (by decide) ?_
         refine U.p Z Z (.inl Z) (S.pickT Z ((L 3 Z Z).trans (cB g113)) K) ?_
         exact kk [(45, .bool true), (44, .tuple #[]), (43, .tuple #[]), (42, .tuple #[])] _ ⟨.tuple #[], .tuple #[], .tuple #[], Z, (by rw [g113, Bool.true_or])⟩
        ·skip
         have k115 : x10 = true := nF g113
         refine U.p Z Z (.inr ⟨_, _, _, Z, Z, ((L 0 Z Z).trans (cB g113))⟩) (S.move Z (L 18 Z Z)) ?_
         refine U.p Z Z (.inr ⟨_, _, _, Z, Z, ((L 1 Z Z).trans (cB g113))⟩) (S.move Z (L 27 Z Z)) ?_
         refine U.p Z Z (.inr ⟨_, _, _, Z, Z, ((L 2 Z Z).trans (cB g113))⟩) (S.lss Z (L 1 Z Z) (L 0 Z Z)) ?_
         refine U.p Z Z (.inl Z) (S.pickF Z ((L 3 Z Z).trans (cB g113)) (L 0 Z Z)) ?_
         exact kk [(45, .bool (decide (x11 < x8))), (44, .bool (decide (x11 < x8))), (43, .int .i64 x8), (42, .int .i64 x11)] _ ⟨.bool (decide (x11 < x8)), .int .i64 x8, .int .i64 x11, Z, (by rw [g113, Bool.false_or])⟩
     ·have h116 := ifF c78 h70
      refine WP.skip ?_
      refine blkN (sqN ?_)
      have ow117 := ow77.drop 0 Z
      exact ⟨_, V75, Z, ⟨x8, x9, x10, Z, (((le46.trans le50).trans le58).trans le76), ow117, h116⟩, (allCons (L 21 Z Z) (allCons (L 22 Z Z) (allCons (L 23 Z Z) (allCons (L 24 Z Z) (allCons (L 25 Z Z) (allCons (L 26 Z Z) (allCons (L 27 Z Z) (allCons (L 28 Z Z) allNil))))))))⟩
    ·intro kk
     refine bcase (b := x53 || (decide (x31.d = p1))) (fun g118 => ?_) (fun g118 => ?_)
     ·have h119 := ifT g118 hy69
      refine U.x Z Z Z Z ((L 0 Z Z).trans (cB g118)) (by decide) ?_
      refine U.x Z Z Z Z ((L 1 Z Z).trans (cB g118)) (by decide) ?_
      refine U.x Z Z Z Z ((L 2 Z Z).trans (cB g118)) (by decide) ?_
      refine U.x Z Z Z Z ((L 3 Z Z).trans (cB g118)) (by decide) ?_
      refine U.p Z Z (.inl Z) (S.pickT Z ((L 4 Z Z).trans (cB g118)) K) ?_
      have e120 := Option.some.inj h119
      subst e120
      exact kk [(38, .bool true), (37, .tuple #[]), (36, .tuple #[]), (35, .tuple #[]), (34, .tuple #[])] _ ⟨.tuple #[], .tuple #[], .tuple #[], .tuple #[], V57, Z, (.refl _), Z, ow60⟩
     ·have h121 := ifF g118 hy69
      refine U.k Z Z (.inr ⟨_, _, _, Z, Z, ((L 0 Z Z).trans (cB g118))⟩) (S.loadB Z (L 17 Z Z) Try.underlying24 Z ti24 (ow60.own (k := 1) Z).get Z) nd ?_
      refine U.p Z Z (.inr ⟨_, _, _, Z, Z, ((L 1 Z Z).trans (cB g118))⟩) (S.move Z (L 17 Z Z)) ?_
      refine U.p Z Z (.inr ⟨_, _, _, Z, Z, ((L 2 Z Z).trans (cB g118))⟩) (S.move Z (L 12 Z Z)) ?_
      have f122 := f2.up ((((le5.trans le15).trans le46).trans le50).trans le58)
      obtain ⟨x123, hx124, h125⟩ := bindS h121
      refine O.call (V := V57) Z Z (.inr ⟨_, _, _, Z, Z, ((L 3 Z Z).trans (cB g118))⟩) Z en37 (aC (L 2 Z Z) (aC (L 1 Z Z) (aC (L 0 Z Z) aN))) (wk_ref10_Needed V57 _ p0 p1 x11 v1 f122 ow60 _ hx124) (fun _ _ _ _ => nd) (fun v126 V127 le128 hp129 => ?_)
      obtain ⟨rfl, ow130⟩ := hp129
      refine U.p Z Z (.inl Z) (S.pickF Z ((L 4 Z Z).trans (cB g118)) (L 0 Z Z)) ?_
      have e131 := Option.some.inj h125
      subst e131
      exact kk [(38, .bool x123), (37, .bool x123), (36, .int .i64 x11), (35, .int .i64 p1), (34, .agg #[.string p0.name, .int .i64 p0.params, .int .i64 p0.regs, v1])] _ ⟨.bool x123, .int .i64 x11, .int .i64 p1, .agg #[.string p0.name, .int .i64 p0.params, .int .i64 p0.regs, v1], V127, Z, le128, Z, ow130⟩
   ·intro kk
    refine bcase (b := x53) (fun g132 => ?_) (fun g132 => ?_)
    ·skip
     refine U.x Z Z Z Z ((L 0 Z Z).trans (cB g132)) (by decide) ?_
     refine U.x Z Z Z Z ((L 1 Z Z).trans (cB g132)) (by decide) ?_
     refine U.x Z Z Z Z ((L 2 Z Z).trans (cB g132)) (by decide) ?_
     refine U.x Z Z Z Z ((L 3 Z Z).trans (cB g132)) (by decide) ?_
     refine U.p Z Z (.inl Z) (S.pickT Z ((L 4 Z Z).trans (cB g132)) K) ?_
     exact kk [(32, .bool true), (31, .tuple #[]), (30, .tuple #[]), (29, .tuple #[]), (28, .tuple #[])] _ ⟨.tuple #[], .tuple #[], .tuple #[], .tuple #[], Z, (by rw [g132, Bool.true_or])⟩
    ·skip
     refine U.p (v := .pointer (some ⟨b44, 1, none⟩)) Z Z (.inr ⟨_, _, _, Z, Z, ((L 0 Z Z).trans (cB g132))⟩) (S.fieldAddr Z (L 5 Z Z) Try.underlying29 Z ti3 Z Z) ?_
     refine U.k Z Z (.inr ⟨_, _, _, Z, Z, ((L 1 Z Z).trans (cB g132))⟩) (S.load Z (L 0 Z Z) Try.underlying3 Z ((ow60.own (k := 0) Z).cell Z)) nd ?_
     refine U.p Z Z (.inr ⟨_, _, _, Z, Z, ((L 2 Z Z).trans (cB g132))⟩) (S.move Z (L 12 Z Z)) ?_
     refine U.p Z Z (.inr ⟨_, _, _, Z, Z, ((L 3 Z Z).trans (cB g132))⟩) (S.eqlI Z (L 1 Z Z) (L 0 Z Z)) ?_
     refine U.p Z Z (.inl Z) (S.pickF Z ((L 4 Z Z).trans (cB g132)) (L 0 Z Z)) ?_
     exact kk [(32, .bool (decide (x31.d = p1))), (31, .bool (decide (x31.d = p1))), (30, .int .i64 p1), (29, .int .i64 x31.d), (28, .pointer (some ⟨b44, 1, none⟩))] _ ⟨.bool (decide (x31.d = p1)), .int .i64 p1, .int .i64 x31.d, .pointer (some ⟨b44, 1, none⟩), Z, (by rw [g132, Bool.false_or])⟩
 ·have h133 := ifF c22 h21
  refine WP.exit ?_
  refine sqE (sqE (blkE (sqN ?_)))
  have h134 := exitS h133 e19
  refine WP.usreg Z ?_
  refine U.p Z Z (.inl Z) (S.move Z (L 3 Z Z)) ?_
  refine U.p Z Z (.inl Z) (S.move Z (L 5 Z Z)) ?_
  refine U.p Z Z (.inl Z) (S.move Z (L 7 Z Z)) ?_
  refine U.p Z Z (.inl Z) (S.assign Z (L 2 Z Z)) ?_
  refine U.p Z Z (.inl Z) (S.assign Z (L 2 Z Z)) ?_
  refine U.p Z Z (.inl Z) (S.assign Z (L 2 Z Z)) ?_
  refine U.done (nr Z) ?_
  refine WP.ret ?_
  refine fin.slots' (.inr Z) (fsC (L 2 Z Z) (fsC (L 1 Z Z) (fsC (L 0 Z Z) fsN))) Z ⟨V14, Z, (le5.trans le15), ?_⟩
  have ow135 := ow16.drop 0 Z
  have e136 := Option.some.inj h134
  subst e136
  exact ⟨rfl, ow135⟩
theorem wk_ref13_Holds (V : Vw) (Rs : List At) (p0 : TFunc) (p1 : List Int) (p2 : Int) (v1 : Value) (v3 : Value) (f2 : Fz RT_TIns V v1 p0.code) (f4 : Fz (RT.int .i64) V v3 p1) (ow : Ow V (Rs)) (r : Bool × Int) (h : ref13_Holds p0 p1 p2 = some r) : ∃ v V', Cl Try.prog 0 9 #[.agg #[.string p0.name, .int .i64 p0.params, .int .i64 p0.regs, v1], v3, .int .i64 p2] V.H v V'.H ∧ V.le V' ∧ (v = .tuple #[.bool r.1, .int .i64 r.2] ∧ Ow V' (Rs)) := by
 refine Ct.of (Nat.zero_le _) Try.func9 Z (nr Z) ?_
 unfold ref13_Holds at h
 refine WP.usreg Z ?_
 refine O.box ow Z Z (.inl Z) Z (L 0 Z Z) (by simp [topV]) Z nd (fun b5 V6 le7 ow8 => ?_)
 refine U.p Z Z (.inl Z) (S.assign Z K) ?_
 refine U.p Z Z (.inl Z) (S.assign Z K) ?_
 refine U.done (nr Z) ?_
 refine WP.seq ?_
 refine WP.usreg Z ?_
 refine U.p Z Z (.inl Z) (S.move Z (L 4 Z Z)) ?_
 refine U.p Z Z (.inl Z) (f4.1.len Z (L 0 Z Z) Try.underlying27) ?_
 refine U.p (v := .pointer (some ⟨b5, 2, none⟩)) Z Z (.inl Z) (S.fieldAddr Z (L 4 Z Z) Try.underlying24 Z ti3 Z Z) ?_
 refine U.k Z Z (.inl Z) (S.load Z (L 0 Z Z) Try.underlying3 Z ((ow8.own (k := 0) Z).cell Z)) nd ?_
 refine U.p Z Z (.inl Z) (S.neqI Z (L 2 Z Z) (L 0 Z Z)) ?_
 refine U.p Z Z (.inl Z) (S.move Z (L 0 Z Z)) ?_
 refine U.joinX 9 (fun e H => ∃ (u10 u11 : Value), H = V6.H ∧ e = [(30, .bool ((decide ((p1.length : Int) ≠ p0.regs)) || (decide (p2 < 0)))), (29, u10), (28, u11)]) ?_ ?_
 ·rintro _ _ ⟨u10, u11, rfl, rfl⟩
  refine U.done (nr Z) ?_
  refine WP.cond _ (L 0 Z Z) Z (fun c15 => ?_) (fun c15 => ?_)
  ·have h16 := ifT c15 h
   refine WP.usreg Z ?_
   refine U.p Z Z (.inl Z) (S.assign Z K) ?_
   refine U.p Z Z (.inl Z) (S.assign Z K) ?_
   refine U.done (nr Z) ?_
   refine WP.ret ?_
   refine sqR ?_
   refine fin.slots' (.inr Z) (fsC (L 1 Z Z) (fsC (L 0 Z Z) fsN)) Z ⟨V6, Z, le7, ?_⟩
   have ow17 := ow8.drop 0 Z
   have e18 := Option.some.inj h16
   subst e18
   exact ⟨rfl, ow17⟩
  ·have h19 := ifF c15 h
   refine WP.skip ?_
   refine sqN ?_
   refine WP.usreg Z ?_
   refine U.p (v := .pointer (some ⟨b5, 3, none⟩)) Z Z (.inl Z) (S.fieldAddr Z (L 11 Z Z) Try.underlying24 Z ti22 Z Z) ?_
   refine U.k Z Z (.inl Z) (S.load Z (L 0 Z Z) Try.underlying22 Z ((ow8.own (k := 0) Z).cell Z)) nd ?_
   refine U.p Z Z (.inl Z) (f2.1.len Z (L 0 Z Z) Try.underlying22) ?_
   obtain ⟨xs20, hx21, h22⟩ := bindS h19
   refine O.make (R := (RT.int .i64)) ow8 Z Z (.inl Z) Z (L 0 Z Z) (L 0 Z Z) Try.underlying27 ti3 Z Z Z (nr Z) Z hx21 (fun _ => nd) (fun v23 V24 le25 ow26 => ?_)
   refine U.p Z Z (.inl Z) (S.assign Z (L 0 Z Z)) ?_
   refine U.done (nr Z) ?_
   refine WP.usdreg Z Z Z ?_
   refine U.p (v := .pointer (some ⟨b5, 2, none⟩)) Z Z (.inl Z) (S.fieldAddr Z (L 16 Z Z) Try.underlying24 Z ti3 Z Z) ?_
   refine U.k Z Z (.inl Z) (S.loadC Z (L 0 Z Z) Try.underlying3 Z ((ow26.own (k := 1) Z).cell Z)) (fun _ => (okH.nil (fun r h => by cases h; exact (ow26.own (k := 1) Z).lt))) ?_
   obtain ⟨xs28, hx29, h30⟩ := bindS h22
   refine O.make (R := (RT.int .i64)) ow26 Z Z (.inl Z) Z (L 0 Z Z) (L 0 Z Z) Try.underlying27 ti3 Z Z Z (nr Z) Z hx29 (fun _ => (fun _ => (okH.cons trivial (okH.nil (fun r h => nomatch h))))) (fun v31 V32 le33 ow34 => ?_)
   refine U.p (v := .pointer (some ⟨b5, 2, none⟩)) Z Z (.inl Z) (S.fieldAddr Z (L 19 Z Z) Try.underlying24 Z ti3 Z Z) ?_
   refine U.k Z Z (.inl Z) (S.loadC Z (L 0 Z Z) Try.underlying3 Z ((ow34.own (k := 2) Z).cell Z)) (fun _ => (okH.cons trivial (okH.cons trivial (okH.nil (fun r h => by cases h; exact (ow34.own (k := 2) Z).lt))))) ?_
   obtain ⟨xs36, hx37, h38⟩ := bindS h30
   refine O.make (R := (RT.int .i64)) ow34 Z Z (.inl Z) Z (L 0 Z Z) (L 0 Z Z) Try.underlying27 ti3 Z Z Z (nr Z) Z hx37 (fun _ => (fun _ => (okH.cons trivial (okH.cons trivial (okH.cons trivial (okH.nil (fun r h => nomatch h))))))) (fun v39 V40 le41 ow42 => ?_)
   refine U.p Z Z (.inl Z) (S.assign Z (L 3 Z Z)) ?_
   refine U.p Z Z (.inl Z) (S.assign Z (L 1 Z Z)) ?_
   refine U.done (nr Z) ?_
   refine WP.usreg Z ?_
   refine U.p (v := .pointer (some ⟨b5, 2, none⟩)) Z Z (.inl Z) (S.fieldAddr Z (L 24 Z Z) Try.underlying24 Z ti3 Z Z) ?_
   refine U.k Z Z (.inl Z) (S.load Z (L 0 Z Z) Try.underlying3 Z ((ow42.own (k := 3) Z).cell Z)) nd ?_
   obtain ⟨xs44, hx45, h46⟩ := bindS h38
   refine O.make (R := RT.bool) ow42 Z Z (.inl Z) Z (L 0 Z Z) (L 0 Z Z) Try.underlying43 ti4 Z Z Z (nr Z) Z hx45 (fun _ => nd) (fun v47 V48 le49 ow50 => ?_)
   refine U.p Z Z (.inl Z) (S.assign Z (L 0 Z Z)) ?_
   refine U.done (nr Z) ?_
   refine WP.seq ?_
   refine WP.usreg Z ?_
   refine U.p Z Z (.inl Z) (S.assign Z K) ?_
   refine U.done (nr Z) ?_
   refine WP.blk ?_
   have ow57 := ow50.pick 0 Z
   have ow58 := ow57.pick 1 Z
   have ow59 := ow58.pick 2 Z
   have ow60 := ow59.pick 3 Z
   have ow61 := ow60.pick 4 Z
   unfold ref13_Holds_l1 at h46
   obtain ⟨n63, hn62⟩ := loopO_some.1 h46
   refine WP.loopI2 (fun n l V' => ∃ (xs52 : List Int) (xs53 : List Int) (xs54 : List Int) (xs55 : List Bool) (x56 : Int), l = [(1, v3), (2, .int .i64 p2), (3, .pointer (some ⟨b5, 0, none⟩)), (8, v23), (9, v31), (10, v39), (11, v47), (12, .int .i64 x56)] ∧ V48.le V' ∧ Ow V' (.pt b5 (.cells 0 [.string p0.name, .int .i64 p0.params, .int .i64 p0.regs, v1]) :: .os (RT.int .i64) v23 xs52 :: .os (RT.int .i64) v31 xs53 :: .os (RT.int .i64) v39 xs54 :: .os RT.bool v47 xs55 :: Rs) ∧ itO (fun s => ref13_Holds_l1b p0 p1 p2 s.1 s.2.1 s.2.2.1 s.2.2.2.1 s.2.2.2.2) n (xs52, xs53, xs54, xs55, x56) = some r) n63 _ ⟨xs20, xs28, xs36, xs44, 0, Z, .refl _, ow61, hn62⟩ (allCons (L 31 Z Z) (allCons (L 32 Z Z) (allCons (L 29 Z Z) (allCons (L 13 Z Z) (allCons (L 6 Z Z) (allCons (L 5 Z Z) (allCons (L 1 Z Z) (allCons (L 0 Z Z) allNil)))))))) ?_
   rintro _ _ V64 ⟨xs52, xs53, xs54, xs55, x56, rfl, le65, ow66, h70⟩
   obtain ⟨m67, q68, rfl, h71, e69⟩ := itS h70
   replace h71 : ref13_Holds_l1b p0 p1 p2 xs52 xs53 xs54 xs55 x56 = some q68 := h71
   unfold ref13_Holds_l1b at h71
   refine WP.seq ?_
   refine WP.usreg Z ?_
   refine U.p Z Z (.inl Z) (S.move Z (L 7 Z Z)) ?_
   refine U.p (v := .pointer (some ⟨b5, 2, none⟩)) Z Z (.inl Z) (S.fieldAddr Z (L 3 Z Z) Try.underlying24 Z ti3 Z Z) ?_
   refine U.k Z Z (.inl Z) (S.load Z (L 0 Z Z) Try.underlying3 Z ((ow66.own (k := 0) Z).cell Z)) nd ?_
   refine U.p Z Z (.inl Z) (S.lss Z (L 2 Z Z) (L 0 Z Z)) ?_
   refine U.done (nr Z) ?_
   refine WP.cond _ (L 0 Z Z) Z (fun c72 => ?_) (fun c72 => ?_)
   ·have h73 := ifT c72 h71
    refine WP.skip ?_
    refine sqN ?_
    refine WP.seq ?_
    refine WP.blk ?_
    refine WP.usreg Z ?_
    refine U.k Z Z (.inl Z) (S.loadB Z (L 6 Z Z) Try.underlying24 Z ti24 (ow66.own (k := 0) Z).get Z) nd ?_
    refine U.p Z Z (.inl Z) (S.move Z (L 12 Z Z)) ?_
    have f74 := f2.up (((((le7.trans le25).trans le33).trans le41).trans le49).trans le65)
    obtain ⟨x75, hx76, h77⟩ := bindS h73
    refine O.call (V := V64) Z Z (.inl Z) Z en19 (aC (L 1 Z Z) (aC (L 0 Z Z) aN)) (wk_ref10_Span V64 _ p0 x56 v1 f74 ow66 _ hx76) (fun _ _ _ _ => nd) (fun v78 V79 le80 hp81 => ?_)
    obtain ⟨rfl, ow82⟩ := hp81
    refine U.p Z Z (.inl Z) (S.move Z (L 0 Z Z)) ?_
    refine U.p Z Z (.inl Z) (S.extract Z (L 0 Z Z) Z (nr Z)) ?_
    refine U.p Z Z (.inl Z) (S.extract Z (L 1 Z Z) Z (nr Z)) ?_
    refine U.p Z Z (.inl Z) (S.extract Z (L 2 Z Z) Z (nr Z)) ?_
    refine U.p Z Z (.inl Z) (S.assign Z (L 2 Z Z)) ?_
    refine U.p Z Z (.inl Z) (S.assign Z (L 2 Z Z)) ?_
    refine U.p Z Z (.inl Z) (S.assign Z (L 2 Z Z)) ?_
    refine U.done (nr Z) ?_
    refine WP.usreg Z ?_
    refine U.p Z Z (.inl Z) (S.move Z (L 18 Z Z)) ?_
    refine U.p Z Z (.inl Z) (S.move Z (L 22 Z Z)) ?_
    refine U.p Z Z (.inl Z) (S.move Z (L 21 Z Z)) ?_
    refine U.p Z Z (.inl Z) (S.move Z (L 24 Z Z)) ?_
    refine U.p Z Z (.inl Z) (S.move Z (L 24 Z Z)) ?_
    refine U.p Z Z (.inl Z) (S.move Z (L 26 Z Z)) ?_
    refine U.p Z Z (.inl Z) (S.move Z (L 8 Z Z)) ?_
    refine U.p Z Z (.inl Z) (S.move Z (L 8 Z Z)) ?_
    refine U.p Z Z (.inl Z) (S.move Z (L 8 Z Z)) ?_
    obtain ⟨x83, hx84, h85⟩ := bindS h77
    obtain ⟨b86, o87, n88, c89, hv90⟩ := ow82.ospt (k := 2) Z hx84
    obtain ⟨_, hv91, _⟩ := ow82.osel (k := 2) Z hv90 hx84
    refine U.p Z Z (.inl Z) (S.index Z ((L 8 Z Z).trans hv91) (L 7 Z Z) Try.underlying27 ti3 (ix_ge hx84) (ix_lt hx84)) ?_
    obtain ⟨cs92, hv93, hlt94, hr95, hc96⟩ := ow82.osel (k := 2) Z hv90 hx84
    obtain rfl : cs92 = [.int .i64 x83] := hr95
    refine O.storeE (k := 2) (R := (RT.int .i64)) (j := 0) (y := x75.1) (cs := [.int .i64 x75.1]) ow82 Z hv93 Z Z (.inl Z) Z (L 0 Z Z) (L 3 Z Z) ti3 hx84 (by simp [topV]) Z Z Z (full Z) (fun _ _ => nd) (fun V97 le98 ow99 => ?_)
    obtain ⟨x100, hx101, h102⟩ := bindS h85
    obtain ⟨b103, o104, n105, c106, hv107⟩ := ow99.ospt (k := 3) Z hx101
    obtain ⟨_, hv108, _⟩ := ow99.osel (k := 3) Z hv107 hx101
    refine U.p Z Z (.inl Z) (S.index Z ((L 7 Z Z).trans hv108) (L 6 Z Z) Try.underlying27 ti3 (ix_ge hx101) (ix_lt hx101)) ?_
    obtain ⟨cs109, hv110, hlt111, hr112, hc113⟩ := ow99.osel (k := 3) Z hv107 hx101
    obtain rfl : cs109 = [.int .i64 x100] := hr112
    refine O.storeE (k := 3) (R := (RT.int .i64)) (j := 0) (y := x75.2.1) (cs := [.int .i64 x75.2.1]) ow99 Z hv110 Z Z (.inl Z) Z (L 0 Z Z) (L 3 Z Z) ti3 hx101 (by simp [topV]) Z Z Z (full Z) (fun _ _ => nd) (fun V114 le115 ow116 => ?_)
    obtain ⟨x117, hx118, h119⟩ := bindS h102
    obtain ⟨b120, o121, n122, c123, hv124⟩ := ow116.ospt (k := 4) Z hx118
    obtain ⟨_, hv125, _⟩ := ow116.osel (k := 4) Z hv124 hx118
    refine U.p Z Z (.inl Z) (S.index Z ((L 6 Z Z).trans hv125) (L 5 Z Z) Try.underlying43 ti4 (ix_ge hx118) (ix_lt hx118)) ?_
    obtain ⟨cs126, hv127, hlt128, hr129, hc130⟩ := ow116.osel (k := 4) Z hv124 hx118
    obtain rfl : cs126 = [.bool x117] := hr129
    refine O.storeE (k := 4) (R := RT.bool) (j := 0) (y := x75.2.2) (cs := [.bool x75.2.2]) ow116 Z hv127 Z Z (.inl Z) Z (L 0 Z Z) (L 3 Z Z) ti4 hx118 (by simp [topV]) Z Z Z (full Z) (fun _ _ => nd) (fun V131 le132 ow133 => ?_)
    refine U.done (nr Z) ?_
    refine WP.seq ?_
    refine WP.usreg Z ?_
    refine U.p Z Z (.inl Z) (S.move Z (L 12 Z Z)) ?_
    refine U.p Z Z (.inl Z) (S.move Z (L 27 Z Z)) ?_
    refine U.p Z Z (.inl Z) (S.move Z (L 35 Z Z)) ?_
    obtain ⟨x134, hx135, h136⟩ := bindS h119
    obtain ⟨b137, o138, c139, cs140, hv141, hf142, hr143, hc144⟩ := f4.at hx135
    obtain rfl : cs140 = [.int .i64 x134] := hr143
    refine U.p Z Z (.inl Z) (S.index Z ((L 1 Z Z).trans hv141) (L 0 Z Z) Try.underlying27 ti3 (ix_ge hx135) (ix_lt hx135)) ?_
    refine U.k Z Z (.inl Z) (S.load Z (L 0 Z Z) Try.underlying3 Z ((((((((((le7.trans le25).trans le33).trans le41).trans le49).trans le65).trans le80).trans le98).trans le115).trans le132).cell hf142 (hc144 0 _ Z))) nd ?_
    refine U.p Z Z (.inl Z) (S.geq Z (L 0 Z Z) K) ?_
    refine U.p Z Z (.inl Z) (S.neqB Z (L 5 Z Z) (L 0 Z Z) Try.underlying4) ?_
    refine U.p Z Z (.inl Z) (S.move Z (L 0 Z Z)) ?_
    obtain ⟨y145, hy146, h147⟩ := bindS h136
    refine U.joinX 14 (fun e H => ∃ (u148 u149 u150 u151 u152 : Value), H = V131.H ∧ e = [(82, .bool y145), (81, u148), (80, u149), (79, u150), (78, u151), (77, u152)]) ?_ ?_
    ·rintro _ _ ⟨u148, u149, u150, u151, u152, rfl, rfl⟩
     refine U.p Z Z (.inl Z) (S.move Z (L 0 Z Z)) ?_
     obtain ⟨y156, hy157, h158⟩ := bindS h147
     refine U.joinX 23 (fun e H => ∃ (u159 u160 u161 u162 u163 u164 u165 : Value), H = V131.H ∧ e = [(91, .bool y156), (90, u159), (89, u160), (88, u161), (87, u162), (86, u163), (85, u164), (84, u165)]) ?_ ?_
     ·rintro _ _ ⟨u159, u160, u161, u162, u163, u164, u165, rfl, rfl⟩
      refine U.done (nr Z) ?_
      refine WP.cond _ (L 0 Z Z) Z (fun c169 => ?_) (fun c169 => ?_)
      ·have h170 := ifT c169 h158
       refine WP.usreg Z ?_
       refine U.p Z Z (.inl Z) (S.assign Z K) ?_
       refine U.p Z Z (.inl Z) (S.assign Z K) ?_
       refine U.done (nr Z) ?_
       refine WP.ret ?_
       refine sqR (blkR (sqR (sqR (blkR (sqR ?_)))))
       have h171 := exitS h170 e69
       refine fin.slots' (.inr Z) (fsC (L 1 Z Z) (fsC (L 0 Z Z) fsN)) Z ⟨V131, Z, (((((((((le7.trans le25).trans le33).trans le41).trans le49).trans le65).trans le80).trans le98).trans le115).trans le132), ?_⟩
       have ow172 := ow133.drop 0 Z
       have ow173 := ow172.drop 0 Z
       have ow174 := ow173.drop 0 Z
       have ow175 := ow174.drop 0 Z
       have ow176 := ow175.drop 0 Z
       have e177 := Option.some.inj h171
       subst e177
       exact ⟨rfl, ow176⟩
      ·have h178 := ifF c169 h158
       refine WP.skip ?_
       refine sqN ?_
       refine WP.usreg Z ?_
       refine U.p Z Z (.inl Z) (S.move Z (L 37 Z Z)) ?_
       refine U.p Z Z (.inl Z) (S.assign Z (L 0 Z Z)) ?_
       refine U.done (nr Z) ?_
       refine WP.blk ?_
       unfold ref13_Holds_l2 at h178
       obtain ⟨n182, hn181⟩ := loopO_some.1 h178
       refine WP.loopI2 (fun n l V' => ∃ (xs179 : List Int) (x180 : Int), l = [(1, v3), (2, .int .i64 p2), (3, .pointer (some ⟨b5, 0, none⟩)), (8, v23), (9, v31), (10, v39), (11, v47), (12, .int .i64 x56), (14, .int .i64 x75.2.1), (15, .bool x75.2.2), (16, .int .i64 x180)] ∧ V131.le V' ∧ Ow V' (.pt b5 (.cells 0 [.string p0.name, .int .i64 p0.params, .int .i64 p0.regs, v1]) :: .os (RT.int .i64) v23 xs179 :: .os (RT.int .i64) v31 (xs53.set (Int.toNat x56) x75.1) :: .os (RT.int .i64) v39 (xs54.set (Int.toNat x56) x75.2.1) :: .os RT.bool v47 (xs55.set (Int.toNat x56) x75.2.2) :: Rs) ∧ itO (fun s => ref13_Holds_l2b xs53 xs54 xs55 x56 x75 s.1 s.2) n (xs179, x180) = some q68) n182 _ ⟨xs52, x75.1, Z, .refl _, ow133, hn181⟩ (allCons (L 51 Z Z) (allCons (L 52 Z Z) (allCons (L 53 Z Z) (allCons (L 54 Z Z) (allCons (L 55 Z Z) (allCons (L 56 Z Z) (allCons (L 57 Z Z) (allCons (L 58 Z Z) (allCons (L 38 Z Z) (allCons (L 37 Z Z) (allCons (L 0 Z Z) allNil))))))))))) ?_
       rintro _ _ V183 ⟨xs179, x180, rfl, le184, ow185, h189⟩
       obtain ⟨m186, q187, rfl, h190, e188⟩ := itS h189
       replace h190 : ref13_Holds_l2b xs53 xs54 xs55 x56 x75 xs179 x180 = some q187 := h190
       unfold ref13_Holds_l2b at h190
       refine WP.seq ?_
       refine WP.usreg Z ?_
       refine U.p Z Z (.inl Z) (S.move Z (L 9 Z Z)) ?_
       refine U.p Z Z (.inl Z) (S.move Z (L 0 Z Z)) ?_
       refine U.joinX 6 (fun e H => ∃ (u191 u192 u193 : Value), H = V183.H ∧ e = [(98, .bool (x75.2.2 && (decide (x180 ≤ x75.2.1)))), (97, u191), (96, u192), (95, u193)]) ?_ ?_
       ·rintro _ _ ⟨u191, u192, u193, rfl, rfl⟩
        refine U.done (nr Z) ?_
        refine WP.cond _ (L 0 Z Z) Z (fun c197 => ?_) (fun c197 => ?_)
        ·have h198 := ifT c197 h190
         refine WP.skip ?_
         refine sqN ?_
         refine WP.seq ?_
         refine WP.blk ?_
         refine WP.ureg Z ?_
         refine U.p Z Z (.inl Z) (S.move Z (L 9 Z Z)) ?_
         refine U.p Z Z (.inl Z) (S.move Z (L 17 Z Z)) ?_
         obtain ⟨x199, hx200, h201⟩ := bindS h198
         obtain ⟨b202, o203, n204, c205, hv206⟩ := ow185.ospt (k := 1) Z hx200
         obtain ⟨_, hv207, _⟩ := ow185.osel (k := 1) Z hv206 hx200
         refine U.p Z Z (.inl Z) (S.index Z ((L 1 Z Z).trans hv207) (L 0 Z Z) Try.underlying27 ti3 (ix_ge hx200) (ix_lt hx200)) ?_
         obtain ⟨cs208, hv209, hlt210, hr211, hc212⟩ := ow185.osel (k := 1) Z hv206 hx200
         obtain rfl : cs208 = [.int .i64 x199] := hr211
         refine U.k Z Z (.inl Z) (S.load Z (L 0 Z Z) Try.underlying3 Z (hc212 0 _ Z)) nd ?_
         refine U.p Z Z (.inl Z) (S.add Z (L 0 Z Z) K) ?_
         obtain ⟨x213, hx214, h215⟩ := bindS h201
         obtain ⟨_, hv216, _⟩ := ow185.osel (k := 1) Z hv206 hx214
         refine U.p Z Z (.inl Z) (S.index Z ((L 4 Z Z).trans hv216) (L 3 Z Z) Try.underlying27 ti3 (ix_ge hx214) (ix_lt hx214)) ?_
         obtain ⟨cs217, hv218, hlt219, hr220, hc221⟩ := ow185.osel (k := 1) Z hv206 hx214
         obtain rfl : cs217 = [.int .i64 x213] := hr220
         refine O.storeE (k := 1) (R := (RT.int .i64)) (j := 0) (y := w64 (x199 + 1)) (cs := [.int .i64 (w64 (x199 + 1))]) ow185 Z hv218 Z Z (.inl Z) Z (L 0 Z Z) (L 1 Z Z) ti3 hx214 (by simp [topV]) Z Z Z (full Z) (fun _ _ => nd) (fun V222 le223 ow224 => ?_)
         refine U.done (nr Z) ?_
         refine blkN (sqN ?_)
         refine WP.ureg Z ?_
         refine U.p Z Z (.inl Z) (S.move Z (L 22 Z Z)) ?_
         refine U.p Z Z (.inl Z) (S.add Z (L 0 Z Z) K) ?_
         refine U.p Z Z (.inl Z) (S.assign Z (L 0 Z Z)) ?_
         refine U.done (nr Z) ?_
         refine sqN ?_
         exact ⟨_, V222, Z, ⟨m186, Nat.lt_succ_self _, xs179.set (Int.toNat x180) (w64 (x199 + 1)), w64 (x180 + 1), Z, (le184.trans le223), ow224, backS h215 e188⟩, (allCons (L 15 Z Z) (allCons (L 16 Z Z) (allCons (L 17 Z Z) (allCons (L 18 Z Z) (allCons (L 19 Z Z) (allCons (L 20 Z Z) (allCons (L 21 Z Z) (allCons (L 22 Z Z) (allCons (L 23 Z Z) (allCons (L 24 Z Z) (allCons (L 0 Z Z) allNil)))))))))))⟩
        ·have h225 := ifF c197 h190
         refine WP.exit ?_
         refine sqE (sqE (blkE (blkN (sqN ?_))))
         have h226 := exitS h225 e188
         refine WP.ureg Z ?_
         refine U.p Z Z (.inl Z) (S.move Z (L 13 Z Z)) ?_
         refine U.p Z Z (.inl Z) (S.add Z (L 0 Z Z) K) ?_
         refine U.p Z Z (.inl Z) (S.assign Z (L 0 Z Z)) ?_
         refine U.done (nr Z) ?_
         refine sqN ?_
         exact ⟨_, V183, Z, ⟨m67, Nat.lt_succ_self _, xs179, xs53.set (Int.toNat x56) x75.1, xs54.set (Int.toNat x56) x75.2.1, xs55.set (Int.toNat x56) x75.2.2, w64 (x56 + 1), Z, (((((le65.trans le80).trans le98).trans le115).trans le132).trans le184), ow185, backS h226 e69⟩, (allCons (L 9 Z Z) (allCons (L 10 Z Z) (allCons (L 11 Z Z) (allCons (L 12 Z Z) (allCons (L 13 Z Z) (allCons (L 14 Z Z) (allCons (L 15 Z Z) (allCons (L 0 Z Z) allNil))))))))⟩
       ·intro kk
        refine bcase (b := x75.2.2) (fun g227 => ?_) (fun g227 => ?_)
        ·skip
         refine U.p Z Z (.inr ⟨_, _, _, Z, Z, ((L 0 Z Z).trans (cB g227))⟩) (S.move Z (L 12 Z Z)) ?_
         refine U.p Z Z (.inr ⟨_, _, _, Z, Z, ((L 1 Z Z).trans (cB g227))⟩) (S.move Z (L 11 Z Z)) ?_
         refine U.p Z Z (.inr ⟨_, _, _, Z, Z, ((L 2 Z Z).trans (cB g227))⟩) (S.leq Z (L 1 Z Z) (L 0 Z Z)) ?_
         refine U.p Z Z (.inl Z) (S.pickT Z ((L 3 Z Z).trans (cB g227)) (L 0 Z Z)) ?_
         exact kk [(98, .bool (decide (x180 ≤ x75.2.1))), (97, .bool (decide (x180 ≤ x75.2.1))), (96, .int .i64 x75.2.1), (95, .int .i64 x180)] _ ⟨.bool (decide (x180 ≤ x75.2.1)), .int .i64 x75.2.1, .int .i64 x180, Z, (by rw [g227, Bool.true_and])⟩
        ·skip
         refine U.x Z Z Z Z ((L 0 Z Z).trans (cB g227)) (by decide) ?_
         refine U.x Z Z Z Z ((L 1 Z Z).trans (cB g227)) (by decide) ?_
         refine U.x Z Z Z Z ((L 2 Z Z).trans (cB g227)) (by decide) ?_
         refine U.p Z Z (.inl Z) (S.pickF Z ((L 3 Z Z).trans (cB g227)) K) ?_
         exact kk [(98, .bool false), (97, .tuple #[]), (96, .tuple #[]), (95, .tuple #[])] _ ⟨.tuple #[], .tuple #[], .tuple #[], Z, (by rw [g227, Bool.false_and])⟩
     ·intro kk
      refine bcase (b := y145) (fun g228 => ?_) (fun g228 => ?_)
      ·have h229 := ifT g228 hy157
       refine U.x Z Z Z Z ((L 0 Z Z).trans (cB g228)) (by decide) ?_
       refine U.x Z Z Z Z ((L 1 Z Z).trans (cB g228)) (by decide) ?_
       refine U.x Z Z Z Z ((L 2 Z Z).trans (cB g228)) (by decide) ?_
       refine U.x Z Z Z Z ((L 3 Z Z).trans (cB g228)) (by decide) ?_
       refine U.x Z Z Z Z ((L 4 Z Z).trans (cB g228)) (by decide) ?_
       refine U.x Z Z Z Z ((L 5 Z Z).trans (cB g228)) (by decide) ?_
       refine U.x Z Z Z Z ((L 6 Z Z).trans (cB g228)) (by decide) ?_
       refine U.p Z Z (.inl Z) (S.pickT Z ((L 7 Z Z).trans (cB g228)) K) ?_
       have e230 := Option.some.inj h229
       subst e230
       exact kk [(91, .bool true), (90, .tuple #[]), (89, .tuple #[]), (88, .tuple #[]), (87, .tuple #[]), (86, .tuple #[]), (85, .tuple #[]), (84, .tuple #[])] _ ⟨.tuple #[], .tuple #[], .tuple #[], .tuple #[], .tuple #[], .tuple #[], .tuple #[], Z, Z⟩
      ·have h231 := ifF g228 hy157
       refine U.p Z Z (.inr ⟨_, _, _, Z, Z, ((L 0 Z Z).trans (cB g228))⟩) (S.move Z (L 41 Z Z)) ?_
       refine U.p Z Z (.inr ⟨_, _, _, Z, Z, ((L 1 Z Z).trans (cB g228))⟩) (S.move Z (L 49 Z Z)) ?_
       obtain ⟨x232, hx233, h234⟩ := bindS h231
       obtain ⟨b235, o236, c237, cs238, hv239, hf240, hr241, hc242⟩ := f4.at hx233
       obtain rfl : cs238 = [.int .i64 x232] := hr241
       refine U.p Z Z (.inr ⟨_, _, _, Z, Z, ((L 2 Z Z).trans (cB g228))⟩) (S.index Z ((L 1 Z Z).trans hv239) (L 0 Z Z) Try.underlying27 ti3 (ix_ge hx233) (ix_lt hx233)) ?_
       refine U.k Z Z (.inr ⟨_, _, _, Z, Z, ((L 3 Z Z).trans (cB g228))⟩) (S.load Z (L 0 Z Z) Try.underlying3 Z ((((((((((le7.trans le25).trans le33).trans le41).trans le49).trans le65).trans le80).trans le98).trans le115).trans le132).cell hf240 (hc242 0 _ Z))) nd ?_
       refine U.p Z Z (.inr ⟨_, _, _, Z, Z, ((L 4 Z Z).trans (cB g228))⟩) (S.move Z (L 46 Z Z)) ?_
       refine U.p Z Z (.inr ⟨_, _, _, Z, Z, ((L 5 Z Z).trans (cB g228))⟩) (S.add Z K (L 0 Z Z)) ?_
       refine U.p Z Z (.inr ⟨_, _, _, Z, Z, ((L 6 Z Z).trans (cB g228))⟩) (S.geq Z (L 2 Z Z) (L 0 Z Z)) ?_
       refine U.p Z Z (.inl Z) (S.pickF Z ((L 7 Z Z).trans (cB g228)) (L 0 Z Z)) ?_
       have e243 := Option.some.inj h234
       subst e243
       exact kk [(91, .bool (decide ((w64 (10 + p2)) ≤ x232))), (90, .bool (decide ((w64 (10 + p2)) ≤ x232))), (89, .int .i64 (w64 (10 + p2))), (88, .int .i64 p2), (87, .int .i64 x232), (86, .pointer (some ⟨b235, o236 + Int.toNat x56 * 1, none⟩)), (85, .int .i64 x56), (84, v3)] _ ⟨.bool (decide ((w64 (10 + p2)) ≤ x232)), .int .i64 (w64 (10 + p2)), .int .i64 p2, .int .i64 x232, .pointer (some ⟨b235, o236 + Int.toNat x56 * 1, none⟩), .int .i64 x56, v3, Z, Z⟩
    ·intro kk
     refine bcase (b := !(x75.2.2 == (decide (0 ≤ x134)))) (fun g244 => ?_) (fun g244 => ?_)
     ·have h245 := ifT g244 hy146
      have k246 : (x75.2.2 == (decide (0 ≤ x134))) = false := nT g244
      refine U.x Z Z Z Z ((L 0 Z Z).trans (cB g244)) (by decide) ?_
      refine U.x Z Z Z Z ((L 1 Z Z).trans (cB g244)) (by decide) ?_
      refine U.x Z Z Z Z ((L 2 Z Z).trans (cB g244)) (by decide) ?_
      refine U.x Z Z Z Z ((L 3 Z Z).trans (cB g244)) (by decide) ?_
      refine U.x Z Z Z Z ((L 4 Z Z).trans (cB g244)) (by decide) ?_
      refine U.p Z Z (.inl Z) (S.pickT Z ((L 5 Z Z).trans (cB g244)) K) ?_
      have e247 := Option.some.inj h245
      subst e247
      exact kk [(82, .bool true), (81, .tuple #[]), (80, .tuple #[]), (79, .tuple #[]), (78, .tuple #[]), (77, .tuple #[])] _ ⟨.tuple #[], .tuple #[], .tuple #[], .tuple #[], .tuple #[], Z, Z⟩
     ·have h248 := ifF g244 hy146
      have k249 : (x75.2.2 == (decide (0 ≤ x134))) = true := nF g244
      refine U.p Z Z (.inr ⟨_, _, _, Z, Z, ((L 0 Z Z).trans (cB g244))⟩) (S.move Z (L 34 Z Z)) ?_
      refine U.p Z Z (.inr ⟨_, _, _, Z, Z, ((L 1 Z Z).trans (cB g244))⟩) (S.move Z (L 42 Z Z)) ?_
      obtain ⟨x250, hx251, h252⟩ := bindS h248
      obtain ⟨b253, o254, c255, cs256, hv257, hf258, hr259, hc260⟩ := f4.at hx251
      obtain rfl : cs256 = [.int .i64 x250] := hr259
      refine U.p Z Z (.inr ⟨_, _, _, Z, Z, ((L 2 Z Z).trans (cB g244))⟩) (S.index Z ((L 1 Z Z).trans hv257) (L 0 Z Z) Try.underlying27 ti3 (ix_ge hx251) (ix_lt hx251)) ?_
      refine U.k Z Z (.inr ⟨_, _, _, Z, Z, ((L 3 Z Z).trans (cB g244))⟩) (S.load Z (L 0 Z Z) Try.underlying3 Z ((((((((((le7.trans le25).trans le33).trans le41).trans le49).trans le65).trans le80).trans le98).trans le115).trans le132).cell hf258 (hc260 0 _ Z))) nd ?_
      refine U.p Z Z (.inr ⟨_, _, _, Z, Z, ((L 4 Z Z).trans (cB g244))⟩) (S.lss Z (L 0 Z Z) K) ?_
      refine U.p Z Z (.inl Z) (S.pickF Z ((L 5 Z Z).trans (cB g244)) (L 0 Z Z)) ?_
      have e261 := Option.some.inj h252
      subst e261
      exact kk [(82, .bool (decide (x250 < (-1)))), (81, .bool (decide (x250 < (-1)))), (80, .int .i64 x250), (79, .pointer (some ⟨b253, o254 + Int.toNat x56 * 1, none⟩)), (78, .int .i64 x56), (77, v3)] _ ⟨.bool (decide (x250 < (-1))), .int .i64 x250, .pointer (some ⟨b253, o254 + Int.toNat x56 * 1, none⟩), .int .i64 x56, v3, Z, Z⟩
   ·have h262 := ifF c72 h71
    refine WP.exit ?_
    refine sqE (sqE (blkE (sqN ?_)))
    have h263 := exitS h262 e69
    refine WP.seq ?_
    refine WP.usreg Z ?_
    refine U.p Z Z (.inl Z) (S.move Z (L 4 Z Z)) ?_
    refine U.p Z Z (.inl Z) (f4.1.len Z (L 0 Z Z) Try.underlying27) ?_
    refine U.p Z Z (.inl Z) (S.move Z K) ?_
    refine U.done (nr Z) ?_
    refine WP.blk ?_
    have ow265 := ow66.drop 0 Z
    unfold ref13_Holds_l3 at h263
    obtain ⟨n267, hn266⟩ := loopO_some.1 h263
    refine WP.loopI2 (fun n l V' => ∃ (x264 : Int), l = [(1, v3), (8, v23), (9, v31), (10, v39), (11, v47), (108, .int .i64 (p1.length : Int)), (109, .int .i64 x264)] ∧ V64.le V' ∧ Ow V' (.os (RT.int .i64) v23 xs52 :: .os (RT.int .i64) v31 xs53 :: .os (RT.int .i64) v39 xs54 :: .os RT.bool v47 xs55 :: Rs) ∧ itO (fun s => ref13_Holds_l3b p1 xs52 xs53 xs54 xs55 s) n x264 = some r) n267 _ ⟨0, Z, .refl _, ow265, hn266⟩ (allCons (L 7 Z Z) (allCons (L 10 Z Z) (allCons (L 11 Z Z) (allCons (L 12 Z Z) (allCons (L 13 Z Z) (allCons (L 1 Z Z) (allCons (L 0 Z Z) allNil))))))) ?_
    rintro _ _ V268 ⟨x264, rfl, le269, ow270, h274⟩
    obtain ⟨m271, q272, rfl, h275, e273⟩ := itS h274
    replace h275 : ref13_Holds_l3b p1 xs52 xs53 xs54 xs55 x264 = some q272 := h275
    unfold ref13_Holds_l3b at h275
    refine WP.usreg Z ?_
    refine U.p Z Z (.inl Z) (S.lss Z (L 6 Z Z) (L 5 Z Z)) ?_
    refine U.done (nr Z) ?_
    refine WP.seq ?_
    refine WP.cond _ (L 0 Z Z) Z (fun c276 => ?_) (fun c276 => ?_)
    ·have h277 := ifT c276 h275
     refine WP.skip ?_
     refine sqN ?_
     refine WP.seq ?_
     refine WP.blk ?_
     refine WP.usreg Z ?_
     refine U.p Z Z (.inl Z) (S.move Z (L 7 Z Z)) ?_
     refine U.p Z Z (.inl Z) (S.assign Z (L 0 Z Z)) ?_
     refine U.done (nr Z) ?_
     refine WP.usreg Z ?_
     refine U.p Z Z (.inl Z) (S.assign Z K) ?_
     refine U.done (nr Z) ?_
     refine WP.blk ?_
     unfold ref13_Holds_l4 at h277
     obtain ⟨n280, hn279⟩ := loopO_some.1 h277
     refine WP.loopI2 (fun n l V' => ∃ (x278 : Int), l = [(1, v3), (8, v23), (9, v31), (10, v39), (11, v47), (17, .int .i64 x264), (18, .int .i64 x278), (108, .int .i64 (p1.length : Int)), (109, .int .i64 x264)] ∧ V268.le V' ∧ Ow V' (.os (RT.int .i64) v23 xs52 :: .os (RT.int .i64) v31 xs53 :: .os (RT.int .i64) v39 xs54 :: .os RT.bool v47 xs55 :: Rs) ∧ itO (fun s => ref13_Holds_l4b p1 xs53 xs54 xs55 x264 s) n x278 = some q272) n280 _ ⟨0, Z, .refl _, ow270, hn279⟩ (allCons (L 4 Z Z) (allCons (L 5 Z Z) (allCons (L 6 Z Z) (allCons (L 7 Z Z) (allCons (L 8 Z Z) (allCons (L 1 Z Z) (allCons (L 0 Z Z) (allCons (L 9 Z Z) (allCons (L 10 Z Z) allNil))))))))) ?_
     rintro _ _ V281 ⟨x278, rfl, le282, ow283, h287⟩
     obtain ⟨m284, q285, rfl, h288, e286⟩ := itS h287
     replace h288 : ref13_Holds_l4b p1 xs53 xs54 xs55 x264 x278 = some q285 := h288
     unfold ref13_Holds_l4b at h288
     refine WP.seq ?_
     refine WP.usreg Z ?_
     refine U.p Z Z (.inl Z) (S.move Z (L 6 Z Z)) ?_
     refine U.p Z Z (.inl Z) (S.move Z (L 6 Z Z)) ?_
     refine U.p Z Z (.inl Z) (S.lss Z (L 1 Z Z) (L 0 Z Z)) ?_
     refine U.done (nr Z) ?_
     refine WP.cond _ (L 0 Z Z) Z (fun c289 => ?_) (fun c289 => ?_)
     ·have h290 := ifT c289 h288
      refine WP.skip ?_
      refine sqN ?_
      refine WP.seq ?_
      refine WP.blk ?_
      refine WP.seqI (fun l V' => ∃ (x291 : Bool), l = [(1, v3), (8, v23), (9, v31), (10, v39), (11, v47), (17, .int .i64 x264), (18, .int .i64 x278), (108, .int .i64 (p1.length : Int)), (109, .int .i64 x264), (159, .bool x291)] ∧ V281.le V' ∧ Ow V' (.os (RT.int .i64) v23 xs52 :: .os (RT.int .i64) v31 xs53 :: .os (RT.int .i64) v39 xs54 :: .os RT.bool v47 xs55 :: Rs) ∧ ref13_Holds_k1 x278 x291 = some q285) ?_ ?_
      ·rintro _ V292 ⟨x291, rfl, le293, ow294, h295⟩
       unfold ref13_Holds_k1 at h295
       refine WP.cond _ (L 9 Z Z) Z (fun c296 => ?_) (fun c296 => ?_)
       ·have h297 := ifT c296 h295
        refine WP.usreg Z ?_
        refine U.p Z Z (.inl Z) (S.assign Z K) ?_
        refine U.p Z Z (.inl Z) (S.assign Z K) ?_
        refine U.done (nr Z) ?_
        refine WP.ret ?_
        refine blkR (sqR (sqR (blkR (blkR (sqR (sqR (blkR (sqR ?_))))))))
        have h298 := exitS h297 e286
        have h299 := exitS h298 e273
        refine fin.slots' (.inr Z) (fsC (L 1 Z Z) (fsC (L 0 Z Z) fsN)) Z ⟨V292, Z, ((((((((le7.trans le25).trans le33).trans le41).trans le49).trans le65).trans le269).trans le282).trans le293), ?_⟩
        have ow300 := ow294.drop 0 Z
        have ow301 := ow300.drop 0 Z
        have ow302 := ow301.drop 0 Z
        have ow303 := ow302.drop 0 Z
        have e304 := Option.some.inj h299
        subst e304
        exact ⟨rfl, ow303⟩
       ·have h305 := ifF c296 h295
        refine WP.skip ?_
        refine blkN (sqN ?_)
        refine WP.ureg Z ?_
        refine U.p Z Z (.inl Z) (S.move Z (L 6 Z Z)) ?_
        refine U.p Z Z (.inl Z) (S.add Z (L 0 Z Z) K) ?_
        refine U.p Z Z (.inl Z) (S.assign Z (L 0 Z Z)) ?_
        refine U.done (nr Z) ?_
        refine sqN ?_
        exact ⟨_, V292, Z, ⟨m284, Nat.lt_succ_self _, w64 (x278 + 1), Z, (le282.trans le293), ow294, backS h305 e286⟩, (allCons (L 3 Z Z) (allCons (L 4 Z Z) (allCons (L 5 Z Z) (allCons (L 6 Z Z) (allCons (L 7 Z Z) (allCons (L 8 Z Z) (allCons (L 0 Z Z) (allCons (L 10 Z Z) (allCons (L 11 Z Z) allNil)))))))))⟩
      ·skip
       refine WP.udreg Z Z Z ?_
       refine U.p Z Z (.inl Z) (S.move Z (L 7 Z Z)) ?_
       refine U.p Z Z (.inl Z) (S.move Z (L 9 Z Z)) ?_
       obtain ⟨x306, hx307, h308⟩ := bindS h290
       obtain ⟨b309, o310, n311, c312, hv313⟩ := ow283.ospt (k := 3) Z hx307
       obtain ⟨_, hv314, _⟩ := ow283.osel (k := 3) Z hv313 hx307
       refine U.p Z Z (.inl Z) (S.index Z ((L 1 Z Z).trans hv314) (L 0 Z Z) Try.underlying43 ti4 (ix_ge hx307) (ix_lt hx307)) ?_
       obtain ⟨cs315, hv316, hlt317, hr318, hc319⟩ := ow283.osel (k := 3) Z hv313 hx307
       obtain rfl : cs315 = [.bool x306] := hr318
       refine U.k Z Z (.inl Z) (S.load Z (L 0 Z Z) Try.underlying4 Z (hc319 0 _ Z)) (fun _ => (okH.nil (fun r h => by cases h; exact hlt317))) ?_
       refine U.p Z Z (.inl Z) (S.move Z (L 0 Z Z)) ?_
       refine bcase (b := x306) (fun g320 => ?_) (fun g320 => ?_)
       ·have h321 := ifT g320 h308
        refine U.p Z Z (.inr ⟨_, _, _, Z, Z, ((L 0 Z Z).trans (cB g320))⟩) (S.move Z (L 12 Z Z)) ?_
        refine U.p Z Z (.inr ⟨_, _, _, Z, Z, ((L 1 Z Z).trans (cB g320))⟩) (S.move Z (L 15 Z Z)) ?_
        obtain ⟨x322, hx323, h324⟩ := bindS h321
        obtain ⟨_, hv325, _⟩ := ow283.osel (k := 3) Z hv313 hx323
        refine U.p Z Z (.inr ⟨_, _, _, Z, Z, ((L 2 Z Z).trans (cB g320))⟩) (S.index Z ((L 1 Z Z).trans hv325) (L 0 Z Z) Try.underlying43 ti4 (ix_ge hx323) (ix_lt hx323)) ?_
        obtain ⟨cs326, hv327, hlt328, hr329, hc330⟩ := ow283.osel (k := 3) Z hv313 hx323
        obtain rfl : cs326 = [.bool x322] := hr329
        refine U.k Z Z (.inr ⟨_, _, _, Z, Z, ((L 3 Z Z).trans (cB g320))⟩) (S.load Z (L 0 Z Z) Try.underlying4 Z (hc330 0 _ Z)) (fun _ => (okH.cons trivial (okH.nil (fun r h => by cases h; exact hlt328)))) ?_
        refine U.p Z Z (.inl Z) (S.pickT Z ((L 4 Z Z).trans (cB g320)) (L 0 Z Z)) ?_
        refine U.p Z Z (.inl Z) (S.move Z (L 0 Z Z)) ?_
        refine bcase (b := x322) (fun g331 => ?_) (fun g331 => ?_)
        ·have h332 := ifT g331 h324
         refine U.p Z Z (.inr ⟨_, _, _, Z, Z, ((L 0 Z Z).trans (cB g331))⟩) (S.move Z (L 14 Z Z)) ?_
         refine U.p Z Z (.inr ⟨_, _, _, Z, Z, ((L 1 Z Z).trans (cB g331))⟩) (S.move Z (L 20 Z Z)) ?_
         obtain ⟨x333, hx334, h335⟩ := bindS h332
         obtain ⟨b336, o337, c338, cs339, hv340, hf341, hr342, hc343⟩ := f4.at hx334
         obtain rfl : cs339 = [.int .i64 x333] := hr342
         refine U.p Z Z (.inr ⟨_, _, _, Z, Z, ((L 2 Z Z).trans (cB g331))⟩) (S.index Z ((L 1 Z Z).trans hv340) (L 0 Z Z) Try.underlying27 ti3 (ix_ge hx334) (ix_lt hx334)) ?_
         refine U.k Z Z (.inr ⟨_, _, _, Z, Z, ((L 3 Z Z).trans (cB g331))⟩) (S.load Z (L 0 Z Z) Try.underlying3 Z ((((((((le7.trans le25).trans le33).trans le41).trans le49).trans le65).trans le269).trans le282).cell hf341 (hc343 0 _ Z))) (fun _ => (okH.cons trivial (okH.cons trivial (okH.nil (fun r h => by cases h; exact (V281.wf _ ((((((((le7.trans le25).trans le33).trans le41).trans le49).trans le65).trans le269).trans le282).sub _ hf341))))))) ?_
         refine U.p Z Z (.inr ⟨_, _, _, Z, Z, ((L 4 Z Z).trans (cB g331))⟩) (S.move Z (L 18 Z Z)) ?_
         refine U.p Z Z (.inr ⟨_, _, _, Z, Z, ((L 5 Z Z).trans (cB g331))⟩) (S.move Z (L 25 Z Z)) ?_
         obtain ⟨x344, hx345, h346⟩ := bindS h335
         obtain ⟨b347, o348, c349, cs350, hv351, hf352, hr353, hc354⟩ := f4.at hx345
         obtain rfl : cs350 = [.int .i64 x344] := hr353
         refine U.p Z Z (.inr ⟨_, _, _, Z, Z, ((L 6 Z Z).trans (cB g331))⟩) (S.index Z ((L 1 Z Z).trans hv351) (L 0 Z Z) Try.underlying27 ti3 (ix_ge hx345) (ix_lt hx345)) ?_
         refine U.k Z Z (.inr ⟨_, _, _, Z, Z, ((L 7 Z Z).trans (cB g331))⟩) (S.load Z (L 0 Z Z) Try.underlying3 Z ((((((((le7.trans le25).trans le33).trans le41).trans le49).trans le65).trans le269).trans le282).cell hf352 (hc354 0 _ Z))) (fun _ => (okH.cons trivial (okH.cons trivial (okH.cons trivial (okH.nil (fun r h => by cases h; exact (V281.wf _ ((((((((le7.trans le25).trans le33).trans le41).trans le49).trans le65).trans le269).trans le282).sub _ hf352)))))))) ?_
         refine U.p Z Z (.inr ⟨_, _, _, Z, Z, ((L 8 Z Z).trans (cB g331))⟩) (S.eqlI Z (L 4 Z Z) (L 0 Z Z)) ?_
         refine U.p Z Z (.inl Z) (S.pickT Z ((L 9 Z Z).trans (cB g331)) (L 0 Z Z)) ?_
         refine U.p Z Z (.inl Z) (S.move Z (L 0 Z Z)) ?_
         refine bcase (b := decide (x333 = x344)) (fun g355 => ?_) (fun g355 => ?_)
         ·have h356 := ifT g355 h346
          refine U.p Z Z (.inr ⟨_, _, _, Z, Z, ((L 0 Z Z).trans (cB g355))⟩) (S.move Z (L 27 Z Z)) ?_
          refine U.p Z Z (.inr ⟨_, _, _, Z, Z, ((L 1 Z Z).trans (cB g355))⟩) (S.move Z (L 31 Z Z)) ?_
          obtain ⟨x357, hx358, h359⟩ := bindS h356
          obtain ⟨b360, o361, n362, c363, hv364⟩ := ow283.ospt (k := 1) Z hx358
          obtain ⟨_, hv365, _⟩ := ow283.osel (k := 1) Z hv364 hx358
          refine U.p Z Z (.inr ⟨_, _, _, Z, Z, ((L 2 Z Z).trans (cB g355))⟩) (S.index Z ((L 1 Z Z).trans hv365) (L 0 Z Z) Try.underlying27 ti3 (ix_ge hx358) (ix_lt hx358)) ?_
          obtain ⟨cs366, hv367, hlt368, hr369, hc370⟩ := ow283.osel (k := 1) Z hv364 hx358
          obtain rfl : cs366 = [.int .i64 x357] := hr369
          refine U.k Z Z (.inr ⟨_, _, _, Z, Z, ((L 3 Z Z).trans (cB g355))⟩) (S.load Z (L 0 Z Z) Try.underlying3 Z (hc370 0 _ Z)) (fun _ => (okH.cons trivial (okH.cons trivial (okH.cons trivial (okH.cons trivial (okH.nil (fun r h => by cases h; exact hlt368))))))) ?_
          refine U.p Z Z (.inr ⟨_, _, _, Z, Z, ((L 4 Z Z).trans (cB g355))⟩) (S.move Z (L 32 Z Z)) ?_
          refine U.p Z Z (.inr ⟨_, _, _, Z, Z, ((L 5 Z Z).trans (cB g355))⟩) (S.move Z (L 36 Z Z)) ?_
          obtain ⟨x371, hx372, h373⟩ := bindS h359
          obtain ⟨b374, o375, n376, c377, hv378⟩ := ow283.ospt (k := 2) Z hx372
          obtain ⟨_, hv379, _⟩ := ow283.osel (k := 2) Z hv378 hx372
          refine U.p Z Z (.inr ⟨_, _, _, Z, Z, ((L 6 Z Z).trans (cB g355))⟩) (S.index Z ((L 1 Z Z).trans hv379) (L 0 Z Z) Try.underlying27 ti3 (ix_ge hx372) (ix_lt hx372)) ?_
          obtain ⟨cs380, hv381, hlt382, hr383, hc384⟩ := ow283.osel (k := 2) Z hv378 hx372
          obtain rfl : cs380 = [.int .i64 x371] := hr383
          refine U.k Z Z (.inr ⟨_, _, _, Z, Z, ((L 7 Z Z).trans (cB g355))⟩) (S.load Z (L 0 Z Z) Try.underlying3 Z (hc384 0 _ Z)) (fun _ => (okH.cons trivial (okH.cons trivial (okH.cons trivial (okH.cons trivial (okH.cons trivial (okH.nil (fun r h => by cases h; exact hlt382)))))))) ?_
          refine U.p Z Z (.inr ⟨_, _, _, Z, Z, ((L 8 Z Z).trans (cB g355))⟩) (S.leq Z (L 4 Z Z) (L 0 Z Z)) ?_
          refine U.p Z Z (.inl Z) (S.pickT Z ((L 9 Z Z).trans (cB g355)) (L 0 Z Z)) ?_
          refine U.p Z Z (.inl Z) (S.move Z (L 0 Z Z)) ?_
          refine bcase (b := decide (x357 ≤ x371)) (fun g385 => ?_) (fun g385 => ?_)
          ·have h386 := ifT g385 h373
           refine U.p Z Z (.inr ⟨_, _, _, Z, Z, ((L 0 Z Z).trans (cB g385))⟩) (S.move Z (L 38 Z Z)) ?_
           refine U.p Z Z (.inr ⟨_, _, _, Z, Z, ((L 1 Z Z).trans (cB g385))⟩) (S.move Z (L 43 Z Z)) ?_
           obtain ⟨x387, hx388, h389⟩ := bindS h386
           obtain ⟨_, hv390, _⟩ := ow283.osel (k := 1) Z hv364 hx388
           refine U.p Z Z (.inr ⟨_, _, _, Z, Z, ((L 2 Z Z).trans (cB g385))⟩) (S.index Z ((L 1 Z Z).trans hv390) (L 0 Z Z) Try.underlying27 ti3 (ix_ge hx388) (ix_lt hx388)) ?_
           obtain ⟨cs391, hv392, hlt393, hr394, hc395⟩ := ow283.osel (k := 1) Z hv364 hx388
           obtain rfl : cs391 = [.int .i64 x387] := hr394
           refine U.k Z Z (.inr ⟨_, _, _, Z, Z, ((L 3 Z Z).trans (cB g385))⟩) (S.load Z (L 0 Z Z) Try.underlying3 Z (hc395 0 _ Z)) (fun _ => (okH.cons trivial (okH.cons trivial (okH.cons trivial (okH.cons trivial (okH.cons trivial (okH.cons trivial (okH.nil (fun r h => by cases h; exact hlt393))))))))) ?_
           refine U.p Z Z (.inr ⟨_, _, _, Z, Z, ((L 4 Z Z).trans (cB g385))⟩) (S.move Z (L 43 Z Z)) ?_
           refine U.p Z Z (.inr ⟨_, _, _, Z, Z, ((L 5 Z Z).trans (cB g385))⟩) (S.move Z (L 46 Z Z)) ?_
           obtain ⟨x396, hx397, h398⟩ := bindS h389
           obtain ⟨_, hv399, _⟩ := ow283.osel (k := 2) Z hv378 hx397
           refine U.p Z Z (.inr ⟨_, _, _, Z, Z, ((L 6 Z Z).trans (cB g385))⟩) (S.index Z ((L 1 Z Z).trans hv399) (L 0 Z Z) Try.underlying27 ti3 (ix_ge hx397) (ix_lt hx397)) ?_
           obtain ⟨cs400, hv401, hlt402, hr403, hc404⟩ := ow283.osel (k := 2) Z hv378 hx397
           obtain rfl : cs400 = [.int .i64 x396] := hr403
           refine U.k Z Z (.inr ⟨_, _, _, Z, Z, ((L 7 Z Z).trans (cB g385))⟩) (S.load Z (L 0 Z Z) Try.underlying3 Z (hc404 0 _ Z)) (fun _ => (okH.cons trivial (okH.cons trivial (okH.cons trivial (okH.cons trivial (okH.cons trivial (okH.cons trivial (okH.cons trivial (okH.nil (fun r h => by cases h; exact hlt402)))))))))) ?_
           refine U.p Z Z (.inr ⟨_, _, _, Z, Z, ((L 8 Z Z).trans (cB g385))⟩) (S.leq Z (L 4 Z Z) (L 0 Z Z)) ?_
           refine U.p Z Z (.inl Z) (S.pickT Z ((L 9 Z Z).trans (cB g385)) (L 0 Z Z)) ?_
           refine U.done (nr Z) ?_
           refine sqN ?_
           exact ⟨_, V281, Z, ⟨decide (x387 ≤ x396), Z, (.refl _), ow283, h398⟩, (allCons (L 46 Z Z) (allCons (L 47 Z Z) (allCons (L 48 Z Z) (allCons (L 49 Z Z) (allCons (L 50 Z Z) (allCons (L 51 Z Z) (allCons (L 52 Z Z) (allCons (L 53 Z Z) (allCons (L 54 Z Z) (allCons (L 0 Z Z) allNil))))))))))⟩
          ·have h405 := ifF g385 h373
           refine U.x Z Z Z Z ((L 0 Z Z).trans (cB g385)) (by decide) ?_
           refine U.x Z Z Z Z ((L 1 Z Z).trans (cB g385)) (by decide) ?_
           refine U.x Z Z Z Z ((L 2 Z Z).trans (cB g385)) (by decide) ?_
           refine U.x Z Z Z Z ((L 3 Z Z).trans (cB g385)) (by decide) ?_
           refine U.x Z Z Z Z ((L 4 Z Z).trans (cB g385)) (by decide) ?_
           refine U.x Z Z Z Z ((L 5 Z Z).trans (cB g385)) (by decide) ?_
           refine U.x Z Z Z Z ((L 6 Z Z).trans (cB g385)) (by decide) ?_
           refine U.x Z Z Z Z ((L 7 Z Z).trans (cB g385)) (by decide) ?_
           refine U.x Z Z Z Z ((L 8 Z Z).trans (cB g385)) (by decide) ?_
           refine U.p Z Z (.inl Z) (S.pickF Z ((L 9 Z Z).trans (cB g385)) K) ?_
           refine U.done (nr Z) ?_
           refine sqN ?_
           exact ⟨_, V281, Z, ⟨false, Z, (.refl _), ow283, h405⟩, (allCons (L 46 Z Z) (allCons (L 47 Z Z) (allCons (L 48 Z Z) (allCons (L 49 Z Z) (allCons (L 50 Z Z) (allCons (L 51 Z Z) (allCons (L 52 Z Z) (allCons (L 53 Z Z) (allCons (L 54 Z Z) (allCons (L 0 Z Z) allNil))))))))))⟩
         ·have h406 := ifF g355 h346
          refine U.x Z Z Z Z ((L 0 Z Z).trans (cB g355)) (by decide) ?_
          refine U.x Z Z Z Z ((L 1 Z Z).trans (cB g355)) (by decide) ?_
          refine U.x Z Z Z Z ((L 2 Z Z).trans (cB g355)) (by decide) ?_
          refine U.x Z Z Z Z ((L 3 Z Z).trans (cB g355)) (by decide) ?_
          refine U.x Z Z Z Z ((L 4 Z Z).trans (cB g355)) (by decide) ?_
          refine U.x Z Z Z Z ((L 5 Z Z).trans (cB g355)) (by decide) ?_
          refine U.x Z Z Z Z ((L 6 Z Z).trans (cB g355)) (by decide) ?_
          refine U.x Z Z Z Z ((L 7 Z Z).trans (cB g355)) (by decide) ?_
          refine U.x Z Z Z Z ((L 8 Z Z).trans (cB g355)) (by decide) ?_
          refine U.p Z Z (.inl Z) (S.pickF Z ((L 9 Z Z).trans (cB g355)) K) ?_
          refine U.p Z Z (.inl Z) (S.move Z (L 0 Z Z)) ?_
          refine U.x Z Z Z Z (L 0 Z Z) (by decide) ?_
          refine U.x Z Z Z Z (L 1 Z Z) (by decide) ?_
          refine U.x Z Z Z Z (L 2 Z Z) (by decide) ?_
          refine U.x Z Z Z Z (L 3 Z Z) (by decide) ?_
          refine U.x Z Z Z Z (L 4 Z Z) (by decide) ?_
          refine U.x Z Z Z Z (L 5 Z Z) (by decide) ?_
          refine U.x Z Z Z Z (L 6 Z Z) (by decide) ?_
          refine U.x Z Z Z Z (L 7 Z Z) (by decide) ?_
          refine U.x Z Z Z Z (L 8 Z Z) (by decide) ?_
          refine U.p Z Z (.inl Z) (S.pickF Z (L 9 Z Z) K) ?_
          refine U.done (nr Z) ?_
          refine sqN ?_
          exact ⟨_, V281, Z, ⟨false, Z, (.refl _), ow283, h406⟩, (allCons (L 46 Z Z) (allCons (L 47 Z Z) (allCons (L 48 Z Z) (allCons (L 49 Z Z) (allCons (L 50 Z Z) (allCons (L 51 Z Z) (allCons (L 52 Z Z) (allCons (L 53 Z Z) (allCons (L 54 Z Z) (allCons (L 0 Z Z) allNil))))))))))⟩
        ·have h407 := ifF g331 h324
         refine U.x Z Z Z Z ((L 0 Z Z).trans (cB g331)) (by decide) ?_
         refine U.x Z Z Z Z ((L 1 Z Z).trans (cB g331)) (by decide) ?_
         refine U.x Z Z Z Z ((L 2 Z Z).trans (cB g331)) (by decide) ?_
         refine U.x Z Z Z Z ((L 3 Z Z).trans (cB g331)) (by decide) ?_
         refine U.x Z Z Z Z ((L 4 Z Z).trans (cB g331)) (by decide) ?_
         refine U.x Z Z Z Z ((L 5 Z Z).trans (cB g331)) (by decide) ?_
         refine U.x Z Z Z Z ((L 6 Z Z).trans (cB g331)) (by decide) ?_
         refine U.x Z Z Z Z ((L 7 Z Z).trans (cB g331)) (by decide) ?_
         refine U.x Z Z Z Z ((L 8 Z Z).trans (cB g331)) (by decide) ?_
         refine U.p Z Z (.inl Z) (S.pickF Z ((L 9 Z Z).trans (cB g331)) K) ?_
         refine U.p Z Z (.inl Z) (S.move Z (L 0 Z Z)) ?_
         refine U.x Z Z Z Z (L 0 Z Z) (by decide) ?_
         refine U.x Z Z Z Z (L 1 Z Z) (by decide) ?_
         refine U.x Z Z Z Z (L 2 Z Z) (by decide) ?_
         refine U.x Z Z Z Z (L 3 Z Z) (by decide) ?_
         refine U.x Z Z Z Z (L 4 Z Z) (by decide) ?_
         refine U.x Z Z Z Z (L 5 Z Z) (by decide) ?_
         refine U.x Z Z Z Z (L 6 Z Z) (by decide) ?_
         refine U.x Z Z Z Z (L 7 Z Z) (by decide) ?_
         refine U.x Z Z Z Z (L 8 Z Z) (by decide) ?_
         refine U.p Z Z (.inl Z) (S.pickF Z (L 9 Z Z) K) ?_
         refine U.p Z Z (.inl Z) (S.move Z (L 0 Z Z)) ?_
         refine U.x Z Z Z Z (L 0 Z Z) (by decide) ?_
         refine U.x Z Z Z Z (L 1 Z Z) (by decide) ?_
         refine U.x Z Z Z Z (L 2 Z Z) (by decide) ?_
         refine U.x Z Z Z Z (L 3 Z Z) (by decide) ?_
         refine U.x Z Z Z Z (L 4 Z Z) (by decide) ?_
         refine U.x Z Z Z Z (L 5 Z Z) (by decide) ?_
         refine U.x Z Z Z Z (L 6 Z Z) (by decide) ?_
         refine U.x Z Z Z Z (L 7 Z Z) (by decide) ?_
         refine U.x Z Z Z Z (L 8 Z Z) (by decide) ?_
         refine U.p Z Z (.inl Z) (S.pickF Z (L 9 Z Z) K) ?_
         refine U.done (nr Z) ?_
         refine sqN ?_
         exact ⟨_, V281, Z, ⟨false, Z, (.refl _), ow283, h407⟩, (allCons (L 46 Z Z) (allCons (L 47 Z Z) (allCons (L 48 Z Z) (allCons (L 49 Z Z) (allCons (L 50 Z Z) (allCons (L 51 Z Z) (allCons (L 52 Z Z) (allCons (L 53 Z Z) (allCons (L 54 Z Z) (allCons (L 0 Z Z) allNil))))))))))⟩
       ·have h408 := ifF g320 h308
        refine U.x Z Z Z Z ((L 0 Z Z).trans (cB g320)) (by decide) ?_
        refine U.x Z Z Z Z ((L 1 Z Z).trans (cB g320)) (by decide) ?_
        refine U.x Z Z Z Z ((L 2 Z Z).trans (cB g320)) (by decide) ?_
        refine U.x Z Z Z Z ((L 3 Z Z).trans (cB g320)) (by decide) ?_
        refine U.p Z Z (.inl Z) (S.pickF Z ((L 4 Z Z).trans (cB g320)) K) ?_
        refine U.p Z Z (.inl Z) (S.move Z (L 0 Z Z)) ?_
        refine U.x Z Z Z Z (L 0 Z Z) (by decide) ?_
        refine U.x Z Z Z Z (L 1 Z Z) (by decide) ?_
        refine U.x Z Z Z Z (L 2 Z Z) (by decide) ?_
        refine U.x Z Z Z Z (L 3 Z Z) (by decide) ?_
        refine U.x Z Z Z Z (L 4 Z Z) (by decide) ?_
        refine U.x Z Z Z Z (L 5 Z Z) (by decide) ?_
        refine U.x Z Z Z Z (L 6 Z Z) (by decide) ?_
        refine U.x Z Z Z Z (L 7 Z Z) (by decide) ?_
        refine U.x Z Z Z Z (L 8 Z Z) (by decide) ?_
        refine U.p Z Z (.inl Z) (S.pickF Z (L 9 Z Z) K) ?_
        refine U.p Z Z (.inl Z) (S.move Z (L 0 Z Z)) ?_
        refine U.x Z Z Z Z (L 0 Z Z) (by decide) ?_
        refine U.x Z Z Z Z (L 1 Z Z) (by decide) ?_
        refine U.x Z Z Z Z (L 2 Z Z) (by decide) ?_
        refine U.x Z Z Z Z (L 3 Z Z) (by decide) ?_
        refine U.x Z Z Z Z (L 4 Z Z) (by decide) ?_
        refine U.x Z Z Z Z (L 5 Z Z) (by decide) ?_
        refine U.x Z Z Z Z (L 6 Z Z) (by decide) ?_
        refine U.x Z Z Z Z (L 7 Z Z) (by decide) ?_
        refine U.x Z Z Z Z (L 8 Z Z) (by decide) ?_
        refine U.p Z Z (.inl Z) (S.pickF Z (L 9 Z Z) K) ?_
        refine U.p Z Z (.inl Z) (S.move Z (L 0 Z Z)) ?_
        refine U.x Z Z Z Z (L 0 Z Z) (by decide) ?_
        refine U.x Z Z Z Z (L 1 Z Z) (by decide) ?_
        refine U.x Z Z Z Z (L 2 Z Z) (by decide) ?_
        refine U.x Z Z Z Z (L 3 Z Z) (by decide) ?_
        refine U.x Z Z Z Z (L 4 Z Z) (by decide) ?_
        refine U.x Z Z Z Z (L 5 Z Z) (by decide) ?_
        refine U.x Z Z Z Z (L 6 Z Z) (by decide) ?_
        refine U.x Z Z Z Z (L 7 Z Z) (by decide) ?_
        refine U.x Z Z Z Z (L 8 Z Z) (by decide) ?_
        refine U.p Z Z (.inl Z) (S.pickF Z (L 9 Z Z) K) ?_
        refine U.done (nr Z) ?_
        refine sqN ?_
        exact ⟨_, V281, Z, ⟨false, Z, (.refl _), ow283, h408⟩, (allCons (L 46 Z Z) (allCons (L 47 Z Z) (allCons (L 48 Z Z) (allCons (L 49 Z Z) (allCons (L 50 Z Z) (allCons (L 51 Z Z) (allCons (L 52 Z Z) (allCons (L 53 Z Z) (allCons (L 54 Z Z) (allCons (L 0 Z Z) allNil))))))))))⟩
     ·have h409 := ifF c289 h288
      refine WP.exit ?_
      refine sqE (sqE (blkE (blkN (sqN ?_))))
      have h410 := exitS h409 e286
      refine WP.ureg Z ?_
      refine U.p Z Z (.inl Z) (S.add Z (L 11 Z Z) K) ?_
      refine U.p Z Z (.inl Z) (S.move Z (L 0 Z Z)) ?_
      refine U.done (nr Z) ?_
      refine sqN ?_
      exact ⟨_, V281, Z, ⟨m271, Nat.lt_succ_self _, w64 (x264 + 1), Z, (le269.trans le282), ow283, backS h410 e273⟩, (allCons (L 5 Z Z) (allCons (L 6 Z Z) (allCons (L 7 Z Z) (allCons (L 8 Z Z) (allCons (L 9 Z Z) (allCons (L 12 Z Z) (allCons (L 0 Z Z) allNil)))))))⟩
    ·have h411 := ifF c276 h275
     refine WP.exit ?_
     refine sqE (sqE (blkE (sqN ?_)))
     have h412 := exitS h411 e273
     refine WP.usreg Z ?_
     refine U.p Z Z (.inl Z) (S.assign Z K) ?_
     refine U.done (nr Z) ?_
     refine WP.seq ?_
     refine WP.usreg Z ?_
     refine U.p Z Z (.inl Z) (S.move Z (L 3 Z Z)) ?_
     refine U.p Z Z (.inl Z) (ow270.oslen (k := 0) Z Z (L 0 Z Z) Try.underlying27) ?_
     refine U.p Z Z (.inl Z) (S.move Z K) ?_
     refine U.done (nr Z) ?_
     refine WP.blk ?_
     have ow415 := ow270.drop 1 Z
     have ow416 := ow415.drop 1 Z
     have ow417 := ow416.drop 1 Z
     unfold ref13_Holds_l5 at h412
     obtain ⟨n419, hn418⟩ := loopO_some.1 h412
     refine WP.loopI2 (fun n l V' => ∃ (x413 : Int) (x414 : Int), l = [(19, .int .i64 x413), (161, v23), (162, .int .i64 (xs52.length : Int)), (163, .int .i64 x414)] ∧ V268.le V' ∧ Ow V' (.os (RT.int .i64) v23 xs52 :: Rs) ∧ itO (fun s => ref13_Holds_l5b xs52 s.1 s.2) n (x413, x414) = some r) n419 _ ⟨0, 0, Z, .refl _, ow417, hn418⟩ (allCons (L 3 Z Z) (allCons (L 2 Z Z) (allCons (L 1 Z Z) (allCons (L 0 Z Z) allNil)))) ?_
     rintro _ _ V420 ⟨x413, x414, rfl, le421, ow422, h426⟩
     obtain ⟨m423, q424, rfl, h427, e425⟩ := itS h426
     replace h427 : ref13_Holds_l5b xs52 x413 x414 = some q424 := h427
     unfold ref13_Holds_l5b at h427
     refine WP.usreg Z ?_
     refine U.p Z Z (.inl Z) (S.lss Z (L 3 Z Z) (L 2 Z Z)) ?_
     refine U.done (nr Z) ?_
     refine WP.seq ?_
     refine WP.cond _ (L 0 Z Z) Z (fun c428 => ?_) (fun c428 => ?_)
     ·have h429 := ifT c428 h427
      refine WP.skip ?_
      refine sqN ?_
      refine WP.seq ?_
      refine WP.blk ?_
      refine WP.usreg Z ?_
      obtain ⟨x430, hx431, h432⟩ := bindS h429
      obtain ⟨b433, o434, n435, c436, hv437⟩ := ow422.ospt (k := 0) Z hx431
      obtain ⟨_, hv438, _⟩ := ow422.osel (k := 0) Z hv437 hx431
      refine U.p Z Z (.inl Z) (S.index Z ((L 2 Z Z).trans hv438) (L 4 Z Z) Try.underlying27 ti3 (ix_ge hx431) (ix_lt hx431)) ?_
      obtain ⟨cs439, hv440, hlt441, hr442, hc443⟩ := ow422.osel (k := 0) Z hv437 hx431
      obtain rfl : cs439 = [.int .i64 x430] := hr442
      refine U.k Z Z (.inl Z) (S.load Z (L 0 Z Z) Try.underlying3 Z (hc443 0 _ Z)) nd ?_
      refine U.p Z Z (.inl Z) (S.assign Z (L 0 Z Z)) ?_
      refine U.done (nr Z) ?_
      refine WP.ureg Z ?_
      refine U.p Z Z (.inl Z) (S.move Z (L 4 Z Z)) ?_
      refine U.p Z Z (.inl Z) (S.move Z (L 1 Z Z)) ?_
      refine U.p Z Z (.inl Z) (S.maxI Z (L 1 Z Z) (L 0 Z Z)) ?_
      refine U.p Z Z (.inl Z) (S.assign Z (L 0 Z Z)) ?_
      refine U.done (nr Z) ?_
      refine blkN (sqN ?_)
      refine WP.ureg Z ?_
      refine U.p Z Z (.inl Z) (S.add Z (L 11 Z Z) K) ?_
      refine U.p Z Z (.inl Z) (S.move Z (L 0 Z Z)) ?_
      refine U.done (nr Z) ?_
      refine sqN ?_
      exact ⟨_, V420, Z, ⟨m423, Nat.lt_succ_self _, max x413 x430, w64 (x414 + 1), Z, le421, ow422, backS h432 e425⟩, (allCons (L 2 Z Z) (allCons (L 11 Z Z) (allCons (L 12 Z Z) (allCons (L 0 Z Z) allNil))))⟩
     ·have h444 := ifF c428 h427
      refine WP.exit ?_
      refine sqE (sqE (blkE (sqN ?_)))
      have h445 := exitS h444 e425
      refine WP.usreg Z ?_
      refine U.p Z Z (.inl Z) (S.move Z (L 1 Z Z)) ?_
      refine U.p Z Z (.inl Z) (S.assign Z K) ?_
      refine U.p Z Z (.inl Z) (S.assign Z (L 1 Z Z)) ?_
      refine U.done (nr Z) ?_
      refine WP.ret ?_
      refine fin.slots' (.inr Z) (fsC (L 1 Z Z) (fsC (L 0 Z Z) fsN)) Z ⟨V420, Z, (((((((le7.trans le25).trans le33).trans le41).trans le49).trans le65).trans le269).trans le421), ?_⟩
      have ow446 := ow422.drop 0 Z
      have e447 := Option.some.inj h445
      subst e447
      exact ⟨rfl, ow446⟩
 ·intro kk
  refine bcase (b := decide ((p1.length : Int) ≠ p0.regs)) (fun g448 => ?_) (fun g448 => ?_)
  ·skip
   refine U.x Z Z Z Z ((L 0 Z Z).trans (cB g448)) (by decide) ?_
   refine U.x Z Z Z Z ((L 1 Z Z).trans (cB g448)) (by decide) ?_
   refine U.p Z Z (.inl Z) (S.pickT Z ((L 2 Z Z).trans (cB g448)) K) ?_
   exact kk [(30, .bool true), (29, .tuple #[]), (28, .tuple #[])] _ ⟨.tuple #[], .tuple #[], Z, (by rw [g448, Bool.true_or])⟩
  ·skip
   refine U.p Z Z (.inr ⟨_, _, _, Z, Z, ((L 0 Z Z).trans (cB g448))⟩) (S.move Z (L 11 Z Z)) ?_
   refine U.p Z Z (.inr ⟨_, _, _, Z, Z, ((L 1 Z Z).trans (cB g448))⟩) (S.lss Z (L 0 Z Z) K) ?_
   refine U.p Z Z (.inl Z) (S.pickF Z ((L 2 Z Z).trans (cB g448)) (L 0 Z Z)) ?_
   exact kk [(30, .bool (decide (p2 < 0))), (29, .bool (decide (p2 < 0))), (28, .int .i64 p2)] _ ⟨.bool (decide (p2 < 0)), .int .i64 p2, Z, (by rw [g448, Bool.false_or])⟩
end Go.Vm.G13
