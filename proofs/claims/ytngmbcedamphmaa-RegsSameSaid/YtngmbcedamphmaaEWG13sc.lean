/-
  What the functions compute is what the plain ones say, for all inputs at which those answer.
-/
import Derived.Test.YtngmbcedamphmaaEWG13sb
set_option linter.unusedSimpArgs false
set_option linter.unusedVariables false
namespace Go.Vm.G13s
open Go Go.Proofs
set_option maxHeartbeats 4000000
set_option maxRecDepth 10000
theorem wk_ref08_has (V : Vw) (Rs : List At) (p0 : Int) (ow : Ow V (Rs)) (r : Bool × Bool × Bool × Bool) (h : ref08_has p0 = some r) : ∃ v V', Cl Try.prog 0 24 #[.int .i64 p0] V.H v V'.H ∧ V.le V' ∧ (v = .tuple #[.bool r.1, .bool r.2.1, .bool r.2.2.1, .bool r.2.2.2] ∧ Ow V' (Rs)) := by
 refine Ct.of (Nat.zero_le _) Try.func24 Z (nr Z) ?_
 unfold ref08_has at h
 refine WP.usreg Z ?_
 refine U.p Z Z (.inl Z) (S.assign Z K) ?_
 refine U.p Z Z (.inl Z) (S.assign Z K) ?_
 refine U.p Z Z (.inl Z) (S.assign Z K) ?_
 refine U.p Z Z (.inl Z) (S.assign Z K) ?_
 refine U.done (nr Z) ?_
 refine WP.seq ?_
 refine WP.usreg Z ?_
 refine U.p Z Z (.inl Z) (S.move Z (L 4 Z Z)) ?_
 refine U.done (nr Z) ?_
 refine WP.blk ?_
 refine WP.seqI (fun l V' => ∃ (x1 : Bool), l = [(6, .int .i64 p0), (7, .bool x1)] ∧ V.le V' ∧ Ow V' (Rs) ∧ ref08_has_k1 p0 x1 = some r) ?_ ?_
 ·rintro _ V2 ⟨x1, rfl, le3, ow4, h5⟩
  unfold ref08_has_k1 at h5
  refine WP.cond _ (L 1 Z Z) Z (fun c6 => ?_) (fun c6 => ?_)
  ·have h7 := ifT c6 h5
   refine WP.usreg Z ?_
   refine U.p Z Z (.inl Z) (S.assign Z K) ?_
   refine U.p Z Z (.inl Z) (S.assign Z K) ?_
   refine U.p Z Z (.inl Z) (S.assign Z K) ?_
   refine U.p Z Z (.inl Z) (S.assign Z K) ?_
   refine U.done (nr Z) ?_
   refine WP.ret ?_
   refine blkR (sqR ?_)
   refine fin.slots' (.inr Z) (fsC (L 3 Z Z) (fsC (L 2 Z Z) (fsC (L 1 Z Z) (fsC (L 0 Z Z) fsN)))) Z ⟨V2, Z, le3, ?_⟩
   have e8 := Option.some.inj h7
   subst e8
   exact ⟨rfl, ow4⟩
  ·have h9 := ifF c6 h5
   refine WP.seqI (fun l V' => ∃ (x10 : Bool), l = [(6, .int .i64 p0), (10, .bool x10)] ∧ V2.le V' ∧ Ow V' (Rs) ∧ ref08_has_k2 p0 x10 = some r) ?_ ?_
   ·rintro _ V11 ⟨x10, rfl, le12, ow13, h14⟩
    unfold ref08_has_k2 at h14
    refine WP.cond _ (L 1 Z Z) Z (fun c15 => ?_) (fun c15 => ?_)
    ·have h16 := ifT c15 h14
     refine WP.usreg Z ?_
     refine U.p Z Z (.inl Z) (S.assign Z K) ?_
     refine U.p Z Z (.inl Z) (S.assign Z K) ?_
     refine U.p Z Z (.inl Z) (S.assign Z K) ?_
     refine U.p Z Z (.inl Z) (S.assign Z K) ?_
     refine U.done (nr Z) ?_
     refine WP.ret ?_
     refine blkR (sqR ?_)
     refine fin.slots' (.inr Z) (fsC (L 3 Z Z) (fsC (L 2 Z Z) (fsC (L 1 Z Z) (fsC (L 0 Z Z) fsN)))) Z ⟨V11, Z, (le3.trans le12), ?_⟩
     have e17 := Option.some.inj h16
     subst e17
     exact ⟨rfl, ow13⟩
    ·have h18 := ifF c15 h14
     refine WP.seqI (fun l V' => ∃ (x19 : Bool), l = [(6, .int .i64 p0), (13, .bool x19)] ∧ V11.le V' ∧ Ow V' (Rs) ∧ ref08_has_k3 p0 x19 = some r) ?_ ?_
     ·rintro _ V20 ⟨x19, rfl, le21, ow22, h23⟩
      unfold ref08_has_k3 at h23
      refine WP.cond _ (L 1 Z Z) Z (fun c24 => ?_) (fun c24 => ?_)
      ·have h25 := ifT c24 h23
       refine WP.usreg Z ?_
       refine U.p Z Z (.inl Z) (S.assign Z K) ?_
       refine U.p Z Z (.inl Z) (S.assign Z K) ?_
       refine U.p Z Z (.inl Z) (S.assign Z K) ?_
       refine U.p Z Z (.inl Z) (S.assign Z K) ?_
       refine U.done (nr Z) ?_
       refine WP.ret ?_
       refine blkR (sqR ?_)
       refine fin.slots' (.inr Z) (fsC (L 3 Z Z) (fsC (L 2 Z Z) (fsC (L 1 Z Z) (fsC (L 0 Z Z) fsN)))) Z ⟨V20, Z, ((le3.trans le12).trans le21), ?_⟩
       have e26 := Option.some.inj h25
       subst e26
       exact ⟨rfl, ow22⟩
      ·have h27 := ifF c24 h23
       refine WP.usreg Z ?_
       refine U.p Z Z (.inl Z) (S.eqlI Z (L 0 Z Z) K) ?_
       refine U.p Z Z (.inl Z) (S.assign Z (L 0 Z Z)) ?_
       refine U.done (nr Z) ?_
       refine WP.cond _ (L 0 Z Z) Z (fun c28 => ?_) (fun c28 => ?_)
       ·have h29 := ifT c28 h27
        refine WP.usreg Z ?_
        refine U.p Z Z (.inl Z) (S.assign Z K) ?_
        refine U.p Z Z (.inl Z) (S.assign Z K) ?_
        refine U.p Z Z (.inl Z) (S.assign Z K) ?_
        refine U.p Z Z (.inl Z) (S.assign Z K) ?_
        refine U.done (nr Z) ?_
        refine WP.ret ?_
        refine blkR (sqR ?_)
        refine fin.slots' (.inr Z) (fsC (L 3 Z Z) (fsC (L 2 Z Z) (fsC (L 1 Z Z) (fsC (L 0 Z Z) fsN)))) Z ⟨V20, Z, ((le3.trans le12).trans le21), ?_⟩
        have e30 := Option.some.inj h29
        subst e30
        exact ⟨rfl, ow22⟩
       ·have h31 := ifF c28 h27
        refine WP.seqI (fun l V' => ∃ (x32 : Bool), l = [(6, .int .i64 p0), (22, .bool x32)] ∧ V20.le V' ∧ Ow V' (Rs) ∧ ref08_has_k4 p0 x32 = some r) ?_ ?_
        ·rintro _ V33 ⟨x32, rfl, le34, ow35, h36⟩
         unfold ref08_has_k4 at h36
         refine WP.cond _ (L 1 Z Z) Z (fun c37 => ?_) (fun c37 => ?_)
         ·have h38 := ifT c37 h36
          refine WP.usreg Z ?_
          refine U.p Z Z (.inl Z) (S.assign Z K) ?_
          refine U.p Z Z (.inl Z) (S.assign Z K) ?_
          refine U.p Z Z (.inl Z) (S.assign Z K) ?_
          refine U.p Z Z (.inl Z) (S.assign Z K) ?_
          refine U.done (nr Z) ?_
          refine WP.ret ?_
          refine blkR (sqR ?_)
          refine fin.slots' (.inr Z) (fsC (L 3 Z Z) (fsC (L 2 Z Z) (fsC (L 1 Z Z) (fsC (L 0 Z Z) fsN)))) Z ⟨V33, Z, (((le3.trans le12).trans le21).trans le34), ?_⟩
          have e39 := Option.some.inj h38
          subst e39
          exact ⟨rfl, ow35⟩
         ·have h40 := ifF c37 h36
          refine WP.usreg Z ?_
          refine U.p Z Z (.inl Z) (S.eqlI Z (L 0 Z Z) K) ?_
          refine U.p Z Z (.inl Z) (S.assign Z (L 0 Z Z)) ?_
          refine U.done (nr Z) ?_
          refine WP.cond _ (L 0 Z Z) Z (fun c41 => ?_) (fun c41 => ?_)
          ·have h42 := ifT c41 h40
           refine WP.usreg Z ?_
           refine U.p Z Z (.inl Z) (S.assign Z K) ?_
           refine U.p Z Z (.inl Z) (S.assign Z K) ?_
           refine U.p Z Z (.inl Z) (S.assign Z K) ?_
           refine U.p Z Z (.inl Z) (S.assign Z K) ?_
           refine U.done (nr Z) ?_
           refine WP.ret ?_
           refine blkR (sqR ?_)
           refine fin.slots' (.inr Z) (fsC (L 3 Z Z) (fsC (L 2 Z Z) (fsC (L 1 Z Z) (fsC (L 0 Z Z) fsN)))) Z ⟨V33, Z, (((le3.trans le12).trans le21).trans le34), ?_⟩
           have e43 := Option.some.inj h42
           subst e43
           exact ⟨rfl, ow35⟩
          ·have h44 := ifF c41 h40
           refine WP.usreg Z ?_
           refine U.p Z Z (.inl Z) (S.eqlI Z (L 2 Z Z) K) ?_
           refine U.p Z Z (.inl Z) (S.assign Z (L 0 Z Z)) ?_
           refine U.done (nr Z) ?_
           refine WP.cond _ (L 0 Z Z) Z (fun c45 => ?_) (fun c45 => ?_)
           ·have h46 := ifT c45 h44
            refine WP.usreg Z ?_
            refine U.p Z Z (.inl Z) (S.assign Z K) ?_
            refine U.p Z Z (.inl Z) (S.assign Z K) ?_
            refine U.p Z Z (.inl Z) (S.assign Z K) ?_
            refine U.p Z Z (.inl Z) (S.assign Z K) ?_
            refine U.done (nr Z) ?_
            refine WP.ret ?_
            refine blkR (sqR ?_)
            refine fin.slots' (.inr Z) (fsC (L 3 Z Z) (fsC (L 2 Z Z) (fsC (L 1 Z Z) (fsC (L 0 Z Z) fsN)))) Z ⟨V33, Z, (((le3.trans le12).trans le21).trans le34), ?_⟩
            have e47 := Option.some.inj h46
            subst e47
            exact ⟨rfl, ow35⟩
           ·have h48 := ifF c45 h44
            refine WP.seqI (fun l V' => ∃ (x49 : Bool), l = [(29, .bool x49)] ∧ V33.le V' ∧ Ow V' (Rs) ∧ ref08_has_k5 x49 = some r) ?_ ?_
            ·rintro _ V50 ⟨x49, rfl, le51, ow52, h53⟩
             unfold ref08_has_k5 at h53
             refine WP.cond _ (L 0 Z Z) Z (fun c54 => ?_) (fun c54 => ?_)
             ·have h55 := ifT c54 h53
              refine WP.usreg Z ?_
              refine U.p Z Z (.inl Z) (S.assign Z K) ?_
              refine U.p Z Z (.inl Z) (S.assign Z K) ?_
              refine U.p Z Z (.inl Z) (S.assign Z K) ?_
              refine U.p Z Z (.inl Z) (S.assign Z K) ?_
              refine U.done (nr Z) ?_
              refine WP.ret ?_
              refine blkR (sqR ?_)
              refine fin.slots' (.inr Z) (fsC (L 3 Z Z) (fsC (L 2 Z Z) (fsC (L 1 Z Z) (fsC (L 0 Z Z) fsN)))) Z ⟨V50, Z, ((((le3.trans le12).trans le21).trans le34).trans le51), ?_⟩
              have e56 := Option.some.inj h55
              subst e56
              exact ⟨rfl, ow52⟩
             ·have h57 := ifF c54 h53
              refine WP.skip ?_
              refine blkN (sqN ?_)
              refine WP.usreg Z ?_
              refine U.p Z Z (.inl Z) (S.assign Z K) ?_
              refine U.p Z Z (.inl Z) (S.assign Z K) ?_
              refine U.p Z Z (.inl Z) (S.assign Z K) ?_
              refine U.p Z Z (.inl Z) (S.assign Z K) ?_
              refine U.done (nr Z) ?_
              refine WP.ret ?_
              refine fin.slots' (.inr Z) (fsC (L 3 Z Z) (fsC (L 2 Z Z) (fsC (L 1 Z Z) (fsC (L 0 Z Z) fsN)))) Z ⟨V50, Z, ((((le3.trans le12).trans le21).trans le34).trans le51), ?_⟩
              have e58 := Option.some.inj h57
              subst e58
              exact ⟨rfl, ow52⟩
            ·skip
             refine WP.usreg Z ?_
             refine U.p Z Z (.inl Z) (S.eqlI Z (L 4 Z Z) K) ?_
             refine U.p Z Z (.inl Z) (S.assign Z (L 0 Z Z)) ?_
             refine U.done (nr Z) ?_
             refine WP.cond _ (L 0 Z Z) Z (fun c59 => ?_) (fun c59 => ?_)
             ·have h60 := ifT c59 h48
              refine WP.skip ?_
              refine sqN ?_
              exact ⟨_, V33, Z, ⟨true, Z, (.refl _), ow35, h60⟩, (allCons ((L 0 Z Z).trans (cB c59)) allNil)⟩
             ·have h61 := ifF c59 h48
              refine WP.usreg Z ?_
              refine U.p Z Z (.inl Z) (S.eqlI Z (L 6 Z Z) K) ?_
              refine U.p Z Z (.inl Z) (S.assign Z (L 0 Z Z)) ?_
              refine U.done (nr Z) ?_
              refine WP.cond _ (L 0 Z Z) Z (fun c62 => ?_) (fun c62 => ?_)
              ·have h63 := ifT c62 h61
               refine WP.skip ?_
               refine sqN ?_
               exact ⟨_, V33, Z, ⟨true, Z, (.refl _), ow35, h63⟩, (allCons ((L 0 Z Z).trans (cB c62)) allNil)⟩
              ·have h64 := ifF c62 h61
               refine WP.usreg Z ?_
               refine U.p Z Z (.inl Z) (S.eqlI Z (L 8 Z Z) K) ?_
               refine U.p Z Z (.inl Z) (S.assign Z (L 0 Z Z)) ?_
               refine U.done (nr Z) ?_
               refine WP.cond _ (L 0 Z Z) Z (fun c65 => ?_) (fun c65 => ?_)
               ·have h66 := ifT c65 h64
                refine WP.skip ?_
                refine sqN ?_
                exact ⟨_, V33, Z, ⟨true, Z, (.refl _), ow35, h66⟩, (allCons ((L 0 Z Z).trans (cB c65)) allNil)⟩
               ·have h67 := ifF c65 h64
                refine WP.ureg Z ?_
                refine U.p Z Z (.inl Z) (S.eqlI Z (L 10 Z Z) K) ?_
                refine U.p Z Z (.inl Z) (S.assign Z (L 0 Z Z)) ?_
                refine U.done (nr Z) ?_
                refine sqN ?_
                exact ⟨_, V33, Z, ⟨decide (p0 = 20), Z, (.refl _), ow35, h67⟩, (allCons (L 0 Z Z) allNil)⟩
        ·skip
         refine WP.usreg Z ?_
         refine U.p Z Z (.inl Z) (S.eqlI Z (L 2 Z Z) K) ?_
         refine U.p Z Z (.inl Z) (S.assign Z (L 0 Z Z)) ?_
         refine U.done (nr Z) ?_
         refine WP.cond _ (L 0 Z Z) Z (fun c68 => ?_) (fun c68 => ?_)
         ·have h69 := ifT c68 h31
          refine WP.skip ?_
          refine sqN ?_
          exact ⟨_, V20, Z, ⟨true, Z, (.refl _), ow22, h69⟩, (allCons (L 4 Z Z) (allCons ((L 0 Z Z).trans (cB c68)) allNil))⟩
         ·have h70 := ifF c68 h31
          refine WP.ureg Z ?_
          refine U.p Z Z (.inl Z) (S.eqlI Z (L 4 Z Z) K) ?_
          refine U.p Z Z (.inl Z) (S.assign Z (L 0 Z Z)) ?_
          refine U.done (nr Z) ?_
          refine sqN ?_
          exact ⟨_, V20, Z, ⟨decide (p0 = 12), Z, (.refl _), ow22, h70⟩, (allCons (L 6 Z Z) (allCons (L 0 Z Z) allNil))⟩
     ·skip
      refine WP.usreg Z ?_
      refine U.p Z Z (.inl Z) (S.eqlI Z (L 0 Z Z) K) ?_
      refine U.p Z Z (.inl Z) (S.assign Z (L 0 Z Z)) ?_
      refine U.done (nr Z) ?_
      refine WP.cond _ (L 0 Z Z) Z (fun c71 => ?_) (fun c71 => ?_)
      ·have h72 := ifT c71 h18
       refine WP.skip ?_
       refine sqN ?_
       exact ⟨_, V11, Z, ⟨true, Z, (.refl _), ow13, h72⟩, (allCons (L 2 Z Z) (allCons ((L 0 Z Z).trans (cB c71)) allNil))⟩
      ·have h73 := ifF c71 h18
       refine WP.usreg Z ?_
       refine U.p Z Z (.inl Z) (S.eqlI Z (L 2 Z Z) K) ?_
       refine U.p Z Z (.inl Z) (S.assign Z (L 0 Z Z)) ?_
       refine U.done (nr Z) ?_
       refine WP.cond _ (L 0 Z Z) Z (fun c74 => ?_) (fun c74 => ?_)
       ·have h75 := ifT c74 h73
        refine WP.skip ?_
        refine sqN ?_
        exact ⟨_, V11, Z, ⟨true, Z, (.refl _), ow13, h75⟩, (allCons (L 4 Z Z) (allCons ((L 0 Z Z).trans (cB c74)) allNil))⟩
       ·have h76 := ifF c74 h73
        refine WP.usreg Z ?_
        refine U.p Z Z (.inl Z) (S.eqlI Z (L 4 Z Z) K) ?_
        refine U.p Z Z (.inl Z) (S.assign Z (L 0 Z Z)) ?_
        refine U.done (nr Z) ?_
        refine WP.cond _ (L 0 Z Z) Z (fun c77 => ?_) (fun c77 => ?_)
        ·have h78 := ifT c77 h76
         refine WP.skip ?_
         refine sqN ?_
         exact ⟨_, V11, Z, ⟨true, Z, (.refl _), ow13, h78⟩, (allCons (L 6 Z Z) (allCons ((L 0 Z Z).trans (cB c77)) allNil))⟩
        ·have h79 := ifF c77 h76
         refine WP.usreg Z ?_
         refine U.p Z Z (.inl Z) (S.eqlI Z (L 6 Z Z) K) ?_
         refine U.p Z Z (.inl Z) (S.assign Z (L 0 Z Z)) ?_
         refine U.done (nr Z) ?_
         refine WP.cond _ (L 0 Z Z) Z (fun c80 => ?_) (fun c80 => ?_)
         ·have h81 := ifT c80 h79
          refine WP.skip ?_
          refine sqN ?_
          exact ⟨_, V11, Z, ⟨true, Z, (.refl _), ow13, h81⟩, (allCons (L 8 Z Z) (allCons ((L 0 Z Z).trans (cB c80)) allNil))⟩
         ·have h82 := ifF c80 h79
          refine WP.usreg Z ?_
          refine U.p Z Z (.inl Z) (S.eqlI Z (L 8 Z Z) K) ?_
          refine U.p Z Z (.inl Z) (S.assign Z (L 0 Z Z)) ?_
          refine U.done (nr Z) ?_
          refine WP.cond _ (L 0 Z Z) Z (fun c83 => ?_) (fun c83 => ?_)
          ·have h84 := ifT c83 h82
           refine WP.skip ?_
           refine sqN ?_
           exact ⟨_, V11, Z, ⟨true, Z, (.refl _), ow13, h84⟩, (allCons (L 10 Z Z) (allCons ((L 0 Z Z).trans (cB c83)) allNil))⟩
          ·have h85 := ifF c83 h82
           refine WP.ureg Z ?_
           refine U.p Z Z (.inl Z) (S.eqlI Z (L 10 Z Z) K) ?_
           refine U.p Z Z (.inl Z) (S.assign Z (L 0 Z Z)) ?_
           refine U.done (nr Z) ?_
           refine sqN ?_
           exact ⟨_, V11, Z, ⟨decide (p0 = 8), Z, (.refl _), ow13, h85⟩, (allCons (L 12 Z Z) (allCons (L 0 Z Z) allNil))⟩
   ·skip
    refine WP.usreg Z ?_
    refine U.p Z Z (.inl Z) (S.eqlI Z (L 0 Z Z) K) ?_
    refine U.p Z Z (.inl Z) (S.assign Z (L 0 Z Z)) ?_
    refine U.done (nr Z) ?_
    refine WP.cond _ (L 0 Z Z) Z (fun c86 => ?_) (fun c86 => ?_)
    ·have h87 := ifT c86 h9
     refine WP.skip ?_
     refine sqN ?_
     exact ⟨_, V2, Z, ⟨true, Z, (.refl _), ow4, h87⟩, (allCons (L 2 Z Z) (allCons ((L 0 Z Z).trans (cB c86)) allNil))⟩
    ·have h88 := ifF c86 h9
     refine WP.ureg Z ?_
     refine U.p Z Z (.inl Z) (S.eqlI Z (L 2 Z Z) K) ?_
     refine U.p Z Z (.inl Z) (S.assign Z (L 0 Z Z)) ?_
     refine U.done (nr Z) ?_
     refine sqN ?_
     exact ⟨_, V2, Z, ⟨decide (p0 = 9), Z, (.refl _), ow4, h88⟩, (allCons (L 4 Z Z) (allCons (L 0 Z Z) allNil))⟩
 ·skip
  refine WP.usreg Z ?_
  refine U.p Z Z (.inl Z) (S.eqlI Z (L 0 Z Z) K) ?_
  refine U.p Z Z (.inl Z) (S.assign Z (L 0 Z Z)) ?_
  refine U.done (nr Z) ?_
  refine WP.cond _ (L 0 Z Z) Z (fun c89 => ?_) (fun c89 => ?_)
  ·have h90 := ifT c89 h
   refine WP.skip ?_
   refine sqN ?_
   exact ⟨_, V, Z, ⟨true, Z, (.refl _), ow, h90⟩, (allCons (L 2 Z Z) (allCons ((L 0 Z Z).trans (cB c89)) allNil))⟩
  ·have h91 := ifF c89 h
   refine WP.ureg Z ?_
   refine U.p Z Z (.inl Z) (S.eqlI Z (L 2 Z Z) K) ?_
   refine U.p Z Z (.inl Z) (S.assign Z (L 0 Z Z)) ?_
   refine U.done (nr Z) ?_
   refine sqN ?_
   exact ⟨_, V, Z, ⟨decide (p0 = 14), Z, (.refl _), ow, h91⟩, (allCons (L 4 Z Z) (allCons (L 0 Z Z) allNil))⟩
theorem wk_ref08_register (V : Vw) (Rs : List At) (p0 : Bool) (p1 : Bool) (p2 : Int) (p3 : Int) (ow : Ow V (Rs)) (r : Bool) (h : ref08_register p0 p1 p2 p3 = some r) : ∃ v V', Cl Try.prog 0 25 #[.bool p0, .bool p1, .int .i64 p2, .int .i64 p3] V.H v V'.H ∧ V.le V' ∧ (v = .bool r ∧ Ow V' (Rs)) := by
 refine Ct.of (Nat.zero_le _) Try.func25 Z (nr Z) ?_
 unfold ref08_register at h
 refine WP.usreg Z ?_
 refine U.p Z Z (.inl Z) (S.assign Z K) ?_
 refine U.done (nr Z) ?_
 refine WP.seq ?_
 refine WP.usreg Z ?_
 refine U.p Z Z (.inl Z) (S.move Z (L 1 Z Z)) ?_
 refine U.p Z Z (.inl Z) (S.not Z (L 0 Z Z)) ?_
 refine U.done (nr Z) ?_
 refine WP.cond _ (L 0 Z Z) Z (fun c1 => ?_) (fun c1 => ?_)
 ·have h2 := ifT c1 h
  have k3 : p0 = false := nT c1
  refine WP.usreg Z ?_
  refine U.p Z Z (.inl Z) (S.move Z (L 5 Z Z)) ?_
  refine U.p Z Z (.inl Z) (S.eqlI Z (L 0 Z Z) K) ?_
  refine U.p Z Z (.inl Z) (S.assign Z (L 0 Z Z)) ?_
  refine U.done (nr Z) ?_
  refine WP.ret ?_
  refine sqR ?_
  refine fin.slot (.inr Z) Z (L 0 Z Z) ⟨V, Z, (.refl _), ?_⟩
  have e4 := Option.some.inj h2
  subst e4
  exact ⟨rfl, ow⟩
 ·have h5 := ifF c1 h
  have k6 : p0 = true := nF c1
  refine WP.skip ?_
  refine sqN ?_
  refine WP.usreg Z ?_
  refine U.p Z Z (.inl Z) (S.move Z (L 5 Z Z)) ?_
  refine U.p Z Z (.inl Z) (S.geq Z (L 0 Z Z) K) ?_
  refine U.p Z Z (.inl Z) (S.move Z (L 0 Z Z)) ?_
  refine U.joinX 7 (fun e H => ∃ (u7 u8 u9 : Value), H = V.H ∧ e = [(19, .bool ((decide (0 ≤ p2)) && (decide (p2 < p3)))), (18, u7), (17, u8), (16, u9)]) ?_ ?_
  ·rintro _ _ ⟨u7, u8, u9, rfl, rfl⟩
   refine U.p Z Z (.inl Z) (S.move Z (L 0 Z Z)) ?_
   refine U.joinX 14 (fun e H => ∃ (u13 u14 u15 u16 u17 : Value), H = V.H ∧ e = [(26, .bool (((decide (0 ≤ p2)) && (decide (p2 < p3))) || (p1 && (decide (p2 = (-1)))))), (25, u13), (24, u14), (23, u15), (22, u16), (21, u17)]) ?_ ?_
   ·rintro _ _ ⟨u13, u14, u15, u16, u17, rfl, rfl⟩
    refine U.p Z Z (.inl Z) (S.assign Z (L 0 Z Z)) ?_
    refine U.done (nr Z) ?_
    refine WP.ret ?_
    refine fin.slot (.inr Z) Z (L 0 Z Z) ⟨V, Z, (.refl _), ?_⟩
    have e21 := Option.some.inj h5
    subst e21
    exact ⟨rfl, ow⟩
   ·intro kk
    refine bcase (b := (decide (0 ≤ p2)) && (decide (p2 < p3))) (fun g22 => ?_) (fun g22 => ?_)
    ·skip
     refine U.x Z Z Z Z ((L 0 Z Z).trans (cB g22)) (by decide) ?_
     refine U.x Z Z Z Z ((L 1 Z Z).trans (cB g22)) (by decide) ?_
     refine U.z Z Z Z Z (L 0 Z Z) ?_
     refine U.z Z Z Z Z (L 1 Z Z) ?_
     refine U.x Z Z Z Z ((L 4 Z Z).trans (cB g22)) (by decide) ?_
     refine U.p Z Z (.inl Z) (S.pickT Z ((L 5 Z Z).trans (cB g22)) K) ?_
     exact kk [(26, .bool true), (25, .tuple #[]), (24, .tuple #[]), (23, .tuple #[]), (22, .tuple #[]), (21, .tuple #[])] _ ⟨.tuple #[], .tuple #[], .tuple #[], .tuple #[], .tuple #[], Z, (by rw [g22, Bool.true_or])⟩
    ·skip
     refine U.p Z Z (.inr ⟨_, _, _, Z, Z, ((L 0 Z Z).trans (cB g22))⟩) (S.move Z (L 12 Z Z)) ?_
     refine U.p Z Z (.inr ⟨_, _, _, Z, Z, ((L 1 Z Z).trans (cB g22))⟩) (S.move Z (L 0 Z Z)) ?_
     refine U.joinX 13 (fun e H => ∃ (u23 u24 : Value), H = V.H ∧ e = [(25, .bool (p1 && (decide (p2 = (-1))))), (24, u23), (23, u24)]) ?_ ?_
     ·rintro _ _ ⟨u23, u24, rfl, rfl⟩
      refine U.p Z Z (.inl Z) (S.pickF Z ((L 5 Z Z).trans (cB g22)) (L 0 Z Z)) ?_
      exact kk [(26, .bool (p1 && (decide (p2 = (-1))))), (25, .bool (p1 && (decide (p2 = (-1))))), (24, u23), (23, u24), (22, .bool p1), (21, .bool p1)] _ ⟨.bool (p1 && (decide (p2 = (-1)))), u23, u24, .bool p1, .bool p1, Z, (by rw [g22, Bool.false_or])⟩
     ·intro kk
      refine bcase (b := p1) (fun g28 => ?_) (fun g28 => ?_)
      ·skip
       refine U.p Z Z (.inr ⟨_, _, _, Z, Z, ((L 0 Z Z).trans (cB g28))⟩) (S.move Z (L 15 Z Z)) ?_
       refine U.p Z Z (.inr ⟨_, _, _, Z, Z, ((L 1 Z Z).trans (cB g28))⟩) (S.eqlI Z (L 0 Z Z) K) ?_
       refine U.p Z Z (.inr ⟨_, _, _, Z, Z, ((L 4 Z Z).trans (cB g22))⟩) (S.pickT Z ((L 2 Z Z).trans (cB g28)) (L 0 Z Z)) ?_
       exact kk [(25, .bool (decide (p2 = (-1)))), (24, .bool (decide (p2 = (-1)))), (23, .int .i64 p2)] _ ⟨.bool (decide (p2 = (-1))), .int .i64 p2, Z, (by rw [g28, Bool.true_and])⟩
      ·skip
       refine U.x Z Z Z Z ((L 0 Z Z).trans (cB g28)) (by decide) ?_
       refine U.x Z Z Z Z ((L 1 Z Z).trans (cB g28)) (by decide) ?_
       refine U.p Z Z (.inr ⟨_, _, _, Z, Z, ((L 4 Z Z).trans (cB g22))⟩) (S.pickF Z ((L 2 Z Z).trans (cB g28)) K) ?_
       exact kk [(25, .bool false), (24, .tuple #[]), (23, .tuple #[])] _ ⟨.tuple #[], .tuple #[], Z, (by rw [g28, Bool.false_and])⟩
  ·intro kk
   refine bcase (b := decide (0 ≤ p2)) (fun g29 => ?_) (fun g29 => ?_)
   ·skip
    refine U.p Z Z (.inr ⟨_, _, _, Z, Z, ((L 0 Z Z).trans (cB g29))⟩) (S.move Z (L 8 Z Z)) ?_
    refine U.p Z Z (.inr ⟨_, _, _, Z, Z, ((L 1 Z Z).trans (cB g29))⟩) (S.move Z (L 10 Z Z)) ?_
    refine U.p Z Z (.inr ⟨_, _, _, Z, Z, ((L 2 Z Z).trans (cB g29))⟩) (S.lss Z (L 1 Z Z) (L 0 Z Z)) ?_
    refine U.p Z Z (.inl Z) (S.pickT Z ((L 3 Z Z).trans (cB g29)) (L 0 Z Z)) ?_
    exact kk [(19, .bool (decide (p2 < p3))), (18, .bool (decide (p2 < p3))), (17, .int .i64 p3), (16, .int .i64 p2)] _ ⟨.bool (decide (p2 < p3)), .int .i64 p3, .int .i64 p2, Z, (by rw [g29, Bool.true_and])⟩
   ·skip
    refine U.x Z Z Z Z ((L 0 Z Z).trans (cB g29)) (by decide) ?_
    refine U.x Z Z Z Z ((L 1 Z Z).trans (cB g29)) (by decide) ?_
    refine U.x Z Z Z Z ((L 2 Z Z).trans (cB g29)) (by decide) ?_
    refine U.p Z Z (.inl Z) (S.pickF Z ((L 3 Z Z).trans (cB g29)) K) ?_
    exact kk [(19, .bool false), (18, .tuple #[]), (17, .tuple #[]), (16, .tuple #[])] _ ⟨.tuple #[], .tuple #[], .tuple #[], Z, (by rw [g29, Bool.false_and])⟩
theorem wk_ref08_count (V : Vw) (Rs : List At) (p0 : TFunc) (p1 : Int) (v1 : Value) (f2 : Fz RT_TIns V v1 p0.code) (ow : Ow V (Rs)) (r : Int) (h : ref08_count p0 p1 = some r) : ∃ v V', Cl Try.prog 0 15 #[.agg #[.string p0.name, .int .i64 p0.params, .int .i64 p0.regs, v1], .int .i64 p1] V.H v V'.H ∧ V.le V' ∧ (v = .int .i64 r ∧ Ow V' (Rs)) := by
 refine Ct.of (Nat.zero_le _) Try.func15 Z (nr Z) ?_
 unfold ref08_count at h
 refine WP.usreg Z ?_
 refine O.box ow Z Z (.inl Z) Z (L 0 Z Z) (by simp [topV]) Z nd (fun b3 V4 le5 ow6 => ?_)
 refine U.p Z Z (.inl Z) (S.assign Z K) ?_
 refine U.done (nr Z) ?_
 refine WP.usreg Z ?_
 refine U.p Z Z (.inl Z) (S.assign Z K) ?_
 refine U.done (nr Z) ?_
 refine WP.seq ?_
 refine WP.usreg Z ?_
 refine U.p (v := .pointer (some ⟨b3, 3, none⟩)) Z Z (.inl Z) (S.fieldAddr Z (L 2 Z Z) Try.underlying24 Z ti22 Z Z) ?_
 refine U.k Z Z (.inl Z) (S.load Z (L 0 Z Z) Try.underlying22 Z ((ow6.own (k := 0) Z).cell Z)) nd ?_
 refine U.p Z Z (.inl Z) (f2.1.len Z (L 0 Z Z) Try.underlying22) ?_
 refine U.p Z Z (.inl Z) (S.move Z K) ?_
 refine U.done (nr Z) ?_
 refine WP.blk ?_
 have ow10 := ow6.drop 0 Z
 unfold ref08_count_l1 at h
 obtain ⟨n12, hn11⟩ := loopO_some.1 h
 refine WP.loopI2 (fun n l V' => ∃ (x8 : Int) (x9 : Int), l = [(1, .int .i64 p1), (5, .int .i64 x8), (9, v1), (10, .int .i64 (p0.code.length : Int)), (11, .int .i64 x9)] ∧ V4.le V' ∧ Ow V' (Rs) ∧ itO (fun s => ref08_count_l1b p0 p1 s.1 s.2) n (x8, x9) = some r) n12 _ ⟨0, 0, Z, .refl _, ow10, hn11⟩ (allCons (L 8 Z Z) (allCons (L 4 Z Z) (allCons (L 2 Z Z) (allCons (L 1 Z Z) (allCons (L 0 Z Z) allNil))))) ?_
 rintro _ _ V13 ⟨x8, x9, rfl, le14, ow15, h19⟩
 obtain ⟨m16, q17, rfl, h20, e18⟩ := itS h19
 replace h20 : ref08_count_l1b p0 p1 x8 x9 = some q17 := h20
 unfold ref08_count_l1b at h20
 refine WP.usreg Z ?_
 refine U.p Z Z (.inl Z) (S.lss Z (L 4 Z Z) (L 3 Z Z)) ?_
 refine U.done (nr Z) ?_
 refine WP.seq ?_
 refine WP.cond _ (L 0 Z Z) Z (fun c21 => ?_) (fun c21 => ?_)
 ·have h22 := ifT c21 h20
  refine WP.skip ?_
  refine sqN ?_
  refine WP.seqI (fun l V' => ∃ (x23 : Int), l = [(1, .int .i64 p1), (5, .int .i64 x23), (9, v1), (10, .int .i64 (p0.code.length : Int)), (11, .int .i64 x9)] ∧ V13.le V' ∧ Ow V' (Rs) ∧ ref08_count_k1 x9 x23 = some q17) ?_ ?_
  ·rintro _ V24 ⟨x23, rfl, le25, ow26, h27⟩
   unfold ref08_count_k1 at h27
   refine WP.ureg Z ?_
   refine U.p Z Z (.inl Z) (S.add Z (L 4 Z Z) K) ?_
   refine U.p Z Z (.inl Z) (S.move Z (L 0 Z Z)) ?_
   refine U.done (nr Z) ?_
   refine sqN ?_
   exact ⟨_, V24, Z, ⟨m16, Nat.lt_succ_self _, x23, w64 (x9 + 1), Z, (le14.trans le25), ow26, backS h27 e18⟩, (allCons (L 2 Z Z) (allCons (L 3 Z Z) (allCons (L 4 Z Z) (allCons (L 5 Z Z) (allCons (L 0 Z Z) allNil)))))⟩
  ·skip
   refine WP.blk ?_
   refine WP.usreg Z ?_
   obtain ⟨x28, hx29, h30⟩ := bindS h22
   obtain ⟨b31, o32, c33, cs34, hv35, hf36, hr37, hc38⟩ := f2.at hx29
   obtain ⟨v39, rfl, f40⟩ := hr37
   refine U.p Z Z (.inl Z) (S.index Z ((L 3 Z Z).trans hv35) (L 5 Z Z) Try.underlying22 ti29 (ix_ge hx29) (ix_lt hx29)) ?_
   refine U.k Z Z (.inl Z) (S.loadN (cs := [.int .i64 x28.op, .int .i64 x28.d, .int .i64 x28.a, .int .i64 x28.b, .int .i64 x28.imm, v39, .int .i64 x28.what, .bool x28.volatile, .bool x28.final]) Z (L 0 Z Z) Try.underlying29 Z ti29 Z (fun j v hj => (le5.trans le14).cell hf36 (hc38 j v hj))) nd ?_
   refine O.alloc ow15 Z Z (.inl Z) Z ti29 Z Z nd (fun b41 V42 le43 ow44 => ?_)
   refine O.store (k := 0) (cs := [.int .i64 x28.op, .int .i64 x28.d, .int .i64 x28.a, .int .i64 x28.b, .int .i64 x28.imm, v39, .int .i64 x28.what, .bool x28.volatile, .bool x28.final]) (c' := [.int .i64 x28.op, .int .i64 x28.d, .int .i64 x28.a, .int .i64 x28.b, .int .i64 x28.imm, v39, .int .i64 x28.what, .bool x28.volatile, .bool x28.final]) ow44 Z Z Z (.inl Z) Z (L 0 Z Z) (L 1 Z Z) ti29 (by simp [topV]) Z Z (nr Z) (by have q0 := f40.one; simp only [List.all_cons, List.all_nil, q0]; rfl) Z nd (fun V46 le47 ow48 => ?_)
   refine U.done (nr Z) ?_
   refine WP.usreg Z ?_
   refine U.p (v := .pointer (some ⟨b41, 0, none⟩)) Z Z (.inl Z) (S.fieldAddr Z (L 0 Z Z) Try.underlying29 Z ti3 Z Z) ?_
   refine U.k Z Z (.inl Z) (S.load Z (L 0 Z Z) Try.underlying3 Z ((ow48.own (k := 0) Z).cell Z)) nd ?_
   refine U.p Z Z (.inl Z) (S.eqlI Z (L 0 Z Z) K) ?_
   refine U.p Z Z (.inl Z) (S.move Z (L 0 Z Z)) ?_
   refine U.joinX 9 (fun e H => ∃ (u49 u50 u51 u52 : Value), H = V46.H ∧ e = [(23, .bool ((decide (x28.op = 11)) && (decide (x28.imm = p1)))), (22, u49), (21, u50), (20, u51), (19, u52)]) ?_ ?_
   ·rintro _ _ ⟨u49, u50, u51, u52, rfl, rfl⟩
    refine U.done (nr Z) ?_
    refine WP.cond _ (L 0 Z Z) Z (fun c56 => ?_) (fun c56 => ?_)
    ·have h57 := ifT c56 h30
     refine WP.ureg Z ?_
     refine U.p Z Z (.inl Z) (S.move Z (L 14 Z Z)) ?_
     refine U.p Z Z (.inl Z) (S.add Z (L 0 Z Z) K) ?_
     refine U.p Z Z (.inl Z) (S.assign Z (L 0 Z Z)) ?_
     refine U.done (nr Z) ?_
     refine blkN (sqN ?_)
     have ow58 := ow48.drop 0 Z
     exact ⟨_, V46, Z, ⟨w64 (x8 + 1), Z, (le43.trans le47), ow58, h57⟩, (allCons (L 16 Z Z) (allCons (L 0 Z Z) (allCons (L 18 Z Z) (allCons (L 19 Z Z) (allCons (L 20 Z Z) allNil)))))⟩
    ·have h59 := ifF c56 h30
     refine WP.skip ?_
     refine blkN (sqN ?_)
     have ow60 := ow48.drop 0 Z
     exact ⟨_, V46, Z, ⟨x8, Z, (le43.trans le47), ow60, h59⟩, (allCons (L 13 Z Z) (allCons (L 14 Z Z) (allCons (L 15 Z Z) (allCons (L 16 Z Z) (allCons (L 17 Z Z) allNil)))))⟩
   ·intro kk
    refine bcase (b := decide (x28.op = 11)) (fun g61 => ?_) (fun g61 => ?_)
    ·skip
     refine U.p (v := .pointer (some ⟨b41, 4, none⟩)) Z Z (.inr ⟨_, _, _, Z, Z, ((L 0 Z Z).trans (cB g61))⟩) (S.fieldAddr Z (L 4 Z Z) Try.underlying29 Z ti3 Z Z) ?_
     refine U.k Z Z (.inr ⟨_, _, _, Z, Z, ((L 1 Z Z).trans (cB g61))⟩) (S.load Z (L 0 Z Z) Try.underlying3 Z ((ow48.own (k := 0) Z).cell Z)) nd ?_
     refine U.p Z Z (.inr ⟨_, _, _, Z, Z, ((L 2 Z Z).trans (cB g61))⟩) (S.move Z (L 10 Z Z)) ?_
     refine U.p Z Z (.inr ⟨_, _, _, Z, Z, ((L 3 Z Z).trans (cB g61))⟩) (S.eqlI Z (L 1 Z Z) (L 0 Z Z)) ?_
     refine U.p Z Z (.inl Z) (S.pickT Z ((L 4 Z Z).trans (cB g61)) (L 0 Z Z)) ?_
     exact kk [(23, .bool (decide (x28.imm = p1))), (22, .bool (decide (x28.imm = p1))), (21, .int .i64 p1), (20, .int .i64 x28.imm), (19, .pointer (some ⟨b41, 4, none⟩))] _ ⟨.bool (decide (x28.imm = p1)), .int .i64 p1, .int .i64 x28.imm, .pointer (some ⟨b41, 4, none⟩), Z, (by rw [g61, Bool.true_and])⟩
    ·skip
     refine U.x Z Z Z Z ((L 0 Z Z).trans (cB g61)) (by decide) ?_
     refine U.x Z Z Z Z ((L 1 Z Z).trans (cB g61)) (by decide) ?_
     refine U.x Z Z Z Z ((L 2 Z Z).trans (cB g61)) (by decide) ?_
     refine U.x Z Z Z Z ((L 3 Z Z).trans (cB g61)) (by decide) ?_
     refine U.p Z Z (.inl Z) (S.pickF Z ((L 4 Z Z).trans (cB g61)) K) ?_
     exact kk [(23, .bool false), (22, .tuple #[]), (21, .tuple #[]), (20, .tuple #[]), (19, .tuple #[])] _ ⟨.tuple #[], .tuple #[], .tuple #[], .tuple #[], Z, (by rw [g61, Bool.false_and])⟩
 ·have h62 := ifF c21 h20
  refine WP.exit ?_
  refine sqE (sqE (blkE (sqN ?_)))
  have h63 := exitS h62 e18
  refine WP.usreg Z ?_
  refine U.p Z Z (.inl Z) (S.move Z (L 2 Z Z)) ?_
  refine U.p Z Z (.inl Z) (S.assign Z (L 0 Z Z)) ?_
  refine U.done (nr Z) ?_
  refine WP.ret ?_
  refine fin.slot (.inr Z) Z (L 0 Z Z) ⟨V13, Z, (le5.trans le14), ?_⟩
  have e64 := Option.some.inj h63
  subst e64
  exact ⟨rfl, ow15⟩
theorem wk_ref08_ins (V : Vw) (Rs : List At) (p0 : TFunc) (p1 : TIns) (v1 : Value) (v3 : Value) (f2 : Fz RT_TIns V v1 p0.code) (f4 : Fz (RT.int .i64) V v3 p1.args) (ow : Ow V (Rs)) (r : Bool) (h : ref08_ins p0 p1 = some r) : ∃ v V', Cl Try.prog 0 14 #[.agg #[.string p0.name, .int .i64 p0.params, .int .i64 p0.regs, v1], .agg #[.int .i64 p1.op, .int .i64 p1.d, .int .i64 p1.a, .int .i64 p1.b, .int .i64 p1.imm, v3, .int .i64 p1.what, .bool p1.volatile, .bool p1.final]] V.H v V'.H ∧ V.le V' ∧ (v = .bool r ∧ Ow V' (Rs)) := by
 refine Ct.of (Nat.zero_le _) Try.func14 Z (nr Z) ?_
 unfold ref08_ins at h
 refine WP.usreg Z ?_
 refine O.box ow Z Z (.inl Z) Z (L 0 Z Z) (by simp [topV]) Z nd (fun b5 V6 le7 ow8 => ?_)
 refine O.box ow8 Z Z (.inl Z) Z (L 2 Z Z) (by simp [topV]) Z nd (fun b10 V11 le12 ow13 => ?_)
 refine U.p Z Z (.inl Z) (S.assign Z K) ?_
 refine U.done (nr Z) ?_
 refine WP.seq ?_
 refine WP.usreg Z ?_
 refine U.p (v := .pointer (some ⟨b10, 0, none⟩)) Z Z (.inl Z) (S.fieldAddr Z (L 1 Z Z) Try.underlying29 Z ti3 Z Z) ?_
 refine U.k Z Z (.inl Z) (S.load Z (L 0 Z Z) Try.underlying3 Z ((ow13.own (k := 0) Z).cell Z)) nd ?_
 refine U.p Z Z (.inl Z) (S.lss Z (L 0 Z Z) K) ?_
 refine U.p Z Z (.inl Z) (S.move Z (L 0 Z Z)) ?_
 refine U.joinX 8 (fun e H => ∃ (u15 u16 u17 : Value), H = V11.H ∧ e = [(18, .bool ((decide (p1.op < 1)) || (decide (22 < p1.op)))), (17, u15), (16, u16), (15, u17)]) ?_ ?_
 ·rintro _ _ ⟨u15, u16, u17, rfl, rfl⟩
  refine U.done (nr Z) ?_
  refine WP.cond _ (L 0 Z Z) Z (fun c21 => ?_) (fun c21 => ?_)
  ·have h22 := ifT c21 h
   refine WP.usreg Z ?_
   refine U.p Z Z (.inl Z) (S.assign Z K) ?_
   refine U.done (nr Z) ?_
   refine WP.ret ?_
   refine sqR ?_
   refine fin.slot (.inr Z) Z (L 0 Z Z) ⟨V11, Z, (le7.trans le12), ?_⟩
   have ow23 := ow13.drop 0 Z
   have ow24 := ow23.drop 0 Z
   have e25 := Option.some.inj h22
   subst e25
   exact ⟨rfl, ow24⟩
  ·have h26 := ifF c21 h
   refine WP.skip ?_
   refine sqN ?_
   refine WP.usreg Z ?_
   refine U.p (v := .pointer (some ⟨b10, 0, none⟩)) Z Z (.inl Z) (S.fieldAddr Z (L 9 Z Z) Try.underlying29 Z ti3 Z Z) ?_
   refine U.k Z Z (.inl Z) (S.load Z (L 0 Z Z) Try.underlying3 Z ((ow13.own (k := 0) Z).cell Z)) nd ?_
   obtain ⟨x27, hx28, h29⟩ := bindS h26
   refine O.call (V := V11) Z Z (.inl Z) Z en24 (aC (L 0 Z Z) aN) (wk_ref08_has V11 _ p1.op ow13 _ hx28) (fun _ _ _ _ => nd) (fun v30 V31 le32 hp33 => ?_)
   obtain ⟨rfl, ow34⟩ := hp33
   refine U.p Z Z (.inl Z) (S.move Z (L 0 Z Z)) ?_
   refine U.p Z Z (.inl Z) (S.extract Z (L 0 Z Z) Z (nr Z)) ?_
   refine U.p Z Z (.inl Z) (S.extract Z (L 1 Z Z) Z (nr Z)) ?_
   refine U.p Z Z (.inl Z) (S.extract Z (L 2 Z Z) Z (nr Z)) ?_
   refine U.p Z Z (.inl Z) (S.extract Z (L 3 Z Z) Z (nr Z)) ?_
   refine U.p Z Z (.inl Z) (S.assign Z (L 3 Z Z)) ?_
   refine U.p Z Z (.inl Z) (S.assign Z (L 3 Z Z)) ?_
   refine U.p Z Z (.inl Z) (S.assign Z (L 3 Z Z)) ?_
   refine U.p Z Z (.inl Z) (S.assign Z (L 3 Z Z)) ?_
   refine U.done (nr Z) ?_
   refine WP.seqI (fun l V' => ∃ (x35 : Bool), l = [(2, .pointer (some ⟨b5, 0, none⟩)), (3, .pointer (some ⟨b10, 0, none⟩)), (5, .bool x27.1), (6, .bool x35), (7, .bool x27.2.2.1), (8, .bool x27.2.2.2)] ∧ V31.le V' ∧ Ow V' (.pt b5 (.cells 0 [.string p0.name, .int .i64 p0.params, .int .i64 p0.regs, v1]) :: .pt b10 (.cells 0 [.int .i64 p1.op, .int .i64 p1.d, .int .i64 p1.a, .int .i64 p1.b, .int .i64 p1.imm, v3, .int .i64 p1.what, .bool p1.volatile, .bool p1.final]) :: Rs) ∧ ref08_ins_k1 p0 p1 x27 x35 = some r) ?_ ?_
   ·rintro _ V36 ⟨x35, rfl, le37, ow38, h39⟩
    unfold ref08_ins_k1 at h39
    refine WP.seq ?_
    refine WP.usreg Z ?_
    refine U.p Z Z (.inl Z) (S.move Z (L 2 Z Z)) ?_
    refine U.p (v := .pointer (some ⟨b10, 0, none⟩)) Z Z (.inl Z) (S.fieldAddr Z (L 2 Z Z) Try.underlying29 Z ti3 Z Z) ?_
    refine U.k Z Z (.inl Z) (S.load Z (L 0 Z Z) Try.underlying3 Z ((ow38.own (k := 1) Z).cell Z)) nd ?_
    refine U.p Z Z (.inl Z) (S.eqlI Z (L 0 Z Z) K) ?_
    refine U.p (v := .pointer (some ⟨b10, 1, none⟩)) Z Z (.inl Z) (S.fieldAddr Z (L 5 Z Z) Try.underlying29 Z ti3 Z Z) ?_
    refine U.k Z Z (.inl Z) (S.load Z (L 0 Z Z) Try.underlying3 Z ((ow38.own (k := 1) Z).cell Z)) nd ?_
    refine U.p (v := .pointer (some ⟨b5, 2, none⟩)) Z Z (.inl Z) (S.fieldAddr Z (L 6 Z Z) Try.underlying24 Z ti3 Z Z) ?_
    refine U.k Z Z (.inl Z) (S.load Z (L 0 Z Z) Try.underlying3 Z ((ow38.own (k := 0) Z).cell Z)) nd ?_
    obtain ⟨x40, hx41, h42⟩ := bindS h39
    refine O.call (V := V36) Z Z (.inl Z) Z en25 (aC (L 7 Z Z) (aC (L 4 Z Z) (aC (L 2 Z Z) (aC (L 0 Z Z) aN)))) (wk_ref08_register V36 _ x27.1 (decide (p1.op = 14)) p1.d p0.regs ow38 _ hx41) (fun _ _ _ _ => nd) (fun v43 V44 le45 hp46 => ?_)
    obtain ⟨rfl, ow47⟩ := hp46
    refine U.p Z Z (.inl Z) (S.not Z (L 0 Z Z)) ?_
    refine U.p Z Z (.inl Z) (S.move Z (L 0 Z Z)) ?_
    obtain ⟨y48, hy49, h50⟩ := bindS h42
    refine U.joinX 32 (fun e H => ∃ (u51 u52 u53 u54 u55 u56 u57 u58 u59 u60 u61 u62 u63 u64 u65 u66 u67 u68 u69 u70 : Value), ∃ V' : Vw, H = V'.H ∧ V44.le V' ∧ e = [(72, .bool y48), (71, u51), (70, u52), (69, u53), (68, u54), (67, u55), (66, u56), (65, u57), (64, u58), (63, u59), (62, u60), (61, u61), (60, u62), (59, u63), (58, u64), (57, u65), (56, u66), (55, u67), (54, u68), (53, u69), (52, u70)] ∧ Ow V' (.pt b5 (.cells 0 [.string p0.name, .int .i64 p0.params, .int .i64 p0.regs, v1]) :: .pt b10 (.cells 0 [.int .i64 p1.op, .int .i64 p1.d, .int .i64 p1.a, .int .i64 p1.b, .int .i64 p1.imm, v3, .int .i64 p1.what, .bool p1.volatile, .bool p1.final]) :: Rs)) ?_ ?_
    ·rintro _ _ ⟨u51, u52, u53, u54, u55, u56, u57, u58, u59, u60, u61, u62, u63, u64, u65, u66, u67, u68, u69, u70, V71, rfl, le72, rfl, ow73⟩
     refine U.p Z Z (.inl Z) (S.move Z (L 0 Z Z)) ?_
     obtain ⟨y74, hy75, h76⟩ := bindS h50
     refine U.joinX 41 (fun e H => ∃ (u77 u78 u79 u80 u81 u82 u83 : Value), ∃ V' : Vw, H = V'.H ∧ V71.le V' ∧ e = [(81, .bool y74), (80, u77), (79, u78), (78, u79), (77, u80), (76, u81), (75, u82), (74, u83)] ∧ Ow V' (.pt b5 (.cells 0 [.string p0.name, .int .i64 p0.params, .int .i64 p0.regs, v1]) :: .pt b10 (.cells 0 [.int .i64 p1.op, .int .i64 p1.d, .int .i64 p1.a, .int .i64 p1.b, .int .i64 p1.imm, v3, .int .i64 p1.what, .bool p1.volatile, .bool p1.final]) :: Rs)) ?_ ?_
     ·rintro _ _ ⟨u77, u78, u79, u80, u81, u82, u83, V84, rfl, le85, rfl, ow86⟩
      refine U.done (nr Z) ?_
      refine WP.cond _ (L 0 Z Z) Z (fun c87 => ?_) (fun c87 => ?_)
      ·have h88 := ifT c87 h76
       refine WP.usreg Z ?_
       refine U.p Z Z (.inl Z) (S.assign Z K) ?_
       refine U.done (nr Z) ?_
       refine WP.ret ?_
       refine sqR ?_
       refine fin.slot (.inr Z) Z (L 0 Z Z) ⟨V84, Z, ((((((le7.trans le12).trans le32).trans le37).trans le45).trans le72).trans le85), ?_⟩
       have ow89 := ow86.drop 0 Z
       have ow90 := ow89.drop 0 Z
       have e91 := Option.some.inj h88
       subst e91
       exact ⟨rfl, ow90⟩
      ·have h92 := ifF c87 h76
       refine WP.skip ?_
       refine sqN ?_
       refine WP.seq ?_
       refine WP.usreg Z ?_
       refine U.p (v := .pointer (some ⟨b10, 5, none⟩)) Z Z (.inl Z) (S.fieldAddr Z (L 42 Z Z) Try.underlying29 Z ti27 Z Z) ?_
       refine U.k Z Z (.inl Z) (S.load Z (L 0 Z Z) Try.underlying27 Z ((ow86.own (k := 1) Z).cell Z)) nd ?_
       refine U.p Z Z (.inl Z) (f4.1.len Z (L 0 Z Z) Try.underlying27) ?_
       refine U.p Z Z (.inl Z) (S.move Z K) ?_
       refine U.done (nr Z) ?_
       refine WP.blk ?_
       unfold ref08_ins_l1 at h92
       obtain ⟨n95, hn94⟩ := loopO_some.1 h92
       refine WP.loopI2 (fun n l V' => ∃ (x93 : Int), l = [(2, .pointer (some ⟨b5, 0, none⟩)), (3, .pointer (some ⟨b10, 0, none⟩)), (8, .bool x27.2.2.2), (83, v3), (84, .int .i64 (p1.args.length : Int)), (85, .int .i64 x93)] ∧ V84.le V' ∧ Ow V' (.pt b5 (.cells 0 [.string p0.name, .int .i64 p0.params, .int .i64 p0.regs, v1]) :: .pt b10 (.cells 0 [.int .i64 p1.op, .int .i64 p1.d, .int .i64 p1.a, .int .i64 p1.b, .int .i64 p1.imm, v3, .int .i64 p1.what, .bool p1.volatile, .bool p1.final]) :: Rs) ∧ itO (fun s => ref08_ins_l1b p0 p1 x27 s) n x93 = some r) n95 _ ⟨0, Z, .refl _, ow86, hn94⟩ (allCons (L 45 Z Z) (allCons (L 46 Z Z) (allCons (L 50 Z Z) (allCons (L 2 Z Z) (allCons (L 1 Z Z) (allCons (L 0 Z Z) allNil)))))) ?_
       rintro _ _ V96 ⟨x93, rfl, le97, ow98, h102⟩
       obtain ⟨m99, q100, rfl, h103, e101⟩ := itS h102
       replace h103 : ref08_ins_l1b p0 p1 x27 x93 = some q100 := h103
       unfold ref08_ins_l1b at h103
       refine WP.usreg Z ?_
       refine U.p Z Z (.inl Z) (S.lss Z (L 5 Z Z) (L 4 Z Z)) ?_
       refine U.done (nr Z) ?_
       refine WP.seq ?_
       refine WP.cond _ (L 0 Z Z) Z (fun c104 => ?_) (fun c104 => ?_)
       ·have h105 := ifT c104 h103
        refine WP.skip ?_
        refine sqN ?_
        refine WP.seq ?_
        refine WP.blk ?_
        refine WP.usreg Z ?_
        obtain ⟨x106, hx107, h108⟩ := bindS h105
        obtain ⟨b109, o110, c111, cs112, hv113, hf114, hr115, hc116⟩ := f4.at hx107
        obtain rfl : cs112 = [.int .i64 x106] := hr115
        refine U.p Z Z (.inl Z) (S.index Z ((L 4 Z Z).trans hv113) (L 6 Z Z) Try.underlying27 ti3 (ix_ge hx107) (ix_lt hx107)) ?_
        refine U.k Z Z (.inl Z) (S.load Z (L 0 Z Z) Try.underlying3 Z ((((((((le7.trans le12).trans le32).trans le37).trans le45).trans le72).trans le85).trans le97).cell hf114 (hc116 0 _ Z))) nd ?_
        refine U.p Z Z (.inl Z) (S.assign Z (L 0 Z Z)) ?_
        refine U.done (nr Z) ?_
        refine WP.usreg Z ?_
        refine U.p (v := .pointer (some ⟨b10, 0, none⟩)) Z Z (.inl Z) (S.fieldAddr Z (L 5 Z Z) Try.underlying29 Z ti3 Z Z) ?_
        refine U.k Z Z (.inl Z) (S.load Z (L 0 Z Z) Try.underlying3 Z ((ow98.own (k := 1) Z).cell Z)) nd ?_
        refine U.p Z Z (.inl Z) (S.neqI Z (L 0 Z Z) K) ?_
        refine U.p Z Z (.inl Z) (S.move Z (L 0 Z Z)) ?_
        refine U.joinX 7 (fun e H => ∃ (u117 u118 : Value), H = V96.H ∧ e = [(95, .bool ((decide (p1.op ≠ 14)) || (decide (x106 < 0)))), (94, u117), (93, u118)]) ?_ ?_
        ·rintro _ _ ⟨u117, u118, rfl, rfl⟩
         refine U.p Z Z (.inl Z) (S.move Z (L 0 Z Z)) ?_
         refine U.joinX 13 (fun e H => ∃ (u122 u123 u124 u125 : Value), H = V96.H ∧ e = [(101, .bool (((decide (p1.op ≠ 14)) || (decide (x106 < 0))) || (decide (p0.regs ≤ x106)))), (100, u122), (99, u123), (98, u124), (97, u125)]) ?_ ?_
         ·rintro _ _ ⟨u122, u123, u124, u125, rfl, rfl⟩
          refine U.done (nr Z) ?_
          refine WP.cond _ (L 0 Z Z) Z (fun c129 => ?_) (fun c129 => ?_)
          ·have h130 := ifT c129 h108
           refine WP.usreg Z ?_
           refine U.p Z Z (.inl Z) (S.assign Z K) ?_
           refine U.done (nr Z) ?_
           refine WP.ret ?_
           refine blkR (sqR (sqR (blkR (sqR ?_))))
           have h131 := exitS h130 e101
           refine fin.slot (.inr Z) Z (L 0 Z Z) ⟨V96, Z, (((((((le7.trans le12).trans le32).trans le37).trans le45).trans le72).trans le85).trans le97), ?_⟩
           have ow132 := ow98.drop 0 Z
           have ow133 := ow132.drop 0 Z
           have e134 := Option.some.inj h131
           subst e134
           exact ⟨rfl, ow133⟩
          ·have h135 := ifF c129 h108
           refine WP.skip ?_
           refine blkN (sqN ?_)
           refine WP.ureg Z ?_
           refine U.p Z Z (.inl Z) (S.add Z (L 22 Z Z) K) ?_
           refine U.p Z Z (.inl Z) (S.move Z (L 0 Z Z)) ?_
           refine U.done (nr Z) ?_
           refine sqN ?_
           exact ⟨_, V96, Z, ⟨m99, Nat.lt_succ_self _, w64 (x93 + 1), Z, le97, ow98, backS h135 e101⟩, (allCons (L 19 Z Z) (allCons (L 20 Z Z) (allCons (L 21 Z Z) (allCons (L 22 Z Z) (allCons (L 23 Z Z) (allCons (L 0 Z Z) allNil))))))⟩
         ·intro kk
          refine bcase (b := (decide (p1.op ≠ 14)) || (decide (x106 < 0))) (fun g136 => ?_) (fun g136 => ?_)
          ·skip
           refine U.x Z Z Z Z ((L 0 Z Z).trans (cB g136)) (by decide) ?_
           refine U.x Z Z Z Z ((L 1 Z Z).trans (cB g136)) (by decide) ?_
           refine U.x Z Z Z Z ((L 2 Z Z).trans (cB g136)) (by decide) ?_
           refine U.x Z Z Z Z ((L 3 Z Z).trans (cB g136)) (by decide) ?_
           refine U.p Z Z (.inl Z) (S.pickT Z ((L 4 Z Z).trans (cB g136)) K) ?_
           exact kk [(101, .bool true), (100, .tuple #[]), (99, .tuple #[]), (98, .tuple #[]), (97, .tuple #[])] _ ⟨.tuple #[], .tuple #[], .tuple #[], .tuple #[], Z, (by rw [g136, Bool.true_or])⟩
          ·skip
           refine U.p Z Z (.inr ⟨_, _, _, Z, Z, ((L 0 Z Z).trans (cB g136))⟩) (S.move Z (L 8 Z Z)) ?_
           refine U.p (v := .pointer (some ⟨b5, 2, none⟩)) Z Z (.inr ⟨_, _, _, Z, Z, ((L 1 Z Z).trans (cB g136))⟩) (S.fieldAddr Z (L 13 Z Z) Try.underlying24 Z ti3 Z Z) ?_
           refine U.k Z Z (.inr ⟨_, _, _, Z, Z, ((L 2 Z Z).trans (cB g136))⟩) (S.load Z (L 0 Z Z) Try.underlying3 Z ((ow98.own (k := 0) Z).cell Z)) nd ?_
           refine U.p Z Z (.inr ⟨_, _, _, Z, Z, ((L 3 Z Z).trans (cB g136))⟩) (S.geq Z (L 2 Z Z) (L 0 Z Z)) ?_
           refine U.p Z Z (.inl Z) (S.pickF Z ((L 4 Z Z).trans (cB g136)) (L 0 Z Z)) ?_
           exact kk [(101, .bool (decide (p0.regs ≤ x106))), (100, .bool (decide (p0.regs ≤ x106))), (99, .int .i64 p0.regs), (98, .pointer (some ⟨b5, 2, none⟩)), (97, .int .i64 x106)] _ ⟨.bool (decide (p0.regs ≤ x106)), .int .i64 p0.regs, .pointer (some ⟨b5, 2, none⟩), .int .i64 x106, Z, (by rw [g136, Bool.false_or])⟩
        ·intro kk
         refine bcase (b := decide (p1.op ≠ 14)) (fun g137 => ?_) (fun g137 => ?_)
         ·skip
          refine U.x Z Z Z Z ((L 0 Z Z).trans (cB g137)) (by decide) ?_
          refine U.x Z Z Z Z ((L 1 Z Z).trans (cB g137)) (by decide) ?_
          refine U.p Z Z (.inl Z) (S.pickT Z ((L 2 Z Z).trans (cB g137)) K) ?_
          exact kk [(95, .bool true), (94, .tuple #[]), (93, .tuple #[])] _ ⟨.tuple #[], .tuple #[], Z, (by rw [g137, Bool.true_or])⟩
         ·skip
          refine U.p Z Z (.inr ⟨_, _, _, Z, Z, ((L 0 Z Z).trans (cB g137))⟩) (S.move Z (L 4 Z Z)) ?_
          refine U.p Z Z (.inr ⟨_, _, _, Z, Z, ((L 1 Z Z).trans (cB g137))⟩) (S.lss Z (L 0 Z Z) K) ?_
          refine U.p Z Z (.inl Z) (S.pickF Z ((L 2 Z Z).trans (cB g137)) (L 0 Z Z)) ?_
          exact kk [(95, .bool (decide (x106 < 0))), (94, .bool (decide (x106 < 0))), (93, .int .i64 x106)] _ ⟨.bool (decide (x106 < 0)), .int .i64 x106, Z, (by rw [g137, Bool.false_or])⟩
       ·have h138 := ifF c104 h103
        refine WP.exit ?_
        refine sqE (sqE (blkE (sqN ?_)))
        have h139 := exitS h138 e101
        refine WP.seq ?_
        refine WP.usreg Z ?_
        refine U.p (v := .pointer (some ⟨b10, 0, none⟩)) Z Z (.inl Z) (S.fieldAddr Z (L 2 Z Z) Try.underlying29 Z ti3 Z Z) ?_
        refine U.k Z Z (.inl Z) (S.load Z (L 0 Z Z) Try.underlying3 Z ((ow98.own (k := 1) Z).cell Z)) nd ?_
        refine U.p Z Z (.inl Z) (S.neqI Z (L 0 Z Z) K) ?_
        refine U.p Z Z (.inl Z) (S.move Z (L 0 Z Z)) ?_
        refine U.joinX 8 (fun e H => ∃ (u140 u141 u142 : Value), H = V96.H ∧ e = [(110, .bool ((decide (p1.op ≠ 9)) && (decide (p1.op ≠ 10)))), (109, u140), (108, u141), (107, u142)]) ?_ ?_
        ·rintro _ _ ⟨u140, u141, u142, rfl, rfl⟩
         refine U.p Z Z (.inl Z) (S.move Z (L 0 Z Z)) ?_
         refine U.joinX 21 (fun e H => ∃ (u146 u147 u148 u149 u150 u151 u152 u153 u154 u155 u156 : Value), H = V96.H ∧ e = [(123, .bool (((decide (p1.op ≠ 9)) && (decide (p1.op ≠ 10))) && (((decide (p1.what ≠ 0)) || p1.volatile) || p1.final))), (122, u146), (121, u147), (120, u148), (119, u149), (118, u150), (117, u151), (116, u152), (115, u153), (114, u154), (113, u155), (112, u156)]) ?_ ?_
         ·rintro _ _ ⟨u146, u147, u148, u149, u150, u151, u152, u153, u154, u155, u156, rfl, rfl⟩
          refine U.done (nr Z) ?_
          refine WP.cond _ (L 0 Z Z) Z (fun c160 => ?_) (fun c160 => ?_)
          ·have h161 := ifT c160 h139
           refine WP.usreg Z ?_
           refine U.p Z Z (.inl Z) (S.assign Z K) ?_
           refine U.done (nr Z) ?_
           refine WP.ret ?_
           refine sqR ?_
           refine fin.slot (.inr Z) Z (L 0 Z Z) ⟨V96, Z, (((((((le7.trans le12).trans le32).trans le37).trans le45).trans le72).trans le85).trans le97), ?_⟩
           have ow162 := ow98.drop 0 Z
           have ow163 := ow162.drop 0 Z
           have e164 := Option.some.inj h161
           subst e164
           exact ⟨rfl, ow163⟩
          ·have h165 := ifF c160 h139
           refine WP.skip ?_
           refine sqN ?_
           refine WP.seq ?_
           refine WP.usreg Z ?_
           refine U.p (v := .pointer (some ⟨b10, 0, none⟩)) Z Z (.inl Z) (S.fieldAddr Z (L 23 Z Z) Try.underlying29 Z ti3 Z Z) ?_
           refine U.k Z Z (.inl Z) (S.load Z (L 0 Z Z) Try.underlying3 Z ((ow98.own (k := 1) Z).cell Z)) nd ?_
           refine U.done (nr Z) ?_
           refine WP.blk ?_
           refine WP.seqI (fun l V' => ∃ (x166 : Bool), l = [(2, .pointer (some ⟨b5, 0, none⟩)), (3, .pointer (some ⟨b10, 0, none⟩)), (8, .bool x27.2.2.2), (125, .int .i64 p1.op), (126, .bool x166)] ∧ V96.le V' ∧ Ow V' (.pt b5 (.cells 0 [.string p0.name, .int .i64 p0.params, .int .i64 p0.regs, v1]) :: .pt b10 (.cells 0 [.int .i64 p1.op, .int .i64 p1.d, .int .i64 p1.a, .int .i64 p1.b, .int .i64 p1.imm, v3, .int .i64 p1.what, .bool p1.volatile, .bool p1.final]) :: Rs) ∧ ref08_ins_k2 p0 p1 x27 x166 = some r) ?_ ?_
           ·rintro _ V167 ⟨x166, rfl, le168, ow169, h170⟩
            unfold ref08_ins_k2 at h170
            refine WP.cond _ (L 4 Z Z) Z (fun c171 => ?_) (fun c171 => ?_)
            ·have h172 := ifT c171 h170
             refine WP.usreg Z ?_
             refine U.p Z Z (.inl Z) (S.assign Z K) ?_
             refine U.done (nr Z) ?_
             refine WP.ret ?_
             refine blkR (sqR ?_)
             refine fin.slot (.inr Z) Z (L 0 Z Z) ⟨V167, Z, ((((((((le7.trans le12).trans le32).trans le37).trans le45).trans le72).trans le85).trans le97).trans le168), ?_⟩
             have ow173 := ow169.drop 0 Z
             have ow174 := ow173.drop 0 Z
             have e175 := Option.some.inj h172
             subst e175
             exact ⟨rfl, ow174⟩
            ·have h176 := ifF c171 h170
             refine WP.usreg Z ?_
             refine U.p Z Z (.inl Z) (S.eqlI Z (L 3 Z Z) K) ?_
             refine U.p Z Z (.inl Z) (S.assign Z (L 0 Z Z)) ?_
             refine U.done (nr Z) ?_
             refine WP.cond _ (L 0 Z Z) Z (fun c177 => ?_) (fun c177 => ?_)
             ·have h178 := ifT c177 h176
              refine WP.usreg Z ?_
              refine U.p (v := .pointer (some ⟨b10, 4, none⟩)) Z Z (.inl Z) (S.fieldAddr Z (L 3 Z Z) Try.underlying29 Z ti3 Z Z) ?_
              refine U.k Z Z (.inl Z) (S.load Z (L 0 Z Z) Try.underlying3 Z ((ow169.own (k := 1) Z).cell Z)) nd ?_
              refine U.p Z Z (.inl Z) (S.gtr Z (L 0 Z Z) K) ?_
              refine U.p Z Z (.inl Z) (S.assign Z (L 0 Z Z)) ?_
              refine U.done (nr Z) ?_
              refine WP.ret ?_
              refine blkR (sqR ?_)
              refine fin.slot (.inr Z) Z (L 0 Z Z) ⟨V167, Z, ((((((((le7.trans le12).trans le32).trans le37).trans le45).trans le72).trans le85).trans le97).trans le168), ?_⟩
              have ow179 := ow169.drop 0 Z
              have ow180 := ow179.drop 0 Z
              have e181 := Option.some.inj h178
              subst e181
              exact ⟨rfl, ow180⟩
             ·have h182 := ifF c177 h176
              refine WP.usreg Z ?_
              refine U.p Z Z (.inl Z) (S.eqlI Z (L 5 Z Z) K) ?_
              refine U.p Z Z (.inl Z) (S.assign Z (L 0 Z Z)) ?_
              refine U.done (nr Z) ?_
              refine WP.cond _ (L 0 Z Z) Z (fun c183 => ?_) (fun c183 => ?_)
              ·have h184 := ifT c183 h182
               refine WP.usreg Z ?_
               refine U.p (v := .pointer (some ⟨b10, 4, none⟩)) Z Z (.inl Z) (S.fieldAddr Z (L 5 Z Z) Try.underlying29 Z ti3 Z Z) ?_
               refine U.k Z Z (.inl Z) (S.load Z (L 0 Z Z) Try.underlying3 Z ((ow169.own (k := 1) Z).cell Z)) nd ?_
               refine U.p Z Z (.inl Z) (S.eqlI Z (L 0 Z Z) K) ?_
               refine U.p Z Z (.inl Z) (S.move Z (L 0 Z Z)) ?_
               refine U.joinX 8 (fun e H => ∃ (u185 u186 u187 : Value), H = V167.H ∧ e = [(146, .bool ((decide (p1.imm = 0)) || (decide (p1.imm = 1)))), (145, u185), (144, u186), (143, u187)]) ?_ ?_
               ·rintro _ _ ⟨u185, u186, u187, rfl, rfl⟩
                refine U.p Z Z (.inl Z) (S.assign Z (L 0 Z Z)) ?_
                refine U.done (nr Z) ?_
                refine WP.ret ?_
                refine blkR (sqR ?_)
                refine fin.slot (.inr Z) Z (L 0 Z Z) ⟨V167, Z, ((((((((le7.trans le12).trans le32).trans le37).trans le45).trans le72).trans le85).trans le97).trans le168), ?_⟩
                have ow191 := ow169.drop 0 Z
                have ow192 := ow191.drop 0 Z
                have e193 := Option.some.inj h184
                subst e193
                exact ⟨rfl, ow192⟩
               ·intro kk
                refine bcase (b := decide (p1.imm = 0)) (fun g194 => ?_) (fun g194 => ?_)
                ·skip
                 refine U.x Z Z Z Z ((L 0 Z Z).trans (cB g194)) (by decide) ?_
                 refine U.x Z Z Z Z ((L 1 Z Z).trans (cB g194)) (by decide) ?_
                 refine U.x Z Z Z Z ((L 2 Z Z).trans (cB g194)) (by decide) ?_
                 refine U.p Z Z (.inl Z) (S.pickT Z ((L 3 Z Z).trans (cB g194)) K) ?_
                 exact kk [(146, .bool true), (145, .tuple #[]), (144, .tuple #[]), (143, .tuple #[])] _ ⟨.tuple #[], .tuple #[], .tuple #[], Z, (by rw [g194, Bool.true_or])⟩
                ·skip
                 refine U.p (v := .pointer (some ⟨b10, 4, none⟩)) Z Z (.inr ⟨_, _, _, Z, Z, ((L 0 Z Z).trans (cB g194))⟩) (S.fieldAddr Z (L 9 Z Z) Try.underlying29 Z ti3 Z Z) ?_
                 refine U.k Z Z (.inr ⟨_, _, _, Z, Z, ((L 1 Z Z).trans (cB g194))⟩) (S.load Z (L 0 Z Z) Try.underlying3 Z ((ow169.own (k := 1) Z).cell Z)) nd ?_
                 refine U.p Z Z (.inr ⟨_, _, _, Z, Z, ((L 2 Z Z).trans (cB g194))⟩) (S.eqlI Z (L 0 Z Z) K) ?_
                 refine U.p Z Z (.inl Z) (S.pickF Z ((L 3 Z Z).trans (cB g194)) (L 0 Z Z)) ?_
                 exact kk [(146, .bool (decide (p1.imm = 1))), (145, .bool (decide (p1.imm = 1))), (144, .int .i64 p1.imm), (143, .pointer (some ⟨b10, 4, none⟩))] _ ⟨.bool (decide (p1.imm = 1)), .int .i64 p1.imm, .pointer (some ⟨b10, 4, none⟩), Z, (by rw [g194, Bool.false_or])⟩
              ·have h195 := ifF c183 h182
               refine WP.skip ?_
               refine blkN (sqN ?_)
               refine WP.seq ?_
               refine WP.usreg Z ?_
               refine U.p Z Z (.inl Z) (S.move Z (L 6 Z Z)) ?_
               refine U.done (nr Z) ?_
               refine WP.cond _ (L 0 Z Z) Z (fun c196 => ?_) (fun c196 => ?_)
               ·have h197 := ifT c196 h195
                refine WP.usreg Z ?_
                refine U.k Z Z (.inl Z) (S.loadB Z (L 5 Z Z) Try.underlying24 Z ti24 (ow169.own (k := 0) Z).get Z) nd ?_
                refine U.p (v := .pointer (some ⟨b10, 4, none⟩)) Z Z (.inl Z) (S.fieldAddr Z (L 7 Z Z) Try.underlying29 Z ti3 Z Z) ?_
                refine U.k Z Z (.inl Z) (S.load Z (L 0 Z Z) Try.underlying3 Z ((ow169.own (k := 1) Z).cell Z)) nd ?_
                have f198 := f2.up ((((((((le7.trans le12).trans le32).trans le37).trans le45).trans le72).trans le85).trans le97).trans le168)
                obtain ⟨x199, hx200, h201⟩ := bindS h197
                refine O.call (V := V167) Z Z (.inl Z) Z en15 (aC (L 2 Z Z) (aC (L 0 Z Z) aN)) (wk_ref08_count V167 _ p0 p1.imm v1 f198 ow169 _ hx200) (fun _ _ _ _ => nd) (fun v202 V203 le204 hp205 => ?_)
                obtain ⟨rfl, ow206⟩ := hp205
                refine U.p Z Z (.inl Z) (S.gtr Z (L 0 Z Z) K) ?_
                refine U.p Z Z (.inl Z) (S.assign Z (L 0 Z Z)) ?_
                refine U.done (nr Z) ?_
                refine WP.ret ?_
                refine sqR ?_
                refine fin.slot (.inr Z) Z (L 0 Z Z) ⟨V203, Z, (((((((((le7.trans le12).trans le32).trans le37).trans le45).trans le72).trans le85).trans le97).trans le168).trans le204), ?_⟩
                have ow207 := ow206.drop 0 Z
                have ow208 := ow207.drop 0 Z
                have e209 := Option.some.inj h201
                subst e209
                exact ⟨rfl, ow208⟩
               ·have h210 := ifF c196 h195
                refine WP.skip ?_
                refine sqN ?_
                refine WP.usreg Z ?_
                refine U.p (v := .pointer (some ⟨b10, 4, none⟩)) Z Z (.inl Z) (S.fieldAddr Z (L 6 Z Z) Try.underlying29 Z ti3 Z Z) ?_
                refine U.k Z Z (.inl Z) (S.load Z (L 0 Z Z) Try.underlying3 Z ((ow169.own (k := 1) Z).cell Z)) nd ?_
                refine U.p Z Z (.inl Z) (S.eqlI Z (L 0 Z Z) K) ?_
                refine U.p Z Z (.inl Z) (S.assign Z (L 0 Z Z)) ?_
                refine U.done (nr Z) ?_
                refine WP.ret ?_
                refine fin.slot (.inr Z) Z (L 0 Z Z) ⟨V167, Z, ((((((((le7.trans le12).trans le32).trans le37).trans le45).trans le72).trans le85).trans le97).trans le168), ?_⟩
                have ow211 := ow169.drop 0 Z
                have ow212 := ow211.drop 0 Z
                have e213 := Option.some.inj h210
                subst e213
                exact ⟨rfl, ow212⟩
           ·skip
            refine WP.usreg Z ?_
            refine U.p Z Z (.inl Z) (S.eqlI Z (L 0 Z Z) K) ?_
            refine U.p Z Z (.inl Z) (S.assign Z (L 0 Z Z)) ?_
            refine U.done (nr Z) ?_
            refine WP.cond _ (L 0 Z Z) Z (fun c214 => ?_) (fun c214 => ?_)
            ·have h215 := ifT c214 h165
             refine WP.skip ?_
             refine sqN ?_
             exact ⟨_, V96, Z, ⟨true, Z, (.refl _), ow98, h215⟩, (allCons (L 26 Z Z) (allCons (L 27 Z Z) (allCons (L 28 Z Z) (allCons (L 2 Z Z) (allCons ((L 0 Z Z).trans (cB c214)) allNil)))))⟩
            ·have h216 := ifF c214 h165
             refine WP.usreg Z ?_
             refine U.p Z Z (.inl Z) (S.eqlI Z (L 2 Z Z) K) ?_
             refine U.p Z Z (.inl Z) (S.assign Z (L 0 Z Z)) ?_
             refine U.done (nr Z) ?_
             refine WP.cond _ (L 0 Z Z) Z (fun c217 => ?_) (fun c217 => ?_)
             ·have h218 := ifT c217 h216
              refine WP.skip ?_
              refine sqN ?_
              exact ⟨_, V96, Z, ⟨true, Z, (.refl _), ow98, h218⟩, (allCons (L 28 Z Z) (allCons (L 29 Z Z) (allCons (L 30 Z Z) (allCons (L 4 Z Z) (allCons ((L 0 Z Z).trans (cB c217)) allNil)))))⟩
             ·have h219 := ifF c217 h216
              refine WP.usreg Z ?_
              refine U.p Z Z (.inl Z) (S.eqlI Z (L 4 Z Z) K) ?_
              refine U.p Z Z (.inl Z) (S.assign Z (L 0 Z Z)) ?_
              refine U.done (nr Z) ?_
              refine WP.cond _ (L 0 Z Z) Z (fun c220 => ?_) (fun c220 => ?_)
              ·have h221 := ifT c220 h219
               refine WP.skip ?_
               refine sqN ?_
               exact ⟨_, V96, Z, ⟨true, Z, (.refl _), ow98, h221⟩, (allCons (L 30 Z Z) (allCons (L 31 Z Z) (allCons (L 32 Z Z) (allCons (L 6 Z Z) (allCons ((L 0 Z Z).trans (cB c220)) allNil)))))⟩
              ·have h222 := ifF c220 h219
               refine WP.usreg Z ?_
               refine U.p Z Z (.inl Z) (S.eqlI Z (L 6 Z Z) K) ?_
               refine U.p Z Z (.inl Z) (S.assign Z (L 0 Z Z)) ?_
               refine U.done (nr Z) ?_
               refine WP.cond _ (L 0 Z Z) Z (fun c223 => ?_) (fun c223 => ?_)
               ·have h224 := ifT c223 h222
                refine WP.skip ?_
                refine sqN ?_
                exact ⟨_, V96, Z, ⟨true, Z, (.refl _), ow98, h224⟩, (allCons (L 32 Z Z) (allCons (L 33 Z Z) (allCons (L 34 Z Z) (allCons (L 8 Z Z) (allCons ((L 0 Z Z).trans (cB c223)) allNil)))))⟩
               ·have h225 := ifF c223 h222
                refine WP.ureg Z ?_
                refine U.p Z Z (.inl Z) (S.eqlI Z (L 8 Z Z) K) ?_
                refine U.p Z Z (.inl Z) (S.assign Z (L 0 Z Z)) ?_
                refine U.done (nr Z) ?_
                refine sqN ?_
                exact ⟨_, V96, Z, ⟨decide (p1.op = 21), Z, (.refl _), ow98, h225⟩, (allCons (L 34 Z Z) (allCons (L 35 Z Z) (allCons (L 36 Z Z) (allCons (L 10 Z Z) (allCons (L 0 Z Z) allNil)))))⟩
         ·intro kk
          refine bcase (b := (decide (p1.op ≠ 9)) && (decide (p1.op ≠ 10))) (fun g226 => ?_) (fun g226 => ?_)
          ·skip
           refine U.p (v := .pointer (some ⟨b10, 6, none⟩)) Z Z (.inr ⟨_, _, _, Z, Z, ((L 0 Z Z).trans (cB g226))⟩) (S.fieldAddr Z (L 11 Z Z) Try.underlying29 Z ti3 Z Z) ?_
           refine U.k Z Z (.inr ⟨_, _, _, Z, Z, ((L 1 Z Z).trans (cB g226))⟩) (S.load Z (L 0 Z Z) Try.underlying3 Z ((ow98.own (k := 1) Z).cell Z)) nd ?_
           refine U.p Z Z (.inr ⟨_, _, _, Z, Z, ((L 2 Z Z).trans (cB g226))⟩) (S.neqI Z (L 0 Z Z) K) ?_
           refine U.p Z Z (.inr ⟨_, _, _, Z, Z, ((L 3 Z Z).trans (cB g226))⟩) (S.move Z (L 0 Z Z)) ?_
           refine U.joinX 16 (fun e H => ∃ (u227 u228 : Value), H = V96.H ∧ e = [(118, .bool ((decide (p1.what ≠ 0)) || p1.volatile)), (117, u227), (116, u228)]) ?_ ?_
           ·rintro _ _ ⟨u227, u228, rfl, rfl⟩
            refine U.p Z Z (.inr ⟨_, _, _, Z, Z, ((L 7 Z Z).trans (cB g226))⟩) (S.move Z (L 0 Z Z)) ?_
            refine U.joinX 20 (fun e H => ∃ (u232 u233 : Value), H = V96.H ∧ e = [(122, .bool (((decide (p1.what ≠ 0)) || p1.volatile) || p1.final)), (121, u232), (120, u233)]) ?_ ?_
            ·rintro _ _ ⟨u232, u233, rfl, rfl⟩
             refine U.p Z Z (.inl Z) (S.pickT Z ((L 11 Z Z).trans (cB g226)) (L 0 Z Z)) ?_
             exact kk [(123, .bool (((decide (p1.what ≠ 0)) || p1.volatile) || p1.final)), (122, .bool (((decide (p1.what ≠ 0)) || p1.volatile) || p1.final)), (121, u232), (120, u233), (119, .bool ((decide (p1.what ≠ 0)) || p1.volatile)), (118, .bool ((decide (p1.what ≠ 0)) || p1.volatile)), (117, u227), (116, u228), (115, .bool (decide (p1.what ≠ 0))), (114, .bool (decide (p1.what ≠ 0))), (113, .int .i64 p1.what), (112, .pointer (some ⟨b10, 6, none⟩))] _ ⟨.bool (((decide (p1.what ≠ 0)) || p1.volatile) || p1.final), u232, u233, .bool ((decide (p1.what ≠ 0)) || p1.volatile), .bool ((decide (p1.what ≠ 0)) || p1.volatile), u227, u228, .bool (decide (p1.what ≠ 0)), .bool (decide (p1.what ≠ 0)), .int .i64 p1.what, .pointer (some ⟨b10, 6, none⟩), Z, (by rw [g226, Bool.true_and])⟩
            ·intro kk
             refine bcase (b := (decide (p1.what ≠ 0)) || p1.volatile) (fun g237 => ?_) (fun g237 => ?_)
             ·skip
              refine U.x Z Z Z Z ((L 0 Z Z).trans (cB g237)) (by decide) ?_
              refine U.x Z Z Z Z ((L 1 Z Z).trans (cB g237)) (by decide) ?_
              refine U.p Z Z (.inr ⟨_, _, _, Z, Z, ((L 10 Z Z).trans (cB g226))⟩) (S.pickT Z ((L 2 Z Z).trans (cB g237)) K) ?_
              exact kk [(122, .bool true), (121, .tuple #[]), (120, .tuple #[])] _ ⟨.tuple #[], .tuple #[], Z, (by rw [g237, Bool.true_or])⟩
             ·skip
              refine U.p (v := .pointer (some ⟨b10, 8, none⟩)) Z Z (.inr ⟨_, _, _, Z, Z, ((L 0 Z Z).trans (cB g237))⟩) (S.fieldAddr Z (L 19 Z Z) Try.underlying29 Z ti4 Z Z) ?_
              refine U.k Z Z (.inr ⟨_, _, _, Z, Z, ((L 1 Z Z).trans (cB g237))⟩) (S.load Z (L 0 Z Z) Try.underlying4 Z ((ow98.own (k := 1) Z).cell Z)) nd ?_
              refine U.p Z Z (.inr ⟨_, _, _, Z, Z, ((L 10 Z Z).trans (cB g226))⟩) (S.pickF Z ((L 2 Z Z).trans (cB g237)) (L 0 Z Z)) ?_
              exact kk [(122, .bool p1.final), (121, .bool p1.final), (120, .pointer (some ⟨b10, 8, none⟩))] _ ⟨.bool p1.final, .pointer (some ⟨b10, 8, none⟩), Z, (by rw [g237, Bool.false_or])⟩
           ·intro kk
            refine bcase (b := decide (p1.what ≠ 0)) (fun g238 => ?_) (fun g238 => ?_)
            ·skip
             refine U.x Z Z Z Z ((L 0 Z Z).trans (cB g238)) (by decide) ?_
             refine U.x Z Z Z Z ((L 1 Z Z).trans (cB g238)) (by decide) ?_
             refine U.p Z Z (.inr ⟨_, _, _, Z, Z, ((L 6 Z Z).trans (cB g226))⟩) (S.pickT Z ((L 2 Z Z).trans (cB g238)) K) ?_
             exact kk [(118, .bool true), (117, .tuple #[]), (116, .tuple #[])] _ ⟨.tuple #[], .tuple #[], Z, (by rw [g238, Bool.true_or])⟩
            ·skip
             refine U.p (v := .pointer (some ⟨b10, 7, none⟩)) Z Z (.inr ⟨_, _, _, Z, Z, ((L 0 Z Z).trans (cB g238))⟩) (S.fieldAddr Z (L 15 Z Z) Try.underlying29 Z ti4 Z Z) ?_
             refine U.k Z Z (.inr ⟨_, _, _, Z, Z, ((L 1 Z Z).trans (cB g238))⟩) (S.load Z (L 0 Z Z) Try.underlying4 Z ((ow98.own (k := 1) Z).cell Z)) nd ?_
             refine U.p Z Z (.inr ⟨_, _, _, Z, Z, ((L 6 Z Z).trans (cB g226))⟩) (S.pickF Z ((L 2 Z Z).trans (cB g238)) (L 0 Z Z)) ?_
             exact kk [(118, .bool p1.volatile), (117, .bool p1.volatile), (116, .pointer (some ⟨b10, 7, none⟩))] _ ⟨.bool p1.volatile, .pointer (some ⟨b10, 7, none⟩), Z, (by rw [g238, Bool.false_or])⟩
          ·skip
           refine U.x Z Z Z Z ((L 0 Z Z).trans (cB g226)) (by decide) ?_
           refine U.x Z Z Z Z ((L 1 Z Z).trans (cB g226)) (by decide) ?_
           refine U.x Z Z Z Z ((L 2 Z Z).trans (cB g226)) (by decide) ?_
           refine U.x Z Z Z Z ((L 3 Z Z).trans (cB g226)) (by decide) ?_
           refine U.z Z Z Z Z (L 0 Z Z) ?_
           refine U.z Z Z Z Z (L 1 Z Z) ?_
           refine U.x Z Z Z Z ((L 6 Z Z).trans (cB g226)) (by decide) ?_
           refine U.x Z Z Z Z ((L 7 Z Z).trans (cB g226)) (by decide) ?_
           refine U.z Z Z Z Z (L 0 Z Z) ?_
           refine U.z Z Z Z Z (L 1 Z Z) ?_
           refine U.x Z Z Z Z ((L 10 Z Z).trans (cB g226)) (by decide) ?_
           refine U.p Z Z (.inl Z) (S.pickF Z ((L 11 Z Z).trans (cB g226)) K) ?_
           exact kk [(123, .bool false), (122, .tuple #[]), (121, .tuple #[]), (120, .tuple #[]), (119, .tuple #[]), (118, .tuple #[]), (117, .tuple #[]), (116, .tuple #[]), (115, .tuple #[]), (114, .tuple #[]), (113, .tuple #[]), (112, .tuple #[])] _ ⟨.tuple #[], .tuple #[], .tuple #[], .tuple #[], .tuple #[], .tuple #[], .tuple #[], .tuple #[], .tuple #[], .tuple #[], .tuple #[], Z, (by rw [g226, Bool.false_and])⟩
        ·intro kk
         refine bcase (b := decide (p1.op ≠ 9)) (fun g239 => ?_) (fun g239 => ?_)
         ·skip
          refine U.p (v := .pointer (some ⟨b10, 0, none⟩)) Z Z (.inr ⟨_, _, _, Z, Z, ((L 0 Z Z).trans (cB g239))⟩) (S.fieldAddr Z (L 6 Z Z) Try.underlying29 Z ti3 Z Z) ?_
          refine U.k Z Z (.inr ⟨_, _, _, Z, Z, ((L 1 Z Z).trans (cB g239))⟩) (S.load Z (L 0 Z Z) Try.underlying3 Z ((ow98.own (k := 1) Z).cell Z)) nd ?_
          refine U.p Z Z (.inr ⟨_, _, _, Z, Z, ((L 2 Z Z).trans (cB g239))⟩) (S.neqI Z (L 0 Z Z) K) ?_
          refine U.p Z Z (.inl Z) (S.pickT Z ((L 3 Z Z).trans (cB g239)) (L 0 Z Z)) ?_
          exact kk [(110, .bool (decide (p1.op ≠ 10))), (109, .bool (decide (p1.op ≠ 10))), (108, .int .i64 p1.op), (107, .pointer (some ⟨b10, 0, none⟩))] _ ⟨.bool (decide (p1.op ≠ 10)), .int .i64 p1.op, .pointer (some ⟨b10, 0, none⟩), Z, (by rw [g239, Bool.true_and])⟩
         ·skip
          refine U.x Z Z Z Z ((L 0 Z Z).trans (cB g239)) (by decide) ?_
          refine U.x Z Z Z Z ((L 1 Z Z).trans (cB g239)) (by decide) ?_
          refine U.x Z Z Z Z ((L 2 Z Z).trans (cB g239)) (by decide) ?_
          refine U.p Z Z (.inl Z) (S.pickF Z ((L 3 Z Z).trans (cB g239)) K) ?_
          exact kk [(110, .bool false), (109, .tuple #[]), (108, .tuple #[]), (107, .tuple #[])] _ ⟨.tuple #[], .tuple #[], .tuple #[], Z, (by rw [g239, Bool.false_and])⟩
     ·intro kk
      refine bcase (b := y48) (fun g240 => ?_) (fun g240 => ?_)
      ·have h241 := ifT g240 hy75
       refine U.x Z Z Z Z ((L 0 Z Z).trans (cB g240)) (by decide) ?_
       refine U.x Z Z Z Z ((L 1 Z Z).trans (cB g240)) (by decide) ?_
       refine U.x Z Z Z Z ((L 2 Z Z).trans (cB g240)) (by decide) ?_
       refine U.x Z Z Z Z ((L 3 Z Z).trans (cB g240)) (by decide) ?_
       refine U.x Z Z Z Z ((L 4 Z Z).trans (cB g240)) (by decide) ?_
       refine U.x Z Z Z Z ((L 5 Z Z).trans (cB g240)) (by decide) ?_
       refine U.x Z Z Z Z ((L 6 Z Z).trans (cB g240)) (by decide) ?_
       refine U.p Z Z (.inl Z) (S.pickT Z ((L 7 Z Z).trans (cB g240)) K) ?_
       have e242 := Option.some.inj h241
       subst e242
       exact kk [(81, .bool true), (80, .tuple #[]), (79, .tuple #[]), (78, .tuple #[]), (77, .tuple #[]), (76, .tuple #[]), (75, .tuple #[]), (74, .tuple #[])] _ ⟨.tuple #[], .tuple #[], .tuple #[], .tuple #[], .tuple #[], .tuple #[], .tuple #[], V71, Z, (.refl _), Z, ow73⟩
      ·have h243 := ifF g240 hy75
       refine U.p Z Z (.inr ⟨_, _, _, Z, Z, ((L 0 Z Z).trans (cB g240))⟩) (S.move Z (L 37 Z Z)) ?_
       refine U.p (v := .pointer (some ⟨b10, 3, none⟩)) Z Z (.inr ⟨_, _, _, Z, Z, ((L 1 Z Z).trans (cB g240))⟩) (S.fieldAddr Z (L 35 Z Z) Try.underlying29 Z ti3 Z Z) ?_
       refine U.k Z Z (.inr ⟨_, _, _, Z, Z, ((L 2 Z Z).trans (cB g240))⟩) (S.load Z (L 0 Z Z) Try.underlying3 Z ((ow73.own (k := 1) Z).cell Z)) nd ?_
       refine U.p (v := .pointer (some ⟨b5, 2, none⟩)) Z Z (.inr ⟨_, _, _, Z, Z, ((L 3 Z Z).trans (cB g240))⟩) (S.fieldAddr Z (L 36 Z Z) Try.underlying24 Z ti3 Z Z) ?_
       refine U.k Z Z (.inr ⟨_, _, _, Z, Z, ((L 4 Z Z).trans (cB g240))⟩) (S.load Z (L 0 Z Z) Try.underlying3 Z ((ow73.own (k := 0) Z).cell Z)) nd ?_
       obtain ⟨x244, hx245, h246⟩ := bindS h243
       refine O.call (V := V71) Z Z (.inr ⟨_, _, _, Z, Z, ((L 5 Z Z).trans (cB g240))⟩) Z en25 (aC (L 4 Z Z) (aC K (aC (L 2 Z Z) (aC (L 0 Z Z) aN)))) (wk_ref08_register V71 _ x27.2.2.1 false p1.b p0.regs ow73 _ hx245) (fun _ _ _ _ => nd) (fun v247 V248 le249 hp250 => ?_)
       obtain ⟨rfl, ow251⟩ := hp250
       refine U.p Z Z (.inr ⟨_, _, _, Z, Z, ((L 6 Z Z).trans (cB g240))⟩) (S.not Z (L 0 Z Z)) ?_
       refine U.p Z Z (.inl Z) (S.pickF Z ((L 7 Z Z).trans (cB g240)) (L 0 Z Z)) ?_
       have e252 := Option.some.inj h246
       subst e252
       exact kk [(81, .bool (!x244)), (80, .bool (!x244)), (79, .bool x244), (78, .int .i64 p0.regs), (77, .pointer (some ⟨b5, 2, none⟩)), (76, .int .i64 p1.b), (75, .pointer (some ⟨b10, 3, none⟩)), (74, .bool x27.2.2.1)] _ ⟨.bool (!x244), .bool x244, .int .i64 p0.regs, .pointer (some ⟨b5, 2, none⟩), .int .i64 p1.b, .pointer (some ⟨b10, 3, none⟩), .bool x27.2.2.1, V248, Z, le249, Z, ow251⟩
    ·intro kk
     refine bcase (b := !x40) (fun g253 => ?_) (fun g253 => ?_)
     ·have h254 := ifT g253 hy49
      have k255 : x40 = false := nT g253
      refine U.x Z Z Z Z ((L 0 Z Z).trans (cB g253)) (by decide) ?_
      refine U.x Z Z Z Z ((L 1 Z Z).trans (cB g253)) (by decide) ?_
      refine U.x Z Z Z Z ((L 2 Z Z).trans (cB g253)) (by decide) ?_
      refine U.x Z Z Z Z ((L 3 Z Z).trans (cB g253)) (by decide) ?_
      refine U.x Z Z Z Z ((L 4 Z Z).trans (cB g253)) (by decide) ?_
      refine U.z Z Z Z Z (L 0 Z Z) ?_
      refine U.z Z Z Z Z (L 1 Z Z) ?_
      refine U.z Z Z Z Z (L 2 Z Z) ?_
      refine U.x Z Z Z Z ((L 8 Z Z).trans (cB g253)) (by decide) ?_
      refine U.x Z Z Z Z ((L 9 Z Z).trans (cB g253)) (by decide) ?_
      refine U.z Z Z Z Z (L 0 Z Z) ?_
      refine U.z Z Z Z Z (L 1 Z Z) ?_
      refine U.z Z Z Z Z (L 2 Z Z) ?_
      refine U.x Z Z Z Z ((L 13 Z Z).trans (cB g253)) (by decide) ?_
      refine U.x Z Z Z Z ((L 14 Z Z).trans (cB g253)) (by decide) ?_
      refine U.x Z Z Z Z ((L 15 Z Z).trans (cB g253)) (by decide) ?_
      refine U.x Z Z Z Z ((L 16 Z Z).trans (cB g253)) (by decide) ?_
      refine U.x Z Z Z Z ((L 17 Z Z).trans (cB g253)) (by decide) ?_
      refine U.x Z Z Z Z ((L 18 Z Z).trans (cB g253)) (by decide) ?_
      refine U.x Z Z Z Z ((L 19 Z Z).trans (cB g253)) (by decide) ?_
      refine U.p Z Z (.inl Z) (S.pickT Z ((L 20 Z Z).trans (cB g253)) K) ?_
      have e256 := Option.some.inj h254
      subst e256
      exact kk [(72, .bool true), (71, .tuple #[]), (70, .tuple #[]), (69, .tuple #[]), (68, .tuple #[]), (67, .tuple #[]), (66, .tuple #[]), (65, .tuple #[]), (64, .tuple #[]), (63, .tuple #[]), (62, .tuple #[]), (61, .tuple #[]), (60, .tuple #[]), (59, .tuple #[]), (58, .tuple #[]), (57, .tuple #[]), (56, .tuple #[]), (55, .tuple #[]), (54, .tuple #[]), (53, .tuple #[]), (52, .tuple #[])] _ ⟨.tuple #[], .tuple #[], .tuple #[], .tuple #[], .tuple #[], .tuple #[], .tuple #[], .tuple #[], .tuple #[], .tuple #[], .tuple #[], .tuple #[], .tuple #[], .tuple #[], .tuple #[], .tuple #[], .tuple #[], .tuple #[], .tuple #[], .tuple #[], V44, Z, (.refl _), Z, ow47⟩
     ·have h257 := ifF g253 hy49
      have k258 : x40 = true := nF g253
      refine U.p Z Z (.inr ⟨_, _, _, Z, Z, ((L 0 Z Z).trans (cB g253))⟩) (S.move Z (L 14 Z Z)) ?_
      refine U.p (v := .pointer (some ⟨b10, 0, none⟩)) Z Z (.inr ⟨_, _, _, Z, Z, ((L 1 Z Z).trans (cB g253))⟩) (S.fieldAddr Z (L 13 Z Z) Try.underlying29 Z ti3 Z Z) ?_
      refine U.k Z Z (.inr ⟨_, _, _, Z, Z, ((L 2 Z Z).trans (cB g253))⟩) (S.load Z (L 0 Z Z) Try.underlying3 Z ((ow47.own (k := 1) Z).cell Z)) nd ?_
      refine U.p Z Z (.inr ⟨_, _, _, Z, Z, ((L 3 Z Z).trans (cB g253))⟩) (S.eqlI Z (L 0 Z Z) K) ?_
      refine U.p Z Z (.inr ⟨_, _, _, Z, Z, ((L 4 Z Z).trans (cB g253))⟩) (S.move Z (L 0 Z Z)) ?_
      refine U.joinX 20 (fun e H => ∃ (u259 u260 u261 : Value), H = V44.H ∧ e = [(60, .bool ((decide (p1.op = 9)) || (decide (p1.op = 10)))), (59, u259), (58, u260), (57, u261)]) ?_ ?_
      ·rintro _ _ ⟨u259, u260, u261, rfl, rfl⟩
       refine U.p Z Z (.inr ⟨_, _, _, Z, Z, ((L 9 Z Z).trans (cB g253))⟩) (S.move Z (L 0 Z Z)) ?_
       refine U.joinX 25 (fun e H => ∃ (u265 u266 u267 : Value), H = V44.H ∧ e = [(65, .bool (((decide (p1.op = 9)) || (decide (p1.op = 10))) || (decide (p1.op = 15)))), (64, u265), (63, u266), (62, u267)]) ?_ ?_
       ·rintro _ _ ⟨u265, u266, u267, rfl, rfl⟩
        refine U.p (v := .pointer (some ⟨b10, 2, none⟩)) Z Z (.inr ⟨_, _, _, Z, Z, ((L 14 Z Z).trans (cB g253))⟩) (S.fieldAddr Z (L 26 Z Z) Try.underlying29 Z ti3 Z Z) ?_
        refine U.k Z Z (.inr ⟨_, _, _, Z, Z, ((L 15 Z Z).trans (cB g253))⟩) (S.load Z (L 0 Z Z) Try.underlying3 Z ((ow47.own (k := 1) Z).cell Z)) nd ?_
        refine U.p (v := .pointer (some ⟨b5, 2, none⟩)) Z Z (.inr ⟨_, _, _, Z, Z, ((L 16 Z Z).trans (cB g253))⟩) (S.fieldAddr Z (L 27 Z Z) Try.underlying24 Z ti3 Z Z) ?_
        refine U.k Z Z (.inr ⟨_, _, _, Z, Z, ((L 17 Z Z).trans (cB g253))⟩) (S.load Z (L 0 Z Z) Try.underlying3 Z ((ow47.own (k := 0) Z).cell Z)) nd ?_
        obtain ⟨x271, hx272, h273⟩ := bindS h257
        refine O.call (V := V44) Z Z (.inr ⟨_, _, _, Z, Z, ((L 18 Z Z).trans (cB g253))⟩) Z en25 (aC (L 17 Z Z) (aC (L 4 Z Z) (aC (L 2 Z Z) (aC (L 0 Z Z) aN)))) (wk_ref08_register V44 _ x35 (((decide (p1.op = 9)) || (decide (p1.op = 10))) || (decide (p1.op = 15))) p1.a p0.regs ow47 _ hx272) (fun _ _ _ _ => nd) (fun v274 V275 le276 hp277 => ?_)
        obtain ⟨rfl, ow278⟩ := hp277
        refine U.p Z Z (.inr ⟨_, _, _, Z, Z, ((L 19 Z Z).trans (cB g253))⟩) (S.not Z (L 0 Z Z)) ?_
        refine U.p Z Z (.inl Z) (S.pickF Z ((L 20 Z Z).trans (cB g253)) (L 0 Z Z)) ?_
        have e279 := Option.some.inj h273
        subst e279
        exact kk [(72, .bool (!x271)), (71, .bool (!x271)), (70, .bool x271), (69, .int .i64 p0.regs), (68, .pointer (some ⟨b5, 2, none⟩)), (67, .int .i64 p1.a), (66, .pointer (some ⟨b10, 2, none⟩)), (65, .bool (((decide (p1.op = 9)) || (decide (p1.op = 10))) || (decide (p1.op = 15)))), (64, u265), (63, u266), (62, u267), (61, .bool ((decide (p1.op = 9)) || (decide (p1.op = 10)))), (60, .bool ((decide (p1.op = 9)) || (decide (p1.op = 10)))), (59, u259), (58, u260), (57, u261), (56, .bool (decide (p1.op = 9))), (55, .bool (decide (p1.op = 9))), (54, .int .i64 p1.op), (53, .pointer (some ⟨b10, 0, none⟩)), (52, .bool x35)] _ ⟨.bool (!x271), .bool x271, .int .i64 p0.regs, .pointer (some ⟨b5, 2, none⟩), .int .i64 p1.a, .pointer (some ⟨b10, 2, none⟩), .bool (((decide (p1.op = 9)) || (decide (p1.op = 10))) || (decide (p1.op = 15))), u265, u266, u267, .bool ((decide (p1.op = 9)) || (decide (p1.op = 10))), .bool ((decide (p1.op = 9)) || (decide (p1.op = 10))), u259, u260, u261, .bool (decide (p1.op = 9)), .bool (decide (p1.op = 9)), .int .i64 p1.op, .pointer (some ⟨b10, 0, none⟩), .bool x35, V275, Z, le276, Z, ow278⟩
       ·intro kk
        refine bcase (b := (decide (p1.op = 9)) || (decide (p1.op = 10))) (fun g280 => ?_) (fun g280 => ?_)
        ·skip
         refine U.x Z Z Z Z ((L 0 Z Z).trans (cB g280)) (by decide) ?_
         refine U.x Z Z Z Z ((L 1 Z Z).trans (cB g280)) (by decide) ?_
         refine U.x Z Z Z Z ((L 2 Z Z).trans (cB g280)) (by decide) ?_
         refine U.p Z Z (.inr ⟨_, _, _, Z, Z, ((L 13 Z Z).trans (cB g253))⟩) (S.pickT Z ((L 3 Z Z).trans (cB g280)) K) ?_
         exact kk [(65, .bool true), (64, .tuple #[]), (63, .tuple #[]), (62, .tuple #[])] _ ⟨.tuple #[], .tuple #[], .tuple #[], Z, (by rw [g280, Bool.true_or])⟩
        ·skip
         refine U.p (v := .pointer (some ⟨b10, 0, none⟩)) Z Z (.inr ⟨_, _, _, Z, Z, ((L 0 Z Z).trans (cB g280))⟩) (S.fieldAddr Z (L 22 Z Z) Try.underlying29 Z ti3 Z Z) ?_
         refine U.k Z Z (.inr ⟨_, _, _, Z, Z, ((L 1 Z Z).trans (cB g280))⟩) (S.load Z (L 0 Z Z) Try.underlying3 Z ((ow47.own (k := 1) Z).cell Z)) nd ?_
         refine U.p Z Z (.inr ⟨_, _, _, Z, Z, ((L 2 Z Z).trans (cB g280))⟩) (S.eqlI Z (L 0 Z Z) K) ?_
         refine U.p Z Z (.inr ⟨_, _, _, Z, Z, ((L 13 Z Z).trans (cB g253))⟩) (S.pickF Z ((L 3 Z Z).trans (cB g280)) (L 0 Z Z)) ?_
         exact kk [(65, .bool (decide (p1.op = 15))), (64, .bool (decide (p1.op = 15))), (63, .int .i64 p1.op), (62, .pointer (some ⟨b10, 0, none⟩))] _ ⟨.bool (decide (p1.op = 15)), .int .i64 p1.op, .pointer (some ⟨b10, 0, none⟩), Z, (by rw [g280, Bool.false_or])⟩
      ·intro kk
       refine bcase (b := decide (p1.op = 9)) (fun g281 => ?_) (fun g281 => ?_)
       ·skip
        refine U.x Z Z Z Z ((L 0 Z Z).trans (cB g281)) (by decide) ?_
        refine U.x Z Z Z Z ((L 1 Z Z).trans (cB g281)) (by decide) ?_
        refine U.x Z Z Z Z ((L 2 Z Z).trans (cB g281)) (by decide) ?_
        refine U.p Z Z (.inr ⟨_, _, _, Z, Z, ((L 8 Z Z).trans (cB g253))⟩) (S.pickT Z ((L 3 Z Z).trans (cB g281)) K) ?_
        exact kk [(60, .bool true), (59, .tuple #[]), (58, .tuple #[]), (57, .tuple #[])] _ ⟨.tuple #[], .tuple #[], .tuple #[], Z, (by rw [g281, Bool.true_or])⟩
       ·skip
        refine U.p (v := .pointer (some ⟨b10, 0, none⟩)) Z Z (.inr ⟨_, _, _, Z, Z, ((L 0 Z Z).trans (cB g281))⟩) (S.fieldAddr Z (L 17 Z Z) Try.underlying29 Z ti3 Z Z) ?_
        refine U.k Z Z (.inr ⟨_, _, _, Z, Z, ((L 1 Z Z).trans (cB g281))⟩) (S.load Z (L 0 Z Z) Try.underlying3 Z ((ow47.own (k := 1) Z).cell Z)) nd ?_
        refine U.p Z Z (.inr ⟨_, _, _, Z, Z, ((L 2 Z Z).trans (cB g281))⟩) (S.eqlI Z (L 0 Z Z) K) ?_
        refine U.p Z Z (.inr ⟨_, _, _, Z, Z, ((L 8 Z Z).trans (cB g253))⟩) (S.pickF Z ((L 3 Z Z).trans (cB g281)) (L 0 Z Z)) ?_
        exact kk [(60, .bool (decide (p1.op = 10))), (59, .bool (decide (p1.op = 10))), (58, .int .i64 p1.op), (57, .pointer (some ⟨b10, 0, none⟩))] _ ⟨.bool (decide (p1.op = 10)), .int .i64 p1.op, .pointer (some ⟨b10, 0, none⟩), Z, (by rw [g281, Bool.false_or])⟩
   ·skip
    refine WP.usreg Z ?_
    refine U.p (v := .pointer (some ⟨b10, 0, none⟩)) Z Z (.inl Z) (S.fieldAddr Z (L 21 Z Z) Try.underlying29 Z ti3 Z Z) ?_
    refine U.k Z Z (.inl Z) (S.load Z (L 0 Z Z) Try.underlying3 Z ((ow34.own (k := 0) Z).cell Z)) nd ?_
    refine U.p Z Z (.inl Z) (S.eqlI Z (L 0 Z Z) K) ?_
    refine U.done (nr Z) ?_
    refine WP.cond _ (L 0 Z Z) Z (fun c282 => ?_) (fun c282 => ?_)
    ·have h283 := ifT c282 h29
     refine WP.seq ?_
     refine WP.usreg Z ?_
     refine U.p (v := .pointer (some ⟨b10, 4, none⟩)) Z Z (.inl Z) (S.fieldAddr Z (L 24 Z Z) Try.underlying29 Z ti3 Z Z) ?_
     refine U.k Z Z (.inl Z) (S.load Z (L 0 Z Z) Try.underlying3 Z ((ow34.own (k := 0) Z).cell Z)) nd ?_
     refine U.p Z Z (.inl Z) (S.lss Z (L 0 Z Z) K) ?_
     refine U.p Z Z (.inl Z) (S.move Z (L 0 Z Z)) ?_
     refine U.joinX 8 (fun e H => ∃ (u284 u285 u286 : Value), H = V31.H ∧ e = [(37, .bool ((decide (p1.imm < 1)) || (decide (3 < p1.imm)))), (36, u284), (35, u285), (34, u286)]) ?_ ?_
     ·rintro _ _ ⟨u284, u285, u286, rfl, rfl⟩
      refine U.done (nr Z) ?_
      refine WP.cond _ (L 0 Z Z) Z (fun c290 => ?_) (fun c290 => ?_)
      ·have h291 := ifT c290 h283
       refine WP.usreg Z ?_
       refine U.p Z Z (.inl Z) (S.assign Z K) ?_
       refine U.done (nr Z) ?_
       refine WP.ret ?_
       refine sqR (sqR ?_)
       refine fin.slot (.inr Z) Z (L 0 Z Z) ⟨V31, Z, ((le7.trans le12).trans le32), ?_⟩
       have ow292 := ow34.drop 0 Z
       have ow293 := ow292.drop 0 Z
       have e294 := Option.some.inj h291
       subst e294
       exact ⟨rfl, ow293⟩
      ·have h295 := ifF c290 h283
       refine WP.skip ?_
       refine sqN ?_
       refine WP.ureg Z ?_
       refine U.p (v := .pointer (some ⟨b10, 4, none⟩)) Z Z (.inl Z) (S.fieldAddr Z (L 32 Z Z) Try.underlying29 Z ti3 Z Z) ?_
       refine U.k Z Z (.inl Z) (S.load Z (L 0 Z Z) Try.underlying3 Z ((ow34.own (k := 0) Z).cell Z)) nd ?_
       refine U.p Z Z (.inl Z) (S.eqlI Z (L 0 Z Z) K) ?_
       refine U.p Z Z (.inl Z) (S.assign Z (L 0 Z Z)) ?_
       refine U.done (nr Z) ?_
       refine sqN ?_
       have ow296 := ow34.pick 0 Z
       have ow297 := ow296.pick 1 Z
       exact ⟨_, V31, Z, ⟨decide (p1.imm = 3), Z, (.refl _), ow297, h295⟩, (allCons (L 37 Z Z) (allCons (L 36 Z Z) (allCons (L 18 Z Z) (allCons (L 0 Z Z) (allCons (L 16 Z Z) (allCons (L 15 Z Z) allNil))))))⟩
     ·intro kk
      refine bcase (b := decide (p1.imm < 1)) (fun g298 => ?_) (fun g298 => ?_)
      ·skip
       refine U.x Z Z Z Z ((L 0 Z Z).trans (cB g298)) (by decide) ?_
       refine U.x Z Z Z Z ((L 1 Z Z).trans (cB g298)) (by decide) ?_
       refine U.x Z Z Z Z ((L 2 Z Z).trans (cB g298)) (by decide) ?_
       refine U.p Z Z (.inl Z) (S.pickT Z ((L 3 Z Z).trans (cB g298)) K) ?_
       exact kk [(37, .bool true), (36, .tuple #[]), (35, .tuple #[]), (34, .tuple #[])] _ ⟨.tuple #[], .tuple #[], .tuple #[], Z, (by rw [g298, Bool.true_or])⟩
      ·skip
       refine U.p (v := .pointer (some ⟨b10, 4, none⟩)) Z Z (.inr ⟨_, _, _, Z, Z, ((L 0 Z Z).trans (cB g298))⟩) (S.fieldAddr Z (L 28 Z Z) Try.underlying29 Z ti3 Z Z) ?_
       refine U.k Z Z (.inr ⟨_, _, _, Z, Z, ((L 1 Z Z).trans (cB g298))⟩) (S.load Z (L 0 Z Z) Try.underlying3 Z ((ow34.own (k := 0) Z).cell Z)) nd ?_
       refine U.p Z Z (.inr ⟨_, _, _, Z, Z, ((L 2 Z Z).trans (cB g298))⟩) (S.gtr Z (L 0 Z Z) K) ?_
       refine U.p Z Z (.inl Z) (S.pickF Z ((L 3 Z Z).trans (cB g298)) (L 0 Z Z)) ?_
       exact kk [(37, .bool (decide (3 < p1.imm))), (36, .bool (decide (3 < p1.imm))), (35, .int .i64 p1.imm), (34, .pointer (some ⟨b10, 4, none⟩))] _ ⟨.bool (decide (3 < p1.imm)), .int .i64 p1.imm, .pointer (some ⟨b10, 4, none⟩), Z, (by rw [g298, Bool.false_or])⟩
    ·have h299 := ifF c282 h29
     refine WP.skip ?_
     refine sqN ?_
     have ow300 := ow34.pick 0 Z
     have ow301 := ow300.pick 1 Z
     exact ⟨_, V31, Z, ⟨x27.2.1, Z, (.refl _), ow301, h299⟩, (allCons (L 25 Z Z) (allCons (L 24 Z Z) (allCons (L 6 Z Z) (allCons (L 5 Z Z) (allCons (L 4 Z Z) (allCons (L 3 Z Z) allNil))))))⟩
 ·intro kk
  refine bcase (b := decide (p1.op < 1)) (fun g302 => ?_) (fun g302 => ?_)
  ·skip
   refine U.x Z Z Z Z ((L 0 Z Z).trans (cB g302)) (by decide) ?_
   refine U.x Z Z Z Z ((L 1 Z Z).trans (cB g302)) (by decide) ?_
   refine U.x Z Z Z Z ((L 2 Z Z).trans (cB g302)) (by decide) ?_
   refine U.p Z Z (.inl Z) (S.pickT Z ((L 3 Z Z).trans (cB g302)) K) ?_
   exact kk [(18, .bool true), (17, .tuple #[]), (16, .tuple #[]), (15, .tuple #[])] _ ⟨.tuple #[], .tuple #[], .tuple #[], Z, (by rw [g302, Bool.true_or])⟩
  ·skip
   refine U.p (v := .pointer (some ⟨b10, 0, none⟩)) Z Z (.inr ⟨_, _, _, Z, Z, ((L 0 Z Z).trans (cB g302))⟩) (S.fieldAddr Z (L 5 Z Z) Try.underlying29 Z ti3 Z Z) ?_
   refine U.k Z Z (.inr ⟨_, _, _, Z, Z, ((L 1 Z Z).trans (cB g302))⟩) (S.load Z (L 0 Z Z) Try.underlying3 Z ((ow13.own (k := 0) Z).cell Z)) nd ?_
   refine U.p Z Z (.inr ⟨_, _, _, Z, Z, ((L 2 Z Z).trans (cB g302))⟩) (S.gtr Z (L 0 Z Z) K) ?_
   refine U.p Z Z (.inl Z) (S.pickF Z ((L 3 Z Z).trans (cB g302)) (L 0 Z Z)) ?_
   exact kk [(18, .bool (decide (22 < p1.op))), (17, .bool (decide (22 < p1.op))), (16, .int .i64 p1.op), (15, .pointer (some ⟨b10, 0, none⟩))] _ ⟨.bool (decide (22 < p1.op)), .int .i64 p1.op, .pointer (some ⟨b10, 0, none⟩), Z, (by rw [g302, Bool.false_or])⟩
theorem wk_ref08_Good (V : Vw) (Rs : List At) (p0 : TFunc) (v1 : Value) (f2 : Fz RT_TIns V v1 p0.code) (ow : Ow V (Rs)) (r : Bool) (h : ref08_Good p0 = some r) : ∃ v V', Cl Try.prog 0 7 #[.agg #[.string p0.name, .int .i64 p0.params, .int .i64 p0.regs, v1]] V.H v V'.H ∧ V.le V' ∧ (v = .bool r ∧ Ow V' (Rs)) := by
 refine Ct.of (Nat.zero_le _) Try.func7 Z (nr Z) ?_
 unfold ref08_Good at h
 refine WP.usreg Z ?_
 refine O.box ow Z Z (.inl Z) Z (L 0 Z Z) (by simp [topV]) Z nd (fun b3 V4 le5 ow6 => ?_)
 refine U.p Z Z (.inl Z) (S.assign Z K) ?_
 refine U.done (nr Z) ?_
 refine WP.usreg Z ?_
 refine U.p (v := .pointer (some ⟨b3, 3, none⟩)) Z Z (.inl Z) (S.fieldAddr Z (L 1 Z Z) Try.underlying24 Z ti22 Z Z) ?_
 refine U.k Z Z (.inl Z) (S.load Z (L 0 Z Z) Try.underlying22 Z ((ow6.own (k := 0) Z).cell Z)) nd ?_
 refine U.p Z Z (.inl Z) (f2.1.len Z (L 0 Z Z) Try.underlying22) ?_
 refine U.p Z Z (.inl Z) (S.assign Z (L 0 Z Z)) ?_
 refine U.done (nr Z) ?_
 refine WP.seq ?_
 refine WP.usreg Z ?_
 refine U.p Z Z (.inl Z) (S.move Z (L 0 Z Z)) ?_
 refine U.p Z Z (.inl Z) (S.eqlI Z (L 0 Z Z) K) ?_
 refine U.p Z Z (.inl Z) (S.move Z (L 0 Z Z)) ?_
 refine U.joinX 7 (fun e H => ∃ (u8 u9 u10 : Value), H = V4.H ∧ e = [(16, .bool ((decide ((p0.code.length : Int) = 0)) || (decide (p0.params < 0)))), (15, u8), (14, u9), (13, u10)]) ?_ ?_
 ·rintro _ _ ⟨u8, u9, u10, rfl, rfl⟩
  refine U.p Z Z (.inl Z) (S.move Z (L 0 Z Z)) ?_
  refine U.joinX 14 (fun e H => ∃ (u14 u15 u16 u17 u18 : Value), H = V4.H ∧ e = [(23, .bool (((decide ((p0.code.length : Int) = 0)) || (decide (p0.params < 0))) || (decide (p0.regs < p0.params)))), (22, u14), (21, u15), (20, u16), (19, u17), (18, u18)]) ?_ ?_
  ·rintro _ _ ⟨u14, u15, u16, u17, u18, rfl, rfl⟩
   refine U.done (nr Z) ?_
   refine WP.cond _ (L 0 Z Z) Z (fun c22 => ?_) (fun c22 => ?_)
   ·have h23 := ifT c22 h
    refine WP.usreg Z ?_
    refine U.p Z Z (.inl Z) (S.assign Z K) ?_
    refine U.done (nr Z) ?_
    refine WP.ret ?_
    refine sqR ?_
    refine fin.slot (.inr Z) Z (L 0 Z Z) ⟨V4, Z, le5, ?_⟩
    have ow24 := ow6.drop 0 Z
    have e25 := Option.some.inj h23
    subst e25
    exact ⟨rfl, ow24⟩
   ·have h26 := ifF c22 h
    refine WP.skip ?_
    refine sqN ?_
    refine WP.usreg Z ?_
    refine U.p (v := .pointer (some ⟨b3, 3, none⟩)) Z Z (.inl Z) (S.fieldAddr Z (L 19 Z Z) Try.underlying24 Z ti22 Z Z) ?_
    refine U.k Z Z (.inl Z) (S.load Z (L 0 Z Z) Try.underlying22 Z ((ow6.own (k := 0) Z).cell Z)) nd ?_
    refine U.p Z Z (.inl Z) (S.move Z (L 16 Z Z)) ?_
    refine U.p Z Z (.inl Z) (S.sub Z (L 0 Z Z) K) ?_
    obtain ⟨x27, hx28, h29⟩ := bindS h26
    obtain ⟨b30, o31, c32, cs33, hv34, hf35, hr36, hc37⟩ := f2.at hx28
    obtain ⟨v38, rfl, f39⟩ := hr36
    refine U.p Z Z (.inl Z) (S.index Z ((L 2 Z Z).trans hv34) (L 0 Z Z) Try.underlying22 ti29 (ix_ge hx28) (ix_lt hx28)) ?_
    refine U.p (v := .pointer (some ⟨b30, o31 + Int.toNat (w64 ((p0.code.length : Int) - 1)) * 9, none⟩)) Z Z (.inl Z) (S.fieldAddr Z (L 0 Z Z) Try.underlying29 Z ti3 Z Z) ?_
    refine U.k Z Z (.inl Z) (S.load Z (L 0 Z Z) Try.underlying3 Z (le5.cell hf35 (hc37 0 _ Z))) nd ?_
    refine U.p Z Z (.inl Z) (S.assign Z (L 0 Z Z)) ?_
    refine U.done (nr Z) ?_
    refine WP.seq ?_
    refine WP.usreg Z ?_
    refine U.p Z Z (.inl Z) (S.move Z (L 0 Z Z)) ?_
    refine U.p Z Z (.inl Z) (S.neqI Z (L 0 Z Z) K) ?_
    refine U.p Z Z (.inl Z) (S.move Z (L 0 Z Z)) ?_
    refine U.joinX 6 (fun e H => ∃ (u40 u41 : Value), H = V4.H ∧ e = [(36, .bool ((decide (x27.op ≠ 12)) && (decide (x27.op ≠ 15)))), (35, u40), (34, u41)]) ?_ ?_
    ·rintro _ _ ⟨u40, u41, rfl, rfl⟩
     refine U.p Z Z (.inl Z) (S.move Z (L 0 Z Z)) ?_
     refine U.joinX 10 (fun e H => ∃ (u45 u46 : Value), H = V4.H ∧ e = [(40, .bool (((decide (x27.op ≠ 12)) && (decide (x27.op ≠ 15))) && (decide (x27.op ≠ 16)))), (39, u45), (38, u46)]) ?_ ?_
     ·rintro _ _ ⟨u45, u46, rfl, rfl⟩
      refine U.done (nr Z) ?_
      refine WP.cond _ (L 0 Z Z) Z (fun c50 => ?_) (fun c50 => ?_)
      ·have h51 := ifT c50 h29
       refine WP.usreg Z ?_
       refine U.p Z Z (.inl Z) (S.assign Z K) ?_
       refine U.done (nr Z) ?_
       refine WP.ret ?_
       refine sqR ?_
       refine fin.slot (.inr Z) Z (L 0 Z Z) ⟨V4, Z, le5, ?_⟩
       have ow52 := ow6.drop 0 Z
       have e53 := Option.some.inj h51
       subst e53
       exact ⟨rfl, ow52⟩
      ·have h54 := ifF c50 h29
       refine WP.skip ?_
       refine sqN ?_
       refine WP.seq ?_
       refine WP.usreg Z ?_
       refine U.p (v := .pointer (some ⟨b3, 3, none⟩)) Z Z (.inl Z) (S.fieldAddr Z (L 37 Z Z) Try.underlying24 Z ti22 Z Z) ?_
       refine U.k Z Z (.inl Z) (S.load Z (L 0 Z Z) Try.underlying22 Z ((ow6.own (k := 0) Z).cell Z)) nd ?_
       refine U.p Z Z (.inl Z) (f2.1.len Z (L 0 Z Z) Try.underlying22) ?_
       refine U.p Z Z (.inl Z) (S.move Z K) ?_
       refine U.done (nr Z) ?_
       refine WP.blk ?_
       unfold ref08_Good_l1 at h54
       obtain ⟨n57, hn56⟩ := loopO_some.1 h54
       refine WP.loopI2 (fun n l V' => ∃ (x55 : Int), l = [(1, .pointer (some ⟨b3, 0, none⟩)), (42, v1), (43, .int .i64 (p0.code.length : Int)), (44, .int .i64 x55)] ∧ V4.le V' ∧ Ow V' (.pt b3 (.cells 0 [.string p0.name, .int .i64 p0.params, .int .i64 p0.regs, v1]) :: Rs) ∧ itO (fun s => ref08_Good_l1b p0 s) n x55 = some r) n57 _ ⟨0, Z, .refl _, ow6, hn56⟩ (allCons (L 41 Z Z) (allCons (L 2 Z Z) (allCons (L 1 Z Z) (allCons (L 0 Z Z) allNil)))) ?_
       rintro _ _ V58 ⟨x55, rfl, le59, ow60, h64⟩
       obtain ⟨m61, q62, rfl, h65, e63⟩ := itS h64
       replace h65 : ref08_Good_l1b p0 x55 = some q62 := h65
       unfold ref08_Good_l1b at h65
       refine WP.usreg Z ?_
       refine U.p Z Z (.inl Z) (S.lss Z (L 3 Z Z) (L 2 Z Z)) ?_
       refine U.done (nr Z) ?_
       refine WP.seq ?_
       refine WP.cond _ (L 0 Z Z) Z (fun c66 => ?_) (fun c66 => ?_)
       ·have h67 := ifT c66 h65
        refine WP.skip ?_
        refine sqN ?_
        refine WP.seq ?_
        refine WP.blk ?_
        refine WP.usreg Z ?_
        obtain ⟨x68, hx69, h70⟩ := bindS h67
        obtain ⟨b71, o72, c73, cs74, hv75, hf76, hr77, hc78⟩ := f2.at hx69
        obtain ⟨v79, rfl, f80⟩ := hr77
        refine U.p Z Z (.inl Z) (S.index Z ((L 2 Z Z).trans hv75) (L 4 Z Z) Try.underlying22 ti29 (ix_ge hx69) (ix_lt hx69)) ?_
        refine U.k Z Z (.inl Z) (S.loadN (cs := [.int .i64 x68.op, .int .i64 x68.d, .int .i64 x68.a, .int .i64 x68.b, .int .i64 x68.imm, v79, .int .i64 x68.what, .bool x68.volatile, .bool x68.final]) Z (L 0 Z Z) Try.underlying29 Z ti29 Z (fun j v hj => (le5.trans le59).cell hf76 (hc78 j v hj))) nd ?_
        refine O.alloc ow60 Z Z (.inl Z) Z ti29 Z Z nd (fun b81 V82 le83 ow84 => ?_)
        refine O.store (k := 0) (cs := [.int .i64 x68.op, .int .i64 x68.d, .int .i64 x68.a, .int .i64 x68.b, .int .i64 x68.imm, v79, .int .i64 x68.what, .bool x68.volatile, .bool x68.final]) (c' := [.int .i64 x68.op, .int .i64 x68.d, .int .i64 x68.a, .int .i64 x68.b, .int .i64 x68.imm, v79, .int .i64 x68.what, .bool x68.volatile, .bool x68.final]) ow84 Z Z Z (.inl Z) Z (L 0 Z Z) (L 1 Z Z) ti29 (by simp [topV]) Z Z (nr Z) (by have q0 := f80.one; simp only [List.all_cons, List.all_nil, q0]; rfl) Z nd (fun V86 le87 ow88 => ?_)
        refine U.done (nr Z) ?_
        refine WP.usreg Z ?_
        refine U.k Z Z (.inl Z) (S.loadB Z (L 4 Z Z) Try.underlying24 Z ti24 (ow88.own (k := 1) Z).get Z) nd ?_
        refine U.k Z Z (.inl Z) (S.loadB Z (L 1 Z Z) Try.underlying29 Z ti29 (ow88.own (k := 0) Z).get Z) nd ?_
        have f89 := f2.up (((le5.trans le59).trans le83).trans le87)
        have f90 := f80.up (((le5.trans le59).trans le83).trans le87)
        obtain ⟨x91, hx92, h93⟩ := bindS h70
        refine O.call (V := V86) Z Z (.inl Z) Z en14 (aC (L 1 Z Z) (aC (L 0 Z Z) aN)) (wk_ref08_ins V86 _ p0 x68 v1 v79 f89 f90 ow88 _ hx92) (fun _ _ _ _ => nd) (fun v94 V95 le96 hp97 => ?_)
        obtain ⟨rfl, ow98⟩ := hp97
        refine U.p Z Z (.inl Z) (S.not Z (L 0 Z Z)) ?_
        refine U.p Z Z (.inl Z) (S.move Z (L 0 Z Z)) ?_
        obtain ⟨y99, hy100, h101⟩ := bindS h93
        refine U.joinX 16 (fun e H => ∃ (u102 u103 u104 u105 u106 u107 u108 u109 u110 u111 : Value), ∃ V' : Vw, H = V'.H ∧ V95.le V' ∧ e = [(63, .bool y99), (62, u102), (61, u103), (60, u104), (59, u105), (58, u106), (57, u107), (56, u108), (55, u109), (54, u110), (53, u111)] ∧ Ow V' (.pt b81 (.cells 9 [.int .i64 x68.op, .int .i64 x68.d, .int .i64 x68.a, .int .i64 x68.b, .int .i64 x68.imm, v79, .int .i64 x68.what, .bool x68.volatile, .bool x68.final]) :: .pt b3 (.cells 0 [.string p0.name, .int .i64 p0.params, .int .i64 p0.regs, v1]) :: Rs)) ?_ ?_
        ·rintro _ _ ⟨u102, u103, u104, u105, u106, u107, u108, u109, u110, u111, V112, rfl, le113, rfl, ow114⟩
         refine U.done (nr Z) ?_
         refine WP.cond _ (L 0 Z Z) Z (fun c115 => ?_) (fun c115 => ?_)
         ·have h116 := ifT c115 h101
          refine WP.usreg Z ?_
          refine U.p Z Z (.inl Z) (S.assign Z K) ?_
          refine U.done (nr Z) ?_
          refine WP.ret ?_
          refine blkR (sqR (sqR (blkR (sqR ?_))))
          have h117 := exitS h116 e63
          refine fin.slot (.inr Z) Z (L 0 Z Z) ⟨V112, Z, (((((le5.trans le59).trans le83).trans le87).trans le96).trans le113), ?_⟩
          have ow118 := ow114.drop 0 Z
          have ow119 := ow118.drop 0 Z
          have e120 := Option.some.inj h117
          subst e120
          exact ⟨rfl, ow119⟩
         ·have h121 := ifF c115 h101
          refine WP.skip ?_
          refine blkN (sqN ?_)
          refine WP.ureg Z ?_
          refine U.p Z Z (.inl Z) (S.add Z (L 23 Z Z) K) ?_
          refine U.p Z Z (.inl Z) (S.move Z (L 0 Z Z)) ?_
          refine U.done (nr Z) ?_
          refine sqN ?_
          have ow122 := ow114.drop 0 Z
          exact ⟨_, V112, Z, ⟨m61, Nat.lt_succ_self _, w64 (x55 + 1), Z, ((((le59.trans le83).trans le87).trans le96).trans le113), ow122, backS h121 e63⟩, (allCons (L 22 Z Z) (allCons (L 23 Z Z) (allCons (L 24 Z Z) (allCons (L 0 Z Z) allNil))))⟩
        ·intro kk
         refine bcase (b := !x91) (fun g123 => ?_) (fun g123 => ?_)
         ·have h124 := ifT g123 hy100
          have k125 : x91 = false := nT g123
          refine U.x Z Z Z Z ((L 0 Z Z).trans (cB g123)) (by decide) ?_
          refine U.x Z Z Z Z ((L 1 Z Z).trans (cB g123)) (by decide) ?_
          refine U.x Z Z Z Z ((L 2 Z Z).trans (cB g123)) (by decide) ?_
          refine U.x Z Z Z Z ((L 3 Z Z).trans (cB g123)) (by decide) ?_
          refine U.z Z Z Z Z (L 0 Z Z) ?_
          refine U.z Z Z Z Z (L 1 Z Z) ?_
          refine U.z Z Z Z Z (L 2 Z Z) ?_
          refine U.z Z Z Z Z (L 3 Z Z) ?_
          refine U.z Z Z Z Z (L 4 Z Z) ?_
          refine U.x Z Z Z Z ((L 9 Z Z).trans (cB g123)) (by decide) ?_
          refine U.p Z Z (.inl Z) (S.pickT Z ((L 10 Z Z).trans (cB g123)) K) ?_
          have e126 := Option.some.inj h124
          subst e126
          exact kk [(63, .bool true), (62, .tuple #[]), (61, .tuple #[]), (60, .tuple #[]), (59, .tuple #[]), (58, .tuple #[]), (57, .tuple #[]), (56, .tuple #[]), (55, .tuple #[]), (54, .tuple #[]), (53, .tuple #[])] _ ⟨.tuple #[], .tuple #[], .tuple #[], .tuple #[], .tuple #[], .tuple #[], .tuple #[], .tuple #[], .tuple #[], .tuple #[], V95, Z, (.refl _), Z, ow98⟩
         ·have h127 := ifF g123 hy100
          have k128 : x91 = true := nF g123
          refine U.p (v := .pointer (some ⟨b81, 0, none⟩)) Z Z (.inr ⟨_, _, _, Z, Z, ((L 0 Z Z).trans (cB g123))⟩) (S.fieldAddr Z (L 5 Z Z) Try.underlying29 Z ti3 Z Z) ?_
          refine U.k Z Z (.inr ⟨_, _, _, Z, Z, ((L 1 Z Z).trans (cB g123))⟩) (S.load Z (L 0 Z Z) Try.underlying3 Z ((ow98.own (k := 0) Z).cell Z)) nd ?_
          refine U.p Z Z (.inr ⟨_, _, _, Z, Z, ((L 2 Z Z).trans (cB g123))⟩) (S.eqlI Z (L 0 Z Z) K) ?_
          refine U.p Z Z (.inr ⟨_, _, _, Z, Z, ((L 3 Z Z).trans (cB g123))⟩) (S.move Z (L 0 Z Z)) ?_
          obtain ⟨y129, hy130, h131⟩ := bindS h127
          refine U.joinX 15 (fun e H => ∃ (u132 u133 u134 u135 u136 : Value), ∃ V' : Vw, H = V'.H ∧ V95.le V' ∧ e = [(62, .bool y129), (61, u132), (60, u133), (59, u134), (58, u135), (57, u136)] ∧ Ow V' (.pt b81 (.cells 9 [.int .i64 x68.op, .int .i64 x68.d, .int .i64 x68.a, .int .i64 x68.b, .int .i64 x68.imm, v79, .int .i64 x68.what, .bool x68.volatile, .bool x68.final]) :: .pt b3 (.cells 0 [.string p0.name, .int .i64 p0.params, .int .i64 p0.regs, v1]) :: Rs)) ?_ ?_
          ·rintro _ _ ⟨u132, u133, u134, u135, u136, V137, rfl, le138, rfl, ow139⟩
           refine U.p Z Z (.inl Z) (S.pickF Z ((L 10 Z Z).trans (cB g123)) (L 0 Z Z)) ?_
           have e140 := Option.some.inj h131
           subst e140
           exact kk [(63, .bool y129), (62, .bool y129), (61, u132), (60, u133), (59, u134), (58, u135), (57, u136), (56, .bool (decide (x68.op = 11))), (55, .bool (decide (x68.op = 11))), (54, .int .i64 x68.op), (53, .pointer (some ⟨b81, 0, none⟩))] _ ⟨.bool y129, u132, u133, u134, u135, u136, .bool (decide (x68.op = 11)), .bool (decide (x68.op = 11)), .int .i64 x68.op, .pointer (some ⟨b81, 0, none⟩), V137, Z, le138, Z, ow139⟩
          ·intro kk
           refine bcase (b := decide (x68.op = 11)) (fun g141 => ?_) (fun g141 => ?_)
           ·have h142 := ifT g141 hy130
            refine U.k Z Z (.inr ⟨_, _, _, Z, Z, ((L 0 Z Z).trans (cB g141))⟩) (S.loadB Z (L 13 Z Z) Try.underlying24 Z ti24 (ow98.own (k := 1) Z).get Z) nd ?_
            refine U.p (v := .pointer (some ⟨b81, 4, none⟩)) Z Z (.inr ⟨_, _, _, Z, Z, ((L 1 Z Z).trans (cB g141))⟩) (S.fieldAddr Z (L 10 Z Z) Try.underlying29 Z ti3 Z Z) ?_
            refine U.k Z Z (.inr ⟨_, _, _, Z, Z, ((L 2 Z Z).trans (cB g141))⟩) (S.load Z (L 0 Z Z) Try.underlying3 Z ((ow98.own (k := 0) Z).cell Z)) nd ?_
            have f143 := f89.up le96
            obtain ⟨x144, hx145, h146⟩ := bindS h142
            refine O.call (V := V95) Z Z (.inr ⟨_, _, _, Z, Z, ((L 3 Z Z).trans (cB g141))⟩) Z en15 (aC (L 2 Z Z) (aC (L 0 Z Z) aN)) (wk_ref08_count V95 _ p0 x68.imm v1 f143 ow98 _ hx145) (fun _ _ _ _ => nd) (fun v147 V148 le149 hp150 => ?_)
            obtain ⟨rfl, ow151⟩ := hp150
            refine U.p Z Z (.inr ⟨_, _, _, Z, Z, ((L 4 Z Z).trans (cB g141))⟩) (S.neqI Z (L 0 Z Z) K) ?_
            refine U.p Z Z (.inr ⟨_, _, _, Z, Z, ((L 9 Z Z).trans (cB g123))⟩) (S.pickT Z ((L 5 Z Z).trans (cB g141)) (L 0 Z Z)) ?_
            have e152 := Option.some.inj h146
            subst e152
            exact kk [(62, .bool (decide (x144 ≠ 1))), (61, .bool (decide (x144 ≠ 1))), (60, .int .i64 x144), (59, .int .i64 x68.imm), (58, .pointer (some ⟨b81, 4, none⟩)), (57, .agg #[.string p0.name, .int .i64 p0.params, .int .i64 p0.regs, v1])] _ ⟨.bool (decide (x144 ≠ 1)), .int .i64 x144, .int .i64 x68.imm, .pointer (some ⟨b81, 4, none⟩), .agg #[.string p0.name, .int .i64 p0.params, .int .i64 p0.regs, v1], V148, Z, le149, Z, ow151⟩
           ·have h153 := ifF g141 hy130
            refine U.x Z Z Z Z ((L 0 Z Z).trans (cB g141)) (by decide) ?_
            refine U.x Z Z Z Z ((L 1 Z Z).trans (cB g141)) (by decide) ?_
            refine U.x Z Z Z Z ((L 2 Z Z).trans (cB g141)) (by decide) ?_
            refine U.x Z Z Z Z ((L 3 Z Z).trans (cB g141)) (by decide) ?_
            refine U.x Z Z Z Z ((L 4 Z Z).trans (cB g141)) (by decide) ?_
            refine U.p Z Z (.inr ⟨_, _, _, Z, Z, ((L 9 Z Z).trans (cB g123))⟩) (S.pickF Z ((L 5 Z Z).trans (cB g141)) K) ?_
            have e154 := Option.some.inj h153
            subst e154
            exact kk [(62, .bool false), (61, .tuple #[]), (60, .tuple #[]), (59, .tuple #[]), (58, .tuple #[]), (57, .tuple #[])] _ ⟨.tuple #[], .tuple #[], .tuple #[], .tuple #[], .tuple #[], V95, Z, (.refl _), Z, ow98⟩
       ·have h155 := ifF c66 h65
        refine WP.exit ?_
        refine sqE (sqE (blkE (sqN ?_)))
        have h156 := exitS h155 e63
        refine WP.usreg Z ?_
        refine U.p Z Z (.inl Z) (S.assign Z K) ?_
        refine U.done (nr Z) ?_
        refine WP.ret ?_
        refine fin.slot (.inr Z) Z (L 0 Z Z) ⟨V58, Z, (le5.trans le59), ?_⟩
        have ow157 := ow60.drop 0 Z
        have e158 := Option.some.inj h156
        subst e158
        exact ⟨rfl, ow157⟩
     ·intro kk
      refine bcase (b := (decide (x27.op ≠ 12)) && (decide (x27.op ≠ 15))) (fun g159 => ?_) (fun g159 => ?_)
      ·skip
       refine U.p Z Z (.inr ⟨_, _, _, Z, Z, ((L 0 Z Z).trans (cB g159))⟩) (S.move Z (L 7 Z Z)) ?_
       refine U.p Z Z (.inr ⟨_, _, _, Z, Z, ((L 1 Z Z).trans (cB g159))⟩) (S.neqI Z (L 0 Z Z) K) ?_
       refine U.p Z Z (.inl Z) (S.pickT Z ((L 2 Z Z).trans (cB g159)) (L 0 Z Z)) ?_
       exact kk [(40, .bool (decide (x27.op ≠ 16))), (39, .bool (decide (x27.op ≠ 16))), (38, .int .i64 x27.op)] _ ⟨.bool (decide (x27.op ≠ 16)), .int .i64 x27.op, Z, (by rw [g159, Bool.true_and])⟩
      ·skip
       refine U.x Z Z Z Z ((L 0 Z Z).trans (cB g159)) (by decide) ?_
       refine U.x Z Z Z Z ((L 1 Z Z).trans (cB g159)) (by decide) ?_
       refine U.p Z Z (.inl Z) (S.pickF Z ((L 2 Z Z).trans (cB g159)) K) ?_
       exact kk [(40, .bool false), (39, .tuple #[]), (38, .tuple #[])] _ ⟨.tuple #[], .tuple #[], Z, (by rw [g159, Bool.false_and])⟩
    ·intro kk
     refine bcase (b := decide (x27.op ≠ 12)) (fun g160 => ?_) (fun g160 => ?_)
     ·skip
      refine U.p Z Z (.inr ⟨_, _, _, Z, Z, ((L 0 Z Z).trans (cB g160))⟩) (S.move Z (L 3 Z Z)) ?_
      refine U.p Z Z (.inr ⟨_, _, _, Z, Z, ((L 1 Z Z).trans (cB g160))⟩) (S.neqI Z (L 0 Z Z) K) ?_
      refine U.p Z Z (.inl Z) (S.pickT Z ((L 2 Z Z).trans (cB g160)) (L 0 Z Z)) ?_
      exact kk [(36, .bool (decide (x27.op ≠ 15))), (35, .bool (decide (x27.op ≠ 15))), (34, .int .i64 x27.op)] _ ⟨.bool (decide (x27.op ≠ 15)), .int .i64 x27.op, Z, (by rw [g160, Bool.true_and])⟩
     ·skip
      refine U.x Z Z Z Z ((L 0 Z Z).trans (cB g160)) (by decide) ?_
      refine U.x Z Z Z Z ((L 1 Z Z).trans (cB g160)) (by decide) ?_
      refine U.p Z Z (.inl Z) (S.pickF Z ((L 2 Z Z).trans (cB g160)) K) ?_
      exact kk [(36, .bool false), (35, .tuple #[]), (34, .tuple #[])] _ ⟨.tuple #[], .tuple #[], Z, (by rw [g160, Bool.false_and])⟩
  ·intro kk
   refine bcase (b := (decide ((p0.code.length : Int) = 0)) || (decide (p0.params < 0))) (fun g161 => ?_) (fun g161 => ?_)
   ·skip
    refine U.x Z Z Z Z ((L 0 Z Z).trans (cB g161)) (by decide) ?_
    refine U.x Z Z Z Z ((L 1 Z Z).trans (cB g161)) (by decide) ?_
    refine U.x Z Z Z Z ((L 2 Z Z).trans (cB g161)) (by decide) ?_
    refine U.x Z Z Z Z ((L 3 Z Z).trans (cB g161)) (by decide) ?_
    refine U.x Z Z Z Z ((L 4 Z Z).trans (cB g161)) (by decide) ?_
    refine U.p Z Z (.inl Z) (S.pickT Z ((L 5 Z Z).trans (cB g161)) K) ?_
    exact kk [(23, .bool true), (22, .tuple #[]), (21, .tuple #[]), (20, .tuple #[]), (19, .tuple #[]), (18, .tuple #[])] _ ⟨.tuple #[], .tuple #[], .tuple #[], .tuple #[], .tuple #[], Z, (by rw [g161, Bool.true_or])⟩
   ·skip
    refine U.p (v := .pointer (some ⟨b3, 1, none⟩)) Z Z (.inr ⟨_, _, _, Z, Z, ((L 0 Z Z).trans (cB g161))⟩) (S.fieldAddr Z (L 13 Z Z) Try.underlying24 Z ti3 Z Z) ?_
    refine U.k Z Z (.inr ⟨_, _, _, Z, Z, ((L 1 Z Z).trans (cB g161))⟩) (S.load Z (L 0 Z Z) Try.underlying3 Z ((ow6.own (k := 0) Z).cell Z)) nd ?_
    refine U.p (v := .pointer (some ⟨b3, 2, none⟩)) Z Z (.inr ⟨_, _, _, Z, Z, ((L 2 Z Z).trans (cB g161))⟩) (S.fieldAddr Z (L 15 Z Z) Try.underlying24 Z ti3 Z Z) ?_
    refine U.k Z Z (.inr ⟨_, _, _, Z, Z, ((L 3 Z Z).trans (cB g161))⟩) (S.load Z (L 0 Z Z) Try.underlying3 Z ((ow6.own (k := 0) Z).cell Z)) nd ?_
    refine U.p Z Z (.inr ⟨_, _, _, Z, Z, ((L 4 Z Z).trans (cB g161))⟩) (S.gtr Z (L 2 Z Z) (L 0 Z Z)) ?_
    refine U.p Z Z (.inl Z) (S.pickF Z ((L 5 Z Z).trans (cB g161)) (L 0 Z Z)) ?_
    exact kk [(23, .bool (decide (p0.regs < p0.params))), (22, .bool (decide (p0.regs < p0.params))), (21, .int .i64 p0.regs), (20, .pointer (some ⟨b3, 2, none⟩)), (19, .int .i64 p0.params), (18, .pointer (some ⟨b3, 1, none⟩))] _ ⟨.bool (decide (p0.regs < p0.params)), .int .i64 p0.regs, .pointer (some ⟨b3, 2, none⟩), .int .i64 p0.params, .pointer (some ⟨b3, 1, none⟩), Z, (by rw [g161, Bool.false_or])⟩
 ·intro kk
  refine bcase (b := decide ((p0.code.length : Int) = 0)) (fun g162 => ?_) (fun g162 => ?_)
  ·skip
   refine U.x Z Z Z Z ((L 0 Z Z).trans (cB g162)) (by decide) ?_
   refine U.x Z Z Z Z ((L 1 Z Z).trans (cB g162)) (by decide) ?_
   refine U.x Z Z Z Z ((L 2 Z Z).trans (cB g162)) (by decide) ?_
   refine U.p Z Z (.inl Z) (S.pickT Z ((L 3 Z Z).trans (cB g162)) K) ?_
   exact kk [(16, .bool true), (15, .tuple #[]), (14, .tuple #[]), (13, .tuple #[])] _ ⟨.tuple #[], .tuple #[], .tuple #[], Z, (by rw [g162, Bool.true_or])⟩
  ·skip
   refine U.p (v := .pointer (some ⟨b3, 1, none⟩)) Z Z (.inr ⟨_, _, _, Z, Z, ((L 0 Z Z).trans (cB g162))⟩) (S.fieldAddr Z (L 8 Z Z) Try.underlying24 Z ti3 Z Z) ?_
   refine U.k Z Z (.inr ⟨_, _, _, Z, Z, ((L 1 Z Z).trans (cB g162))⟩) (S.load Z (L 0 Z Z) Try.underlying3 Z ((ow6.own (k := 0) Z).cell Z)) nd ?_
   refine U.p Z Z (.inr ⟨_, _, _, Z, Z, ((L 2 Z Z).trans (cB g162))⟩) (S.lss Z (L 0 Z Z) K) ?_
   refine U.p Z Z (.inl Z) (S.pickF Z ((L 3 Z Z).trans (cB g162)) (L 0 Z Z)) ?_
   exact kk [(16, .bool (decide (p0.params < 0))), (15, .bool (decide (p0.params < 0))), (14, .int .i64 p0.params), (13, .pointer (some ⟨b3, 1, none⟩))] _ ⟨.bool (decide (p0.params < 0)), .int .i64 p0.params, .pointer (some ⟨b3, 1, none⟩), Z, (by rw [g162, Bool.false_or])⟩
theorem wk_regs_Map_place (V : Vw) (Rs : List At) (p0 : Tregs_Map) (p1 : Int) (v1 : Value) (f2 : Fz (RT.int .i64) V v1 p0.at_) (ow : Ow V (Rs)) (r : Int) (h : regs_Map_place p0 p1 = some r) : ∃ v V', Cl Try.prog 0 20 #[.agg #[v1, .int .i64 p0.spill], .int .i64 p1] V.H v V'.H ∧ V.le V' ∧ (v = .int .i64 r ∧ Ow V' (Rs)) := by
 refine Ct.of (Nat.zero_le _) Try.func20 Z (nr Z) ?_
 unfold regs_Map_place at h
 refine WP.usreg Z ?_
 refine O.box ow Z Z (.inl Z) Z (L 0 Z Z) (by simp [topV]) Z nd (fun b3 V4 le5 ow6 => ?_)
 refine U.p Z Z (.inl Z) (S.assign Z K) ?_
 refine U.done (nr Z) ?_
 refine WP.seq ?_
 refine WP.usreg Z ?_
 refine U.p Z Z (.inl Z) (S.move Z (L 3 Z Z)) ?_
 refine U.p Z Z (.inl Z) (S.lss Z (L 0 Z Z) K) ?_
 refine U.p Z Z (.inl Z) (S.move Z (L 0 Z Z)) ?_
 refine U.joinX 9 (fun e H => ∃ (u8 u9 u10 u11 u12 : Value), H = V4.H ∧ e = [(13, .bool ((decide (p1 < 0)) || (decide ((p0.at_.length : Int) ≤ p1)))), (12, u8), (11, u9), (10, u10), (9, u11), (8, u12)]) ?_ ?_
 ·rintro _ _ ⟨u8, u9, u10, u11, u12, rfl, rfl⟩
  refine U.done (nr Z) ?_
  refine WP.cond _ (L 0 Z Z) Z (fun c16 => ?_) (fun c16 => ?_)
  ·have h17 := ifT c16 h
   refine WP.usreg Z ?_
   refine U.p Z Z (.inl Z) (S.move Z (L 12 Z Z)) ?_
   refine U.p Z Z (.inl Z) (S.assign Z (L 0 Z Z)) ?_
   refine U.done (nr Z) ?_
   refine WP.ret ?_
   refine sqR ?_
   refine fin.slot (.inr Z) Z (L 0 Z Z) ⟨V4, Z, le5, ?_⟩
   have ow18 := ow6.drop 0 Z
   have e19 := Option.some.inj h17
   subst e19
   exact ⟨rfl, ow18⟩
  ·have h20 := ifF c16 h
   refine WP.skip ?_
   refine sqN ?_
   refine WP.usreg Z ?_
   refine U.p (v := .pointer (some ⟨b3, 0, none⟩)) Z Z (.inl Z) (S.fieldAddr Z (L 10 Z Z) Try.underlying31 Z ti27 Z Z) ?_
   refine U.k Z Z (.inl Z) (S.load Z (L 0 Z Z) Try.underlying27 Z ((ow6.own (k := 0) Z).cell Z)) nd ?_
   refine U.p Z Z (.inl Z) (S.move Z (L 14 Z Z)) ?_
   obtain ⟨x21, hx22, h23⟩ := bindS h20
   obtain ⟨b24, o25, c26, cs27, hv28, hf29, hr30, hc31⟩ := f2.at hx22
   obtain rfl : cs27 = [.int .i64 x21] := hr30
   refine U.p Z Z (.inl Z) (S.index Z ((L 1 Z Z).trans hv28) (L 0 Z Z) Try.underlying27 ti3 (ix_ge hx22) (ix_lt hx22)) ?_
   refine U.k Z Z (.inl Z) (S.load Z (L 0 Z Z) Try.underlying3 Z (le5.cell hf29 (hc31 0 _ Z))) nd ?_
   refine U.p Z Z (.inl Z) (S.assign Z (L 0 Z Z)) ?_
   refine U.done (nr Z) ?_
   refine WP.ret ?_
   refine fin.slot (.inr Z) Z (L 0 Z Z) ⟨V4, Z, le5, ?_⟩
   have ow32 := ow6.drop 0 Z
   have e33 := Option.some.inj h23
   subst e33
   exact ⟨rfl, ow32⟩
 ·intro kk
  refine bcase (b := decide (p1 < 0)) (fun g34 => ?_) (fun g34 => ?_)
  ·skip
   refine U.x Z Z Z Z ((L 0 Z Z).trans (cB g34)) (by decide) ?_
   refine U.x Z Z Z Z ((L 1 Z Z).trans (cB g34)) (by decide) ?_
   refine U.x Z Z Z Z ((L 2 Z Z).trans (cB g34)) (by decide) ?_
   refine U.x Z Z Z Z ((L 3 Z Z).trans (cB g34)) (by decide) ?_
   refine U.x Z Z Z Z ((L 4 Z Z).trans (cB g34)) (by decide) ?_
   refine U.p Z Z (.inl Z) (S.pickT Z ((L 5 Z Z).trans (cB g34)) K) ?_
   exact kk [(13, .bool true), (12, .tuple #[]), (11, .tuple #[]), (10, .tuple #[]), (9, .tuple #[]), (8, .tuple #[])] _ ⟨.tuple #[], .tuple #[], .tuple #[], .tuple #[], .tuple #[], Z, (by rw [g34, Bool.true_or])⟩
  ·skip
   refine U.p Z Z (.inr ⟨_, _, _, Z, Z, ((L 0 Z Z).trans (cB g34))⟩) (S.move Z (L 6 Z Z)) ?_
   refine U.p (v := .pointer (some ⟨b3, 0, none⟩)) Z Z (.inr ⟨_, _, _, Z, Z, ((L 1 Z Z).trans (cB g34))⟩) (S.fieldAddr Z (L 5 Z Z) Try.underlying31 Z ti27 Z Z) ?_
   refine U.k Z Z (.inr ⟨_, _, _, Z, Z, ((L 2 Z Z).trans (cB g34))⟩) (S.load Z (L 0 Z Z) Try.underlying27 Z ((ow6.own (k := 0) Z).cell Z)) nd ?_
   refine U.p Z Z (.inr ⟨_, _, _, Z, Z, ((L 3 Z Z).trans (cB g34))⟩) (f2.1.len Z (L 0 Z Z) Try.underlying27) ?_
   refine U.p Z Z (.inr ⟨_, _, _, Z, Z, ((L 4 Z Z).trans (cB g34))⟩) (S.geq Z (L 3 Z Z) (L 0 Z Z)) ?_
   refine U.p Z Z (.inl Z) (S.pickF Z ((L 5 Z Z).trans (cB g34)) (L 0 Z Z)) ?_
   exact kk [(13, .bool (decide ((p0.at_.length : Int) ≤ p1))), (12, .bool (decide ((p0.at_.length : Int) ≤ p1))), (11, .int .i64 (p0.at_.length : Int)), (10, v1), (9, .pointer (some ⟨b3, 0, none⟩)), (8, .int .i64 p1)] _ ⟨.bool (decide ((p0.at_.length : Int) ≤ p1)), .int .i64 (p0.at_.length : Int), v1, .pointer (some ⟨b3, 0, none⟩), .int .i64 p1, Z, (by rw [g34, Bool.false_or])⟩
theorem wk_slices_Clone_2 (V : Vw) (Rs : List At) (p0 : List Int) (v1 : Value) (f2 : Fz (RT.int .i64) V v1 p0) (ow : Ow V (Rs)) (r : List Int) (h : slices_Clone_2 p0 = some r) : ∃ v V', Cl Try.prog 0 21 #[v1] V.H v V'.H ∧ V.le V' ∧ (∃ (v3 : Value), v = v3 ∧ Ow V' (.os (RT.int .i64) v3 r :: Rs)) := by
 refine Ct.of (Nat.zero_le _) Try.func21 Z (nr Z) ?_
 unfold slices_Clone_2 at h
 refine WP.usreg Z ?_
 refine U.p Z Z (.inl Z) (S.assign Z K) ?_
 refine U.done (nr Z) ?_
 refine WP.seq ?_
 refine WP.usreg Z ?_
 refine U.p Z Z (.inl Z) (S.move Z (L 1 Z Z)) ?_
 refine U.p Z Z (.inl Z) (f2.1.eqNil Z (L 0 Z Z) K Try.underlying27) ?_
 refine U.done (nr Z) ?_
 refine WP.cond _ (L 0 Z Z) Z (fun c5 => ?_) (fun c5 => ?_)
 ·have hz := (f2.1.nil_of c5)
  have h6 : (some [] : Option _) = some r := by simpa [hz, ap, apw] using h
  refine WP.usreg Z ?_
  refine U.p Z Z (.inl Z) (S.assign Z K) ?_
  refine U.done (nr Z) ?_
  refine WP.ret ?_
  refine sqR ?_
  have ow7 := ow.nil (RT.int .i64)
  refine fin.slot (.inr Z) Z (L 0 Z Z) ⟨V, Z, (.refl _), ?_⟩
  have e9 := Option.some.inj h6
  subst e9
  exact ⟨(.slice none 0 0), Z, ow7⟩
 ·skip
  refine WP.skip ?_
  refine sqN ?_
  refine WP.usreg Z ?_
  refine O.lit (R := (RT.int .i64)) ow Z Z (.inl Z) Z Try.underlying27 ti3 Z Z Z (nr Z) Z aN .nil (fun _ => nd) (fun v10 V11 le12 ow13 => ?_)
  refine U.p Z Z (.inl Z) (S.move Z (L 4 Z Z)) ?_
  have f15 := f2.up le12
  obtain ⟨xs16, hx17, h18⟩ := bindS h
  refine O.appendW (k := 0) ow13 Z Z Z (.inl Z) Z (L 1 Z Z) (L 0 Z Z) Try.underlying27 ti3 Z Z (nr Z) (f15.src Try.underlying27) hx17 (fun _ _ => nd) (fun v19 V20 le21 ow22 => ?_)
  refine U.p Z Z (.inl Z) (S.assign Z (L 0 Z Z)) ?_
  refine U.done (nr Z) ?_
  refine WP.ret ?_
  refine fin.slot (.inr Z) Z (L 0 Z Z) ⟨V20, Z, (le12.trans le21), ?_⟩
  have e24 := Option.some.inj h18
  subst e24
  exact ⟨v19, Z, ow22⟩
theorem wk_regs_Rename (V : Vw) (Rs : List At) (p0 : TFunc) (p1 : Tregs_Map) (v1 : Value) (v3 : Value) (f2 : Fz RT_TIns V v1 p0.code) (f4 : Fz (RT.int .i64) V v3 p1.at_) (ow : Ow V (Rs)) (r : TFunc) (h : regs_Rename p0 p1 = some r) : ∃ v V', Cl Try.prog 0 10 #[.agg #[.string p0.name, .int .i64 p0.params, .int .i64 p0.regs, v1], .agg #[v3, .int .i64 p1.spill]] V.H v V'.H ∧ V.le V' ∧ (∃ (v5 : Value), v = .agg #[.string r.name, .int .i64 r.params, .int .i64 r.regs, v5] ∧ Fz RT_TIns V' v5 r.code ∧ Ow V' (Rs)) := by
 refine Ct.of (Nat.zero_le _) Try.func10 Z (nr Z) ?_
 unfold regs_Rename at h
 refine WP.usreg Z ?_
 refine O.box ow Z Z (.inl Z) Z (L 0 Z Z) (by simp [topV]) Z nd (fun b7 V8 le9 ow10 => ?_)
 refine O.box ow10 Z Z (.inl Z) Z (L 2 Z Z) (by simp [topV]) Z nd (fun b12 V13 le14 ow15 => ?_)
 refine O.alloc ow15 Z Z (.inl Z) Z ti24 Z Z nd (fun b17 V18 le19 ow20 => ?_)
 refine U.done (nr Z) ?_
 refine WP.usreg Z ?_
 refine U.p (v := .pointer (some ⟨b7, 0, none⟩)) Z Z (.inl Z) (S.fieldAddr Z (L 2 Z Z) Try.underlying24 Z ti9 Z Z) ?_
 refine U.k Z Z (.inl Z) (S.load Z (L 0 Z Z) Try.underlying9 Z ((ow20.own (k := 2) Z).cell Z)) nd ?_
 refine U.p (v := .pointer (some ⟨b7, 1, none⟩)) Z Z (.inl Z) (S.fieldAddr Z (L 4 Z Z) Try.underlying24 Z ti3 Z Z) ?_
 refine U.k Z Z (.inl Z) (S.load Z (L 0 Z Z) Try.underlying3 Z ((ow20.own (k := 2) Z).cell Z)) nd ?_
 refine U.p (v := .pointer (some ⟨b12, 1, none⟩)) Z Z (.inl Z) (S.fieldAddr Z (L 5 Z Z) Try.underlying31 Z ti3 Z Z) ?_
 refine U.k Z Z (.inl Z) (S.load Z (L 0 Z Z) Try.underlying3 Z ((ow20.own (k := 1) Z).cell Z)) nd ?_
 refine U.p Z Z (.inl Z) (S.add Z K (L 0 Z Z)) ?_
 refine U.p (v := .agg #[.string p0.name, .int .i64 p0.params, .int .i64 (w64 (10 + p1.spill)), .slice none 0 0]) Z Z (.inl Z) (S.build (vs := [.string p0.name, .int .i64 p0.params, .int .i64 (w64 (10 + p1.spill))]) Z ti24 Z pl24 (aC (L 5 Z Z) (aC (L 3 Z Z) (aC (L 0 Z Z) aN))) (allC (by simp [topV]) (allC (by simp [topV]) (allC (by simp [topV]) allN))) Z) ?_
 refine O.alloc ow20 Z Z (.inl Z) Z ti24 Z Z nd (fun b22 V23 le24 ow25 => ?_)
 refine O.store (k := 0) (cs := [.string p0.name, .int .i64 p0.params, .int .i64 (w64 (10 + p1.spill)), .slice none 0 0]) (c' := [.string p0.name, .int .i64 p0.params, .int .i64 (w64 (10 + p1.spill)), .slice none 0 0]) ow25 Z Z Z (.inl Z) Z (L 0 Z Z) (L 1 Z Z) ti24 (by simp [topV]) Z Z (nr Z) Z Z nd (fun V27 le28 ow29 => ?_)
 refine U.done (nr Z) ?_
 refine WP.seq ?_
 refine WP.usreg Z ?_
 refine U.p (v := .pointer (some ⟨b7, 3, none⟩)) Z Z (.inl Z) (S.fieldAddr Z (L 11 Z Z) Try.underlying24 Z ti22 Z Z) ?_
 refine U.k Z Z (.inl Z) (S.load Z (L 0 Z Z) Try.underlying22 Z ((ow29.own (k := 3) Z).cell Z)) nd ?_
 refine U.p Z Z (.inl Z) (f2.1.len Z (L 0 Z Z) Try.underlying22) ?_
 refine U.p Z Z (.inl Z) (S.move Z K) ?_
 refine U.done (nr Z) ?_
 refine WP.blk ?_
 have ow34 := ow29.nil RT_TIns
 have ow36 := ow34.drop 4 Z
 have ow37 := ow36.pick 0 Z
 have ow38 := ow37.pick 1 Z
 have ow39 := ow38.pick 2 Z
 have ow40 := ow39.pick 3 Z
 unfold regs_Rename_l1 at h
 obtain ⟨n42, hn41⟩ := loopO_some.1 h
 refine WP.loopI2 (fun n l V' => ∃ (v31 : Value) (xs32 : List TIns) (x33 : Int), l = [(3, .pointer (some ⟨b12, 0, none⟩)), (4, .pointer (some ⟨b17, 0, none⟩)), (5, .pointer (some ⟨b22, 0, none⟩)), (19, v1), (20, .int .i64 (p0.code.length : Int)), (21, .int .i64 x33)] ∧ V27.le V' ∧ Ow V' (.pt b12 (.cells 0 [v3, .int .i64 p1.spill]) :: .pt b17 (.cells 4 [.string ByteArray.empty, .int .i64 0, .int .i64 0, .slice none 0 0]) :: .pt b22 (.cells 4 [.string p0.name, .int .i64 p0.params, .int .i64 (w64 (10 + p1.spill)), v31]) :: .os RT_TIns v31 xs32 :: Rs) ∧ itO (fun s => regs_Rename_l1b p0 p1 s.1 s.2) n (xs32, x33) = some r) n42 _ ⟨(.slice none 0 0), [], 0, Z, .refl _, ow40, hn41⟩ (allCons (L 14 Z Z) (allCons (L 13 Z Z) (allCons (L 4 Z Z) (allCons (L 2 Z Z) (allCons (L 1 Z Z) (allCons (L 0 Z Z) allNil)))))) ?_
 rintro _ _ V43 ⟨v31, xs32, x33, rfl, le44, ow45, h49⟩
 obtain ⟨m46, q47, rfl, h50, e48⟩ := itS h49
 replace h50 : regs_Rename_l1b p0 p1 xs32 x33 = some q47 := h50
 unfold regs_Rename_l1b at h50
 refine WP.usreg Z ?_
 refine U.p Z Z (.inl Z) (S.lss Z (L 5 Z Z) (L 4 Z Z)) ?_
 refine U.done (nr Z) ?_
 refine WP.seq ?_
 refine WP.cond _ (L 0 Z Z) Z (fun c51 => ?_) (fun c51 => ?_)
 ·have h52 := ifT c51 h50
  refine WP.skip ?_
  refine sqN ?_
  refine WP.seq ?_
  refine WP.blk ?_
  refine WP.usreg Z ?_
  obtain ⟨x53, hx54, h55⟩ := bindS h52
  obtain ⟨b56, o57, c58, cs59, hv60, hf61, hr62, hc63⟩ := f2.at hx54
  obtain ⟨v64, rfl, f65⟩ := hr62
  refine U.p Z Z (.inl Z) (S.index Z ((L 4 Z Z).trans hv60) (L 6 Z Z) Try.underlying22 ti29 (ix_ge hx54) (ix_lt hx54)) ?_
  refine U.k Z Z (.inl Z) (S.loadN (cs := [.int .i64 x53.op, .int .i64 x53.d, .int .i64 x53.a, .int .i64 x53.b, .int .i64 x53.imm, v64, .int .i64 x53.what, .bool x53.volatile, .bool x53.final]) Z (L 0 Z Z) Try.underlying29 Z ti29 Z (fun j v hj => (((((le9.trans le14).trans le19).trans le24).trans le28).trans le44).cell hf61 (hc63 j v hj))) nd ?_
  refine O.alloc ow45 Z Z (.inl Z) Z ti29 Z Z nd (fun b66 V67 le68 ow69 => ?_)
  refine O.store (k := 0) (cs := [.int .i64 x53.op, .int .i64 x53.d, .int .i64 x53.a, .int .i64 x53.b, .int .i64 x53.imm, v64, .int .i64 x53.what, .bool x53.volatile, .bool x53.final]) (c' := [.int .i64 x53.op, .int .i64 x53.d, .int .i64 x53.a, .int .i64 x53.b, .int .i64 x53.imm, v64, .int .i64 x53.what, .bool x53.volatile, .bool x53.final]) ow69 Z Z Z (.inl Z) Z (L 0 Z Z) (L 1 Z Z) ti29 (by simp [topV]) Z Z (nr Z) (by have q0 := f65.one; simp only [List.all_cons, List.all_nil, q0]; rfl) Z nd (fun V71 le72 ow73 => ?_)
  refine U.done (nr Z) ?_
  refine WP.usdreg Z Z Z ?_
  refine U.k Z Z (.inl Z) (S.loadB Z (L 4 Z Z) Try.underlying31 Z ti31 (ow73.own (k := 1) Z).get Z) (fun _ => (okH.nil (fun r h => by cases h; exact (ow73.own (k := 1) Z).lt))) ?_
  refine U.p (v := .pointer (some ⟨b66, 1, none⟩)) Z Z (.inl Z) (S.fieldAddr Z (L 1 Z Z) Try.underlying29 Z ti3 Z Z) ?_
  refine U.k Z Z (.inl Z) (S.loadC Z (L 0 Z Z) Try.underlying3 Z ((ow73.own (k := 0) Z).cell Z)) (fun _ => (okH.cons trivial (okH.nil (fun r h => by cases h; exact (ow73.own (k := 0) Z).lt)))) ?_
  have f74 := f4.up (((((((le9.trans le14).trans le19).trans le24).trans le28).trans le44).trans le68).trans le72)
  obtain ⟨x75, hx76, h77⟩ := bindS h55
  refine O.call (V := V71) Z Z (.inl Z) Z en20 (aC (L 2 Z Z) (aC (L 0 Z Z) aN)) (wk_regs_Map_place V71 _ p1 x53.d v3 f74 ow73 _ hx76) (fun v78 V79 le80 hp81 => by obtain ⟨rfl, ow82⟩ := hp81; exact (fun _ => (okH.cons (Or.inl Z) (okH.cons (Or.inl Z) (okH.nil (fun r h => nomatch h)))))) (fun v78 V79 le80 hp81 => ?_)
  obtain ⟨rfl, ow82⟩ := hp81
  refine U.k Z Z (.inl Z) (S.loadB Z (L 8 Z Z) Try.underlying31 Z ti31 (ow82.own (k := 1) Z).get Z) (fun _ => (okH.cons (Or.inr (Or.inl ((ow82.own (k := 1) Z).get.trans (ow73.own (k := 1) Z).get.symm))) (okH.cons trivial (okH.cons trivial (okH.nil (fun r h => by cases h; exact (ow82.own (k := 1) Z).lt)))))) ?_
  refine U.p (v := .pointer (some ⟨b66, 2, none⟩)) Z Z (.inl Z) (S.fieldAddr Z (L 5 Z Z) Try.underlying29 Z ti3 Z Z) ?_
  refine U.k Z Z (.inl Z) (S.loadC Z (L 0 Z Z) Try.underlying3 Z ((ow82.own (k := 0) Z).cell Z)) (fun _ => (okH.cons trivial (okH.cons (Or.inr (Or.inl (lookC ((ow82.own (k := 0) Z).cell Z) ((ow73.own (k := 0) Z).cell Z)))) (okH.cons trivial (okH.cons trivial (okH.nil (fun r h => by cases h; exact (ow82.own (k := 0) Z).lt))))))) ?_
  have f83 := f74.up le80
  obtain ⟨x84, hx85, h86⟩ := bindS h77
  refine O.call (V := V79) Z Z (.inl Z) Z en20 (aC (L 2 Z Z) (aC (L 0 Z Z) aN)) (wk_regs_Map_place V79 _ p1 x53.a v3 f83 ow82 _ hx85) (fun v87 V88 le89 hp90 => by obtain ⟨rfl, ow91⟩ := hp90; exact (fun _ => (okH.cons (Or.inl Z) (okH.cons (Or.inl Z) (okH.cons Z (okH.cons (Or.inl Z) (okH.cons (Or.inl Z) (okH.nil (fun r h => nomatch h))))))))) (fun v87 V88 le89 hp90 => ?_)
  obtain ⟨rfl, ow91⟩ := hp90
  refine U.k Z Z (.inl Z) (S.loadB Z (L 12 Z Z) Try.underlying31 Z ti31 (ow91.own (k := 1) Z).get Z) (fun _ => (okH.cons (Or.inr (Or.inl ((ow91.own (k := 1) Z).get.trans (ow82.own (k := 1) Z).get.symm))) (okH.cons trivial (okH.cons trivial (okH.cons (Or.inr (Or.inl ((ow82.own (k := 1) Z).get.trans (ow73.own (k := 1) Z).get.symm))) (okH.cons trivial (okH.cons trivial (okH.nil (fun r h => by cases h; exact (ow91.own (k := 1) Z).lt))))))))) ?_
  refine U.p (v := .pointer (some ⟨b66, 3, none⟩)) Z Z (.inl Z) (S.fieldAddr Z (L 9 Z Z) Try.underlying29 Z ti3 Z Z) ?_
  refine U.k Z Z (.inl Z) (S.loadC Z (L 0 Z Z) Try.underlying3 Z ((ow91.own (k := 0) Z).cell Z)) (fun _ => (okH.cons trivial (okH.cons (Or.inr (Or.inl (lookC ((ow91.own (k := 0) Z).cell Z) ((ow82.own (k := 0) Z).cell Z)))) (okH.cons trivial (okH.cons trivial (okH.cons (Or.inr (Or.inl (lookC ((ow82.own (k := 0) Z).cell Z) ((ow73.own (k := 0) Z).cell Z)))) (okH.cons trivial (okH.cons trivial (okH.nil (fun r h => by cases h; exact (ow91.own (k := 0) Z).lt)))))))))) ?_
  have f92 := f83.up le89
  obtain ⟨x93, hx94, h95⟩ := bindS h86
  refine O.call (V := V88) Z Z (.inl Z) Z en20 (aC (L 2 Z Z) (aC (L 0 Z Z) aN)) (wk_regs_Map_place V88 _ p1 x53.b v3 f92 ow91 _ hx94) (fun v96 V97 le98 hp99 => by obtain ⟨rfl, ow100⟩ := hp99; exact (fun _ => (okH.cons (Or.inl Z) (okH.cons (Or.inl Z) (okH.cons Z (okH.cons (Or.inl Z) (okH.cons (Or.inl Z) (okH.cons Z (okH.cons (Or.inl Z) (okH.cons (Or.inl Z) (okH.nil (fun r h => nomatch h)))))))))))) (fun v96 V97 le98 hp99 => ?_)
  obtain ⟨rfl, ow100⟩ := hp99
  refine U.p (v := .pointer (some ⟨b66, 1, none⟩)) Z Z (.inl Z) (S.fieldAddr Z (L 12 Z Z) Try.underlying29 Z ti3 Z Z) ?_
  refine O.store (k := 0) (cs := [.int .i64 x75]) (c' := [.int .i64 x53.op, .int .i64 x75, .int .i64 x53.a, .int .i64 x53.b, .int .i64 x53.imm, v64, .int .i64 x53.what, .bool x53.volatile, .bool x53.final]) ow100 Z Z Z (.inl Z) Z (L 0 Z Z) (L 9 Z Z) ti3 (by simp [topV]) Z Z (nr Z) Z Z (fun _ => (okH.cons Z (okH.cons (Or.inl Z) (okH.cons (Or.inl Z) (okH.cons Z (okH.cons (Or.inl Z) (okH.cons (Or.inl Z) (okH.cons Z (okH.cons (Or.inl Z) (okH.cons (Or.inl Z) (okH.nil (fun r h => nomatch h)))))))))))) (fun V101 le102 ow103 => ?_)
  refine U.p (v := .pointer (some ⟨b66, 2, none⟩)) Z Z (.inl Z) (S.fieldAddr Z (L 13 Z Z) Try.underlying29 Z ti3 Z Z) ?_
  refine O.store (k := 0) (cs := [.int .i64 x84]) (c' := [.int .i64 x53.op, .int .i64 x75, .int .i64 x84, .int .i64 x53.b, .int .i64 x53.imm, v64, .int .i64 x53.what, .bool x53.volatile, .bool x53.final]) ow103 Z Z Z (.inl Z) Z (L 0 Z Z) (L 6 Z Z) ti3 (by simp [topV]) Z Z (nr Z) Z Z (fun _ => (okH.cons Z (okH.cons Z (okH.cons (Or.inl Z) (okH.cons (Or.inl Z) (okH.cons Z (okH.cons (Or.inl Z) (okH.cons (Or.inl Z) (okH.cons Z (okH.cons (Or.inl Z) (okH.cons (Or.inl Z) (okH.nil (fun r h => nomatch h))))))))))))) (fun V104 le105 ow106 => ?_)
  refine U.p (v := .pointer (some ⟨b66, 3, none⟩)) Z Z (.inl Z) (S.fieldAddr Z (L 14 Z Z) Try.underlying29 Z ti3 Z Z) ?_
  refine O.store (k := 0) (cs := [.int .i64 x93]) (c' := [.int .i64 x53.op, .int .i64 x75, .int .i64 x84, .int .i64 x93, .int .i64 x53.imm, v64, .int .i64 x53.what, .bool x53.volatile, .bool x53.final]) ow106 Z Z Z (.inl Z) Z (L 0 Z Z) (L 3 Z Z) ti3 (by simp [topV]) Z Z (nr Z) Z Z (fun _ => (okH.cons Z (okH.cons Z (okH.cons Z (okH.cons (Or.inl Z) (okH.cons (Or.inl Z) (okH.cons Z (okH.cons (Or.inl Z) (okH.cons (Or.inl Z) (okH.cons Z (okH.cons (Or.inl Z) (okH.cons (Or.inl Z) (okH.nil (fun r h => nomatch h)))))))))))))) (fun V107 le108 ow109 => ?_)
  refine U.done (nr Z) ?_
  refine WP.usreg Z ?_
  refine U.p (v := .pointer (some ⟨b66, 5, none⟩)) Z Z (.inl Z) (S.fieldAddr Z (L 15 Z Z) Try.underlying29 Z ti27 Z Z) ?_
  refine U.k Z Z (.inl Z) (S.load Z (L 0 Z Z) Try.underlying27 Z ((ow109.own (k := 0) Z).cell Z)) nd ?_
  have f110 := f65.up (((((((((((((le9.trans le14).trans le19).trans le24).trans le28).trans le44).trans le68).trans le72).trans le80).trans le89).trans le98).trans le102).trans le105).trans le108)
  obtain ⟨x111, hx112, h113⟩ := bindS h95
  refine O.call (V := V107) Z Z (.inl Z) Z en21 (aC (L 0 Z Z) aN) (wk_slices_Clone_2 V107 _ x53.args v64 f110 ow109 _ hx112) (fun _ _ _ _ => nd) (fun v114 V115 le116 hp117 => ?_)
  obtain ⟨_, rfl, ow118⟩ := hp117
  refine U.p (v := .pointer (some ⟨b66, 5, none⟩)) Z Z (.inl Z) (S.fieldAddr Z (L 18 Z Z) Try.underlying29 Z ti27 Z Z) ?_
  refine O.store (k := 1) (cs := [v114]) (c' := [.int .i64 x53.op, .int .i64 x75, .int .i64 x84, .int .i64 x93, .int .i64 x53.imm, v114, .int .i64 x53.what, .bool x53.volatile, .bool x53.final]) ow118 Z Z Z (.inl Z) Z (L 0 Z Z) (L 1 Z Z) ti27 (ow118.osne (k := 0) Z) (by rw [ow118.oscells (k := 0) rfl]) Z (nr Z) (by have q0 := (ow118.osone (k := 0) Z); simp only [List.all_cons, List.all_nil, q0]; rfl) Z nd (fun V121 le122 ow123 => ?_)
  refine U.done (nr Z) ?_
  refine WP.seq ?_
  refine WP.usreg Z ?_
  refine U.p (v := .pointer (some ⟨b66, 5, none⟩)) Z Z (.inl Z) (S.fieldAddr Z (L 19 Z Z) Try.underlying29 Z ti27 Z Z) ?_
  refine U.k Z Z (.inl Z) (S.load Z (L 0 Z Z) Try.underlying27 Z ((ow123.own (k := 1) Z).cell Z)) nd ?_
  refine U.p Z Z (.inl Z) (ow123.oslen (k := 0) Z Z (L 0 Z Z) Try.underlying27) ?_
  refine U.p Z Z (.inl Z) (S.move Z K) ?_
  refine U.done (nr Z) ?_
  refine WP.blk ?_
  have ow126 := ow123.pick 0 Z
  have ow127 := ow126.pick 1 Z
  have ow128 := ow127.pick 5 Z
  have ow129 := ow128.pick 5 Z
  have ow130 := ow129.pick 5 Z
  have ow131 := ow130.pick 5 Z
  unfold regs_Rename_l2 at h113
  obtain ⟨n133, hn132⟩ := loopO_some.1 h113
  refine WP.loopI2 (fun n l V' => ∃ (xs124 : List Int) (x125 : Int), l = [(3, .pointer (some ⟨b12, 0, none⟩)), (4, .pointer (some ⟨b17, 0, none⟩)), (5, .pointer (some ⟨b22, 0, none⟩)), (7, .pointer (some ⟨b66, 0, none⟩)), (19, v1), (20, .int .i64 (p0.code.length : Int)), (21, .int .i64 x33), (45, v114), (46, .int .i64 (x111.length : Int)), (47, .int .i64 x125)] ∧ V121.le V' ∧ Ow V' (.pt b12 (.cells 0 [v3, .int .i64 p1.spill]) :: .pt b17 (.cells 4 [.string ByteArray.empty, .int .i64 0, .int .i64 0, .slice none 0 0]) :: .pt b22 (.cells 4 [.string p0.name, .int .i64 p0.params, .int .i64 (w64 (10 + p1.spill)), v31]) :: .os RT_TIns v31 xs32 :: .pt b66 (.cells 9 [.int .i64 x53.op, .int .i64 x75, .int .i64 x84, .int .i64 x93, .int .i64 x53.imm, v114, .int .i64 x53.what, .bool x53.volatile, .bool x53.final]) :: .os (RT.int .i64) v114 xs124 :: Rs) ∧ itO (fun s => regs_Rename_l2b p1 xs32 x33 x53 x75 x84 x93 x111 s.1 s.2) n (xs124, x125) = some q47) n133 _ ⟨x111, 0, Z, .refl _, ow131, hn132⟩ (allCons (L 27 Z Z) (allCons (L 28 Z Z) (allCons (L 29 Z Z) (allCons (L 23 Z Z) (allCons (L 30 Z Z) (allCons (L 31 Z Z) (allCons (L 32 Z Z) (allCons (L 2 Z Z) (allCons (L 1 Z Z) (allCons (L 0 Z Z) allNil)))))))))) ?_
  rintro _ _ V134 ⟨xs124, x125, rfl, le135, ow136, h140⟩
  obtain ⟨m137, q138, rfl, h141, e139⟩ := itS h140
  replace h141 : regs_Rename_l2b p1 xs32 x33 x53 x75 x84 x93 x111 xs124 x125 = some q138 := h141
  unfold regs_Rename_l2b at h141
  refine WP.usreg Z ?_
  refine U.p Z Z (.inl Z) (S.lss Z (L 9 Z Z) (L 8 Z Z)) ?_
  refine U.done (nr Z) ?_
  refine WP.seq ?_
  refine WP.cond _ (L 0 Z Z) Z (fun c142 => ?_) (fun c142 => ?_)
  ·have h143 := ifT c142 h141
   refine WP.skip ?_
   refine sqN ?_
   refine WP.seq ?_
   refine WP.blk ?_
   refine WP.usreg Z ?_
   refine U.p Z Z (.inl Z) (S.move Z (L 10 Z Z)) ?_
   obtain ⟨x144, hx145, h146⟩ := bindS h143
   obtain ⟨b147, o148, n149, c150, hv151⟩ := ow136.ospt (k := 5) Z hx145
   obtain ⟨_, hv152, _⟩ := ow136.osel (k := 5) Z hv151 hx145
   refine U.p Z Z (.inl Z) (S.index Z ((L 9 Z Z).trans hv152) (L 11 Z Z) Try.underlying27 ti3 (ix_ge hx145) (ix_lt hx145)) ?_
   obtain ⟨cs153, hv154, hlt155, hr156, hc157⟩ := ow136.osel (k := 5) Z hv151 hx145
   obtain rfl : cs153 = [.int .i64 x144] := hr156
   refine U.k Z Z (.inl Z) (S.load Z (L 0 Z Z) Try.underlying3 Z (hc157 0 _ Z)) nd ?_
   refine U.p Z Z (.inl Z) (S.assign Z (L 2 Z Z)) ?_
   refine U.p Z Z (.inl Z) (S.assign Z (L 1 Z Z)) ?_
   refine U.done (nr Z) ?_
   refine WP.udreg Z Z Z ?_
   refine U.p (v := .pointer (some ⟨b66, 5, none⟩)) Z Z (.inl Z) (S.fieldAddr Z (L 9 Z Z) Try.underlying29 Z ti27 Z Z) ?_
   refine U.k Z Z (.inl Z) (S.loadC Z (L 0 Z Z) Try.underlying27 Z ((ow136.own (k := 4) Z).cell Z)) (fun _ => (okH.nil (fun r h => by cases h; exact (ow136.own (k := 4) Z).lt))) ?_
   refine U.p Z Z (.inl Z) (S.move Z (L 3 Z Z)) ?_
   refine U.k Z Z (.inl Z) (S.loadB Z (L 9 Z Z) Try.underlying31 Z ti31 (ow136.own (k := 0) Z).get Z) (fun _ => (okH.cons trivial (okH.nil (fun r h => by cases h; exact (ow136.own (k := 0) Z).lt)))) ?_
   refine U.p Z Z (.inl Z) (S.move Z (L 4 Z Z)) ?_
   have f158 := f92.up ((((((le98.trans le102).trans le105).trans le108).trans le116).trans le122).trans le135)
   obtain ⟨x159, hx160, h161⟩ := bindS h146
   refine O.call (V := V134) Z Z (.inl Z) Z en20 (aC (L 1 Z Z) (aC (L 0 Z Z) aN)) (wk_regs_Map_place V134 _ p1 x144 v3 f158 ow136 _ hx160) (fun v162 V163 le164 hp165 => by obtain ⟨rfl, ow166⟩ := hp165; exact (fun _ => (okH.cons (Or.inl Z) (okH.cons (Or.inr ((lookC ((ow166.own (k := 4) Z).cell Z) ((ow136.own (k := 4) Z).cell Z)))) (okH.nil (fun r h => nomatch h)))))) (fun v162 V163 le164 hp165 => ?_)
   obtain ⟨rfl, ow166⟩ := hp165
   obtain ⟨x167, hx168, h169⟩ := bindS h161
   obtain ⟨_, hv170, _⟩ := ow166.osel (k := 5) Z hv151 hx168
   refine U.p Z Z (.inl Z) (S.index Z ((L 4 Z Z).trans hv170) (L 3 Z Z) Try.underlying27 ti3 (ix_ge hx168) (ix_lt hx168)) ?_
   obtain ⟨cs171, hv172, hlt173, hr174, hc175⟩ := ow166.osel (k := 5) Z hv151 hx168
   obtain rfl : cs171 = [.int .i64 x167] := hr174
   refine O.storeE (k := 5) (R := (RT.int .i64)) (j := 0) (y := x159) (cs := [.int .i64 x159]) ow166 Z hv172 Z Z (.inl Z) Z (L 0 Z Z) (L 1 Z Z) ti3 hx168 (by simp [topV]) Z Z Z (full Z) (fun H1 hs => (fun _ => (okH.cons Z (okH.cons (Or.inl Z) (okH.cons (Or.inl Z) (okH.nil (fun r h => nomatch h))))))) (fun V176 le177 ow178 => ?_)
   refine U.done (nr Z) ?_
   refine blkN (sqN ?_)
   refine WP.ureg Z ?_
   refine U.p Z Z (.inl Z) (S.add Z (L 22 Z Z) K) ?_
   refine U.p Z Z (.inl Z) (S.move Z (L 0 Z Z)) ?_
   refine U.done (nr Z) ?_
   refine sqN ?_
   exact ⟨_, V176, Z, ⟨m137, Nat.lt_succ_self _, xs124.set (Int.toNat x125) x159, w64 (x125 + 1), Z, ((le135.trans le164).trans le177), ow178, backS h169 e139⟩, (allCons (L 15 Z Z) (allCons (L 16 Z Z) (allCons (L 17 Z Z) (allCons (L 18 Z Z) (allCons (L 19 Z Z) (allCons (L 20 Z Z) (allCons (L 21 Z Z) (allCons (L 22 Z Z) (allCons (L 23 Z Z) (allCons (L 0 Z Z) allNil))))))))))⟩
  ·have h179 := ifF c142 h141
   refine WP.exit ?_
   refine sqE (sqE (blkE (sqN ?_)))
   have h180 := exitS h179 e139
   refine WP.ureg Z ?_
   refine U.p (v := .pointer (some ⟨b22, 3, none⟩)) Z Z (.inl Z) (S.fieldAddr Z (L 3 Z Z) Try.underlying24 Z ti22 Z Z) ?_
   refine U.k Z Z (.inl Z) (S.load Z (L 0 Z Z) Try.underlying22 Z ((ow136.own (k := 2) Z).cell Z)) nd ?_
   refine U.k Z Z (.inl Z) (S.loadB Z (L 6 Z Z) Try.underlying29 Z ti29 (ow136.own (k := 4) Z).get Z) nd ?_
   obtain ⟨V181, eV185, le182, f183, ow184⟩ := ow136.osfz (k := 5) Z
   rw [← eV185]
   refine O.lit (R := RT_TIns) ow184 Z Z (.inl Z) Z Try.underlying22 ti29 Z Z Z (nr Z) Z (aC (L 0 Z Z) aN) (.cons _ _ (⟨x53.op, x75, x84, x93, x53.imm, xs124, x53.what, x53.volatile, x53.final⟩ : TIns) _ (by simp [topV]) ⟨_, Z, f183⟩ .nil) (fun _ => nd) (fun v187 V188 le189 ow190 => ?_)
   obtain ⟨xs192, hx193, h194⟩ := bindS h180
   refine O.append (k := 4) ow190 Z Z Z (.inl Z) Z (L 2 Z Z) (L 0 Z Z) Try.underlying22 ti29 Z Z (nr Z) (ow190.src (k := 0) Z Try.underlying22) hx193 (fun _ _ => nd) (fun v195 V196 le197 ow198 => ?_)
   refine U.p (v := .pointer (some ⟨b22, 3, none⟩)) Z Z (.inl Z) (S.fieldAddr Z (L 8 Z Z) Try.underlying24 Z ti22 Z Z) ?_
   refine O.store (k := 3) (cs := [v195]) (c' := [.string p0.name, .int .i64 p0.params, .int .i64 (w64 (10 + p1.spill)), v195]) ow198 Z Z Z (.inl Z) Z (L 0 Z Z) (L 1 Z Z) ti22 (ow198.osne (k := 4) Z) (by rw [ow198.oscells (k := 4) rfl]) Z (nr Z) (by have q0 := (ow198.osone (k := 4) Z); simp only [List.all_cons, List.all_nil, q0]; rfl) Z nd (fun V200 le201 ow202 => ?_)
   refine U.done (nr Z) ?_
   refine blkN (sqN ?_)
   refine WP.ureg Z ?_
   refine U.p Z Z (.inl Z) (S.add Z (L 13 Z Z) K) ?_
   refine U.p Z Z (.inl Z) (S.move Z (L 0 Z Z)) ?_
   refine U.done (nr Z) ?_
   refine sqN ?_
   have ow203 := ow202.drop 0 Z
   have ow204 := ow203.drop 4 Z
   exact ⟨_, V200, Z, ⟨m46, Nat.lt_succ_self _, v195, xs192, w64 (x33 + 1), Z, (((((((((((((((le44.trans le68).trans le72).trans le80).trans le89).trans le98).trans le102).trans le105).trans le108).trans le116).trans le122).trans le135).trans le182).trans le189).trans le197).trans le201), ow204, backS h194 e48⟩, (allCons (L 9 Z Z) (allCons (L 10 Z Z) (allCons (L 11 Z Z) (allCons (L 13 Z Z) (allCons (L 14 Z Z) (allCons (L 0 Z Z) allNil))))))⟩
 ·have h205 := ifF c51 h50
  refine WP.exit ?_
  refine sqE (sqE (blkE (sqN ?_)))
  have h206 := exitS h205 e48
  refine WP.usreg Z ?_
  refine U.k Z Z (.inl Z) (S.loadB Z (L 3 Z Z) Try.underlying24 Z ti24 (ow45.own (k := 2) Z).get Z) nd ?_
  refine O.store (k := 1) (cs := [.string p0.name, .int .i64 p0.params, .int .i64 (w64 (10 + p1.spill)), v31]) (c' := [.string p0.name, .int .i64 p0.params, .int .i64 (w64 (10 + p1.spill)), v31]) ow45 Z Z Z (.inl Z) Z (L 3 Z Z) (L 0 Z Z) ti24 (by simp [topV]) Z Z (nr Z) (by have q0 := (ow45.osone (k := 3) Z); simp only [List.all_cons, List.all_nil, q0]; rfl) Z nd (fun V207 le208 ow209 => ?_)
  refine U.done (nr Z) ?_
  refine WP.ret ?_
  obtain ⟨V210, eV214, le211, f212, ow213⟩ := ow209.osfz (k := 3) Z
  rw [← eV214]
  refine fin.cellN (.inr Z) Z (L 3 Z Z) Try.underlying24 Z ti24 (ow213.own (k := 1) Z).get Z ⟨V210, Z, (((((((le9.trans le14).trans le19).trans le24).trans le28).trans le44).trans le208).trans le211), ?_⟩
  have ow216 := ow213.drop 0 Z
  have ow217 := ow216.drop 0 Z
  have ow218 := ow217.drop 0 Z
  have e219 := Option.some.inj h206
  subst e219
  exact ⟨v31, Z, f212, ow218⟩
theorem wk_law13_RegsSame (V : Vw) (Rs : List At) (p0 : TFunc) (v1 : Value) (f2 : Fz RT_TIns V v1 p0.code) (ow : Ow V (Rs)) (r : Bool) (h : law13_RegsSame p0 = some r) : ∃ v V', Cl Try.prog 0 4 #[.agg #[.string p0.name, .int .i64 p0.params, .int .i64 p0.regs, v1]] V.H v V'.H ∧ V.le V' ∧ (v = .bool r ∧ Ow V' (Rs)) := by
 refine Ct.of (Nat.zero_le _) Try.func4 Z (nr Z) ?_
 unfold law13_RegsSame at h
 refine WP.usreg Z ?_
 refine O.box ow Z Z (.inl Z) Z (L 0 Z Z) (by simp [topV]) Z nd (fun b3 V4 le5 ow6 => ?_)
 refine U.p Z Z (.inl Z) (S.assign Z K) ?_
 refine U.done (nr Z) ?_
 refine WP.seq ?_
 refine WP.usreg Z ?_
 obtain ⟨x8, hx9, h10⟩ := bindS h
 refine O.call (V := V4) Z Z (.inl Z) Z en6 aN (wk_law13_alive V4 _ ow6 _ hx9) (fun _ _ _ _ => nd) (fun v11 V12 le13 hp14 => ?_)
 obtain ⟨rfl, ow15⟩ := hp14
 refine U.p Z Z (.inl Z) (S.not Z (L 0 Z Z)) ?_
 refine U.done (nr Z) ?_
 refine WP.cond _ (L 0 Z Z) Z (fun c16 => ?_) (fun c16 => ?_)
 ·have h17 := ifT c16 h10
  have k18 : x8 = false := nT c16
  refine WP.usreg Z ?_
  refine U.p Z Z (.inl Z) (S.assign Z K) ?_
  refine U.done (nr Z) ?_
  refine WP.ret ?_
  refine sqR ?_
  refine fin.slot (.inr Z) Z (L 0 Z Z) ⟨V12, Z, (le5.trans le13), ?_⟩
  have ow19 := ow15.drop 0 Z
  have e20 := Option.some.inj h17
  subst e20
  exact ⟨rfl, ow19⟩
 ·have h21 := ifF c16 h10
  have k22 : x8 = true := nF c16
  refine WP.skip ?_
  refine sqN ?_
  refine WP.seq ?_
  refine WP.usreg Z ?_
  refine U.p (v := .pointer (some ⟨b3, 3, none⟩)) Z Z (.inl Z) (S.fieldAddr Z (L 3 Z Z) Try.underlying24 Z ti22 Z Z) ?_
  refine U.k Z Z (.inl Z) (S.load Z (L 0 Z Z) Try.underlying22 Z ((ow15.own (k := 0) Z).cell Z)) nd ?_
  refine U.p Z Z (.inl Z) (f2.1.len Z (L 0 Z Z) Try.underlying22) ?_
  refine U.p Z Z (.inl Z) (S.gtr Z (L 0 Z Z) K) ?_
  refine U.p Z Z (.inl Z) (S.move Z (L 0 Z Z)) ?_
  refine U.joinX 9 (fun e H => ∃ (u23 u24 u25 : Value), H = V12.H ∧ e = [(16, .bool ((decide (60 < (p0.code.length : Int))) || (decide (40 < p0.regs)))), (15, u23), (14, u24), (13, u25)]) ?_ ?_
  ·rintro _ _ ⟨u23, u24, u25, rfl, rfl⟩
   refine U.p Z Z (.inl Z) (S.move Z (L 0 Z Z)) ?_
   obtain ⟨y29, hy30, h31⟩ := bindS h21
   refine U.joinX 14 (fun e H => ∃ (u32 u33 u34 : Value), ∃ V' : Vw, H = V'.H ∧ V12.le V' ∧ e = [(21, .bool y29), (20, u32), (19, u33), (18, u34)] ∧ Ow V' (.pt b3 (.cells 0 [.string p0.name, .int .i64 p0.params, .int .i64 p0.regs, v1]) :: Rs)) ?_ ?_
   ·rintro _ _ ⟨u32, u33, u34, V35, rfl, le36, rfl, ow37⟩
    refine U.done (nr Z) ?_
    refine WP.cond _ (L 0 Z Z) Z (fun c38 => ?_) (fun c38 => ?_)
    ·have h39 := ifT c38 h31
     refine WP.usreg Z ?_
     refine U.p Z Z (.inl Z) (S.assign Z K) ?_
     refine U.done (nr Z) ?_
     refine WP.ret ?_
     refine sqR ?_
     refine fin.slot (.inr Z) Z (L 0 Z Z) ⟨V35, Z, ((le5.trans le13).trans le36), ?_⟩
     have ow40 := ow37.drop 0 Z
     have e41 := Option.some.inj h39
     subst e41
     exact ⟨rfl, ow40⟩
    ·have h42 := ifF c38 h31
     refine WP.skip ?_
     refine sqN ?_
     refine WP.usreg Z ?_
     refine U.k Z Z (.inl Z) (S.loadB Z (L 17 Z Z) Try.underlying24 Z ti24 (ow37.own (k := 0) Z).get Z) nd ?_
     have f43 := f2.up ((le5.trans le13).trans le36)
     obtain ⟨x44, hx45, h46⟩ := bindS h42
     refine O.call (V := V35) Z Z (.inl Z) Z en8 (aC (L 0 Z Z) aN) (wk_regs_Assign V35 _ p0 v1 f43 ow37 _ hx45) (fun _ _ _ _ => nd) (fun v47 V48 le49 hp50 => ?_)
     obtain ⟨v52, rfl, f53, ow51⟩ := hp50
     refine O.alloc ow51 Z Z (.inl Z) Z ti31 Z Z nd (fun b54 V55 le56 ow57 => ?_)
     refine O.store (k := 0) (cs := [v52, .int .i64 x44.spill]) (c' := [v52, .int .i64 x44.spill]) ow57 Z Z Z (.inl Z) Z (L 0 Z Z) (L 1 Z Z) ti31 (by simp [topV]) Z Z (nr Z) (by have q0 := f53.one; simp only [List.all_cons, List.all_nil, q0]; rfl) Z nd (fun V59 le60 ow61 => ?_)
     refine U.done (nr Z) ?_
     refine WP.usreg Z ?_
     refine U.k Z Z (.inl Z) (S.loadB Z (L 20 Z Z) Try.underlying24 Z ti24 (ow61.own (k := 1) Z).get Z) nd ?_
     refine U.k Z Z (.inl Z) (S.loadB Z (L 1 Z Z) Try.underlying31 Z ti31 (ow61.own (k := 0) Z).get Z) nd ?_
     have f62 := f43.up ((le49.trans le56).trans le60)
     have f63 := f53.up (le56.trans le60)
     obtain ⟨x64, hx65, h66⟩ := bindS h46
     refine O.call (V := V59) Z Z (.inl Z) Z en10 (aC (L 1 Z Z) (aC (L 0 Z Z) aN)) (wk_regs_Rename V59 _ p0 x44 v1 v52 f62 f63 ow61 _ hx65) (fun _ _ _ _ => nd) (fun v67 V68 le69 hp70 => ?_)
     obtain ⟨v72, rfl, f73, ow71⟩ := hp70
     refine O.alloc ow71 Z Z (.inl Z) Z ti24 Z Z nd (fun b74 V75 le76 ow77 => ?_)
     refine O.store (k := 0) (cs := [.string x64.name, .int .i64 x64.params, .int .i64 x64.regs, v72]) (c' := [.string x64.name, .int .i64 x64.params, .int .i64 x64.regs, v72]) ow77 Z Z Z (.inl Z) Z (L 0 Z Z) (L 1 Z Z) ti24 (by simp [topV]) Z Z (nr Z) (by have q0 := f73.one; simp only [List.all_cons, List.all_nil, q0]; rfl) Z nd (fun V79 le80 ow81 => ?_)
     refine U.done (nr Z) ?_
     refine WP.seq ?_
     refine WP.usreg Z ?_
     refine U.p (v := .pointer (some ⟨b74, 3, none⟩)) Z Z (.inl Z) (S.fieldAddr Z (L 0 Z Z) Try.underlying24 Z ti22 Z Z) ?_
     refine U.k Z Z (.inl Z) (S.load Z (L 0 Z Z) Try.underlying22 Z ((ow81.own (k := 0) Z).cell Z)) nd ?_
     refine U.p Z Z (.inl Z) (f73.1.len Z (L 0 Z Z) Try.underlying22) ?_
     refine U.p (v := .pointer (some ⟨b3, 3, none⟩)) Z Z (.inl Z) (S.fieldAddr Z (L 27 Z Z) Try.underlying24 Z ti22 Z Z) ?_
     refine U.k Z Z (.inl Z) (S.load Z (L 0 Z Z) Try.underlying22 Z ((ow81.own (k := 2) Z).cell Z)) nd ?_
     refine U.p Z Z (.inl Z) (f62.1.len Z (L 0 Z Z) Try.underlying22) ?_
     refine U.p Z Z (.inl Z) (S.neqI Z (L 3 Z Z) (L 0 Z Z)) ?_
     refine U.p Z Z (.inl Z) (S.move Z (L 0 Z Z)) ?_
     obtain ⟨y82, hy83, h84⟩ := bindS h66
     refine U.joinX 19 (fun e H => ∃ (u85 u86 u87 u88 u89 u90 u91 u92 u93 u94 : Value), ∃ V' : Vw, H = V'.H ∧ V79.le V' ∧ e = [(45, .bool y82), (44, u85), (43, u86), (42, u87), (41, u88), (40, u89), (39, u90), (38, u91), (37, u92), (36, u93), (35, u94)] ∧ Ow V' (.pt b74 (.cells 4 [.string x64.name, .int .i64 x64.params, .int .i64 x64.regs, v72]) :: .pt b54 (.cells 2 [v52, .int .i64 x44.spill]) :: .pt b3 (.cells 0 [.string p0.name, .int .i64 p0.params, .int .i64 p0.regs, v1]) :: Rs)) ?_ ?_
     ·rintro _ _ ⟨u85, u86, u87, u88, u89, u90, u91, u92, u93, u94, V95, rfl, le96, rfl, ow97⟩
      refine U.done (nr Z) ?_
      refine WP.cond _ (L 0 Z Z) Z (fun c98 => ?_) (fun c98 => ?_)
      ·have h99 := ifT c98 h84
       refine WP.usreg Z ?_
       refine U.p Z Z (.inl Z) (S.assign Z K) ?_
       refine U.done (nr Z) ?_
       refine WP.ret ?_
       refine sqR ?_
       refine fin.slot (.inr Z) Z (L 0 Z Z) ⟨V95, Z, (((((((((le5.trans le13).trans le36).trans le49).trans le56).trans le60).trans le69).trans le76).trans le80).trans le96), ?_⟩
       have ow100 := ow97.drop 0 Z
       have ow101 := ow100.drop 0 Z
       have ow102 := ow101.drop 0 Z
       have e103 := Option.some.inj h99
       subst e103
       exact ⟨rfl, ow102⟩
      ·have h104 := ifF c98 h84
       refine WP.skip ?_
       refine sqN ?_
       refine WP.seq ?_
       refine WP.usreg Z ?_
       refine U.p (v := .pointer (some ⟨b3, 3, none⟩)) Z Z (.inl Z) (S.fieldAddr Z (L 43 Z Z) Try.underlying24 Z ti22 Z Z) ?_
       refine U.k Z Z (.inl Z) (S.load Z (L 0 Z Z) Try.underlying22 Z ((ow97.own (k := 2) Z).cell Z)) nd ?_
       refine U.p Z Z (.inl Z) (f62.1.len Z (L 0 Z Z) Try.underlying22) ?_
       refine U.p Z Z (.inl Z) (S.move Z K) ?_
       refine U.done (nr Z) ?_
       refine WP.blk ?_
       have ow106 := ow97.drop 1 Z
       have ow107 := ow106.pick 0 Z
       have ow108 := ow107.pick 1 Z
       unfold law13_RegsSame_l1 at h104
       obtain ⟨n110, hn109⟩ := loopO_some.1 h104
       refine WP.loopI2 (fun n l V' => ∃ (x105 : Int), l = [(1, .pointer (some ⟨b3, 0, none⟩)), (4, .pointer (some ⟨b74, 0, none⟩)), (48, .int .i64 (p0.code.length : Int)), (49, .int .i64 x105)] ∧ V95.le V' ∧ Ow V' (.pt b3 (.cells 0 [.string p0.name, .int .i64 p0.params, .int .i64 p0.regs, v1]) :: .pt b74 (.cells 4 [.string x64.name, .int .i64 x64.params, .int .i64 x64.regs, v72]) :: Rs) ∧ itO (fun s => law13_RegsSame_l1b p0 x64 s) n x105 = some r) n110 _ ⟨0, Z, .refl _, ow108, hn109⟩ (allCons (L 47 Z Z) (allCons (L 23 Z Z) (allCons (L 1 Z Z) (allCons (L 0 Z Z) allNil)))) ?_
       rintro _ _ V111 ⟨x105, rfl, le112, ow113, h117⟩
       obtain ⟨m114, q115, rfl, h118, e116⟩ := itS h117
       replace h118 : law13_RegsSame_l1b p0 x64 x105 = some q115 := h118
       unfold law13_RegsSame_l1b at h118
       refine WP.usreg Z ?_
       refine U.p Z Z (.inl Z) (S.lss Z (L 3 Z Z) (L 2 Z Z)) ?_
       refine U.done (nr Z) ?_
       refine WP.seq ?_
       refine WP.cond _ (L 0 Z Z) Z (fun c119 => ?_) (fun c119 => ?_)
       ·have h120 := ifT c119 h118
        refine WP.skip ?_
        refine sqN ?_
        refine WP.seq ?_
        refine WP.blk ?_
        refine WP.usreg Z ?_
        refine U.p Z Z (.inl Z) (S.move Z (L 4 Z Z)) ?_
        refine U.p Z Z (.inl Z) (S.assign Z (L 0 Z Z)) ?_
        refine U.done (nr Z) ?_
        refine WP.seqI (fun l V' => ∃ (x121 : Bool), l = [(1, .pointer (some ⟨b3, 0, none⟩)), (4, .pointer (some ⟨b74, 0, none⟩)), (48, .int .i64 (p0.code.length : Int)), (49, .int .i64 x105), (96, .bool x121)] ∧ V111.le V' ∧ Ow V' (.pt b3 (.cells 0 [.string p0.name, .int .i64 p0.params, .int .i64 p0.regs, v1]) :: .pt b74 (.cells 4 [.string x64.name, .int .i64 x64.params, .int .i64 x64.regs, v72]) :: Rs) ∧ law13_RegsSame_k1 x105 x121 = some q115) ?_ ?_
        ·rintro _ V122 ⟨x121, rfl, le123, ow124, h125⟩
         unfold law13_RegsSame_k1 at h125
         refine WP.cond _ (L 4 Z Z) Z (fun c126 => ?_) (fun c126 => ?_)
         ·have h127 := ifT c126 h125
          refine WP.usreg Z ?_
          refine U.p Z Z (.inl Z) (S.assign Z K) ?_
          refine U.done (nr Z) ?_
          refine WP.ret ?_
          refine blkR (sqR (sqR (blkR (sqR ?_))))
          have h128 := exitS h127 e116
          refine fin.slot (.inr Z) Z (L 0 Z Z) ⟨V122, Z, (((((((((((le5.trans le13).trans le36).trans le49).trans le56).trans le60).trans le69).trans le76).trans le80).trans le96).trans le112).trans le123), ?_⟩
          have ow129 := ow124.drop 0 Z
          have ow130 := ow129.drop 0 Z
          have e131 := Option.some.inj h128
          subst e131
          exact ⟨rfl, ow130⟩
         ·have h132 := ifF c126 h125
          refine WP.skip ?_
          refine blkN (sqN ?_)
          refine WP.ureg Z ?_
          refine U.p Z Z (.inl Z) (S.add Z (L 3 Z Z) K) ?_
          refine U.p Z Z (.inl Z) (S.move Z (L 0 Z Z)) ?_
          refine U.done (nr Z) ?_
          refine sqN ?_
          exact ⟨_, V122, Z, ⟨m114, Nat.lt_succ_self _, w64 (x105 + 1), Z, (le112.trans le123), ow124, backS h132 e116⟩, (allCons (L 2 Z Z) (allCons (L 3 Z Z) (allCons (L 4 Z Z) (allCons (L 0 Z Z) allNil))))⟩
        ·skip
         refine WP.udreg Z Z Z ?_
         refine U.p (v := .pointer (some ⟨b3, 3, none⟩)) Z Z (.inl Z) (S.fieldAddr Z (L 3 Z Z) Try.underlying24 Z ti22 Z Z) ?_
         refine U.k Z Z (.inl Z) (S.loadC Z (L 0 Z Z) Try.underlying22 Z ((ow113.own (k := 0) Z).cell Z)) (fun _ => (okH.nil (fun r h => by cases h; exact (ow113.own (k := 0) Z).lt))) ?_
         refine U.p Z Z (.inl Z) (S.move Z (L 2 Z Z)) ?_
         obtain ⟨x133, hx134, h135⟩ := bindS h120
         obtain ⟨b136, o137, c138, cs139, hv140, hf141, hr142, hc143⟩ := f62.at hx134
         obtain ⟨v144, rfl, f145⟩ := hr142
         refine U.p Z Z (.inl Z) (S.index Z ((L 1 Z Z).trans hv140) (L 0 Z Z) Try.underlying22 ti29 (ix_ge hx134) (ix_lt hx134)) ?_
         refine U.p (v := .pointer (some ⟨b136, o137 + Int.toNat x105 * 9, none⟩)) Z Z (.inl Z) (S.fieldAddr Z (L 0 Z Z) Try.underlying29 Z ti3 Z Z) ?_
         refine U.k Z Z (.inl Z) (S.load Z (L 0 Z Z) Try.underlying3 Z (((((le69.trans le76).trans le80).trans le96).trans le112).cell hf141 (hc143 0 _ Z))) (fun _ => (okH.cons trivial (okH.nil (fun r h => by cases h; exact (V111.wf _ (((((le69.trans le76).trans le80).trans le96).trans le112).sub _ hf141)))))) ?_
         refine U.p (v := .pointer (some ⟨b74, 3, none⟩)) Z Z (.inl Z) (S.fieldAddr Z (L 10 Z Z) Try.underlying24 Z ti22 Z Z) ?_
         refine U.k Z Z (.inl Z) (S.loadC Z (L 0 Z Z) Try.underlying22 Z ((ow113.own (k := 1) Z).cell Z)) (fun _ => (okH.cons trivial (okH.cons trivial (okH.nil (fun r h => by cases h; exact (ow113.own (k := 1) Z).lt))))) ?_
         refine U.p Z Z (.inl Z) (S.move Z (L 8 Z Z)) ?_
         obtain ⟨x146, hx147, h148⟩ := bindS h135
         obtain ⟨b149, o150, c151, cs152, hv153, hf154, hr155, hc156⟩ := f73.at hx147
         obtain ⟨v157, rfl, f158⟩ := hr155
         refine U.p Z Z (.inl Z) (S.index Z ((L 1 Z Z).trans hv153) (L 0 Z Z) Try.underlying22 ti29 (ix_ge hx147) (ix_lt hx147)) ?_
         refine U.p (v := .pointer (some ⟨b149, o150 + Int.toNat x105 * 9, none⟩)) Z Z (.inl Z) (S.fieldAddr Z (L 0 Z Z) Try.underlying29 Z ti3 Z Z) ?_
         refine U.k Z Z (.inl Z) (S.load Z (L 0 Z Z) Try.underlying3 Z ((((le76.trans le80).trans le96).trans le112).cell hf154 (hc156 0 _ Z))) (fun _ => (okH.cons trivial (okH.cons trivial (okH.cons trivial (okH.nil (fun r h => by cases h; exact (V111.wf _ ((((le76.trans le80).trans le96).trans le112).sub _ hf154)))))))) ?_
         refine U.p Z Z (.inl Z) (S.neqI Z (L 6 Z Z) (L 0 Z Z)) ?_
         refine U.p Z Z (.inl Z) (S.move Z (L 0 Z Z)) ?_
         refine bcase (b := decide (x133.op ≠ x146.op)) (fun g159 => ?_) (fun g159 => ?_)
         ·have h160 := ifT g159 h148
          refine U.x Z Z Z Z ((L 0 Z Z).trans (cB g159)) (by decide) ?_
          refine U.x Z Z Z Z ((L 1 Z Z).trans (cB g159)) (by decide) ?_
          refine U.x Z Z Z Z ((L 2 Z Z).trans (cB g159)) (by decide) ?_
          refine U.x Z Z Z Z ((L 3 Z Z).trans (cB g159)) (by decide) ?_
          refine U.x Z Z Z Z ((L 4 Z Z).trans (cB g159)) (by decide) ?_
          refine U.x Z Z Z Z ((L 5 Z Z).trans (cB g159)) (by decide) ?_
          refine U.x Z Z Z Z ((L 6 Z Z).trans (cB g159)) (by decide) ?_
          refine U.x Z Z Z Z ((L 7 Z Z).trans (cB g159)) (by decide) ?_
          refine U.x Z Z Z Z ((L 8 Z Z).trans (cB g159)) (by decide) ?_
          refine U.x Z Z Z Z ((L 9 Z Z).trans (cB g159)) (by decide) ?_
          refine U.x Z Z Z Z ((L 10 Z Z).trans (cB g159)) (by decide) ?_
          refine U.x Z Z Z Z ((L 11 Z Z).trans (cB g159)) (by decide) ?_
          refine U.x Z Z Z Z ((L 12 Z Z).trans (cB g159)) (by decide) ?_
          refine U.p Z Z (.inl Z) (S.pickT Z ((L 13 Z Z).trans (cB g159)) K) ?_
          refine U.p Z Z (.inl Z) (S.move Z (L 0 Z Z)) ?_
          refine U.x Z Z Z Z (L 0 Z Z) (by decide) ?_
          refine U.x Z Z Z Z (L 1 Z Z) (by decide) ?_
          refine U.x Z Z Z Z (L 2 Z Z) (by decide) ?_
          refine U.x Z Z Z Z (L 3 Z Z) (by decide) ?_
          refine U.x Z Z Z Z (L 4 Z Z) (by decide) ?_
          refine U.x Z Z Z Z (L 5 Z Z) (by decide) ?_
          refine U.x Z Z Z Z (L 6 Z Z) (by decide) ?_
          refine U.x Z Z Z Z (L 7 Z Z) (by decide) ?_
          refine U.x Z Z Z Z (L 8 Z Z) (by decide) ?_
          refine U.x Z Z Z Z (L 9 Z Z) (by decide) ?_
          refine U.x Z Z Z Z (L 10 Z Z) (by decide) ?_
          refine U.x Z Z Z Z (L 11 Z Z) (by decide) ?_
          refine U.x Z Z Z Z (L 12 Z Z) (by decide) ?_
          refine U.x Z Z Z Z (L 13 Z Z) (by decide) ?_
          refine U.x Z Z Z Z (L 14 Z Z) (by decide) ?_
          refine U.p Z Z (.inl Z) (S.pickT Z (L 15 Z Z) K) ?_
          refine U.done (nr Z) ?_
          refine sqN ?_
          exact ⟨_, V111, Z, ⟨true, Z, (.refl _), ow113, h160⟩, (allCons (L 48 Z Z) (allCons (L 49 Z Z) (allCons (L 50 Z Z) (allCons (L 51 Z Z) (allCons (L 0 Z Z) allNil)))))⟩
         ·have h161 := ifF g159 h148
          refine U.p (v := .pointer (some ⟨b3, 3, none⟩)) Z Z (.inr ⟨_, _, _, Z, Z, ((L 0 Z Z).trans (cB g159))⟩) (S.fieldAddr Z (L 17 Z Z) Try.underlying24 Z ti22 Z Z) ?_
          refine U.k Z Z (.inr ⟨_, _, _, Z, Z, ((L 1 Z Z).trans (cB g159))⟩) (S.loadC Z (L 0 Z Z) Try.underlying22 Z ((ow113.own (k := 0) Z).cell Z)) (fun _ => (okH.cons trivial (okH.cons trivial (okH.cons trivial (okH.cons trivial (okH.nil (fun r h => by cases h; exact (ow113.own (k := 0) Z).lt))))))) ?_
          refine U.p Z Z (.inr ⟨_, _, _, Z, Z, ((L 2 Z Z).trans (cB g159))⟩) (S.move Z (L 16 Z Z)) ?_
          obtain ⟨x162, hx163, h164⟩ := bindS h161
          obtain ⟨b165, o166, c167, cs168, hv169, hf170, hr171, hc172⟩ := f62.at hx163
          obtain ⟨v173, rfl, f174⟩ := hr171
          refine U.p Z Z (.inr ⟨_, _, _, Z, Z, ((L 3 Z Z).trans (cB g159))⟩) (S.index Z ((L 1 Z Z).trans hv169) (L 0 Z Z) Try.underlying22 ti29 (ix_ge hx163) (ix_lt hx163)) ?_
          refine U.p (v := .pointer (some ⟨b165, o166 + Int.toNat x105 * 9 + 4, none⟩)) Z Z (.inr ⟨_, _, _, Z, Z, ((L 4 Z Z).trans (cB g159))⟩) (S.fieldAddr Z (L 0 Z Z) Try.underlying29 Z ti3 Z Z) ?_
          refine U.k Z Z (.inr ⟨_, _, _, Z, Z, ((L 5 Z Z).trans (cB g159))⟩) (S.load Z (L 0 Z Z) Try.underlying3 Z (((((le69.trans le76).trans le80).trans le96).trans le112).cell hf170 (hc172 4 _ Z))) (fun _ => (okH.cons trivial (okH.cons trivial (okH.cons trivial (okH.cons trivial (okH.cons trivial (okH.nil (fun r h => by cases h; exact (V111.wf _ (((((le69.trans le76).trans le80).trans le96).trans le112).sub _ hf170)))))))))) ?_
          refine U.p (v := .pointer (some ⟨b74, 3, none⟩)) Z Z (.inr ⟨_, _, _, Z, Z, ((L 6 Z Z).trans (cB g159))⟩) (S.fieldAddr Z (L 24 Z Z) Try.underlying24 Z ti22 Z Z) ?_
          refine U.k Z Z (.inr ⟨_, _, _, Z, Z, ((L 7 Z Z).trans (cB g159))⟩) (S.loadC Z (L 0 Z Z) Try.underlying22 Z ((ow113.own (k := 1) Z).cell Z)) (fun _ => (okH.cons trivial (okH.cons trivial (okH.cons trivial (okH.cons trivial (okH.cons trivial (okH.cons trivial (okH.nil (fun r h => by cases h; exact (ow113.own (k := 1) Z).lt))))))))) ?_
          refine U.p Z Z (.inr ⟨_, _, _, Z, Z, ((L 8 Z Z).trans (cB g159))⟩) (S.move Z (L 22 Z Z)) ?_
          obtain ⟨x175, hx176, h177⟩ := bindS h164
          obtain ⟨b178, o179, c180, cs181, hv182, hf183, hr184, hc185⟩ := f73.at hx176
          obtain ⟨v186, rfl, f187⟩ := hr184
          refine U.p Z Z (.inr ⟨_, _, _, Z, Z, ((L 9 Z Z).trans (cB g159))⟩) (S.index Z ((L 1 Z Z).trans hv182) (L 0 Z Z) Try.underlying22 ti29 (ix_ge hx176) (ix_lt hx176)) ?_
          refine U.p (v := .pointer (some ⟨b178, o179 + Int.toNat x105 * 9 + 4, none⟩)) Z Z (.inr ⟨_, _, _, Z, Z, ((L 10 Z Z).trans (cB g159))⟩) (S.fieldAddr Z (L 0 Z Z) Try.underlying29 Z ti3 Z Z) ?_
          refine U.k Z Z (.inr ⟨_, _, _, Z, Z, ((L 11 Z Z).trans (cB g159))⟩) (S.load Z (L 0 Z Z) Try.underlying3 Z ((((le76.trans le80).trans le96).trans le112).cell hf183 (hc185 4 _ Z))) (fun _ => (okH.cons trivial (okH.cons trivial (okH.cons trivial (okH.cons trivial (okH.cons trivial (okH.cons trivial (okH.cons trivial (okH.nil (fun r h => by cases h; exact (V111.wf _ ((((le76.trans le80).trans le96).trans le112).sub _ hf183)))))))))))) ?_
          refine U.p Z Z (.inr ⟨_, _, _, Z, Z, ((L 12 Z Z).trans (cB g159))⟩) (S.neqI Z (L 6 Z Z) (L 0 Z Z)) ?_
          refine U.p Z Z (.inl Z) (S.pickF Z ((L 13 Z Z).trans (cB g159)) (L 0 Z Z)) ?_
          refine U.p Z Z (.inl Z) (S.move Z (L 0 Z Z)) ?_
          refine bcase (b := decide (x162.imm ≠ x175.imm)) (fun g188 => ?_) (fun g188 => ?_)
          ·have h189 := ifT g188 h177
           refine U.x Z Z Z Z ((L 0 Z Z).trans (cB g188)) (by decide) ?_
           refine U.x Z Z Z Z ((L 1 Z Z).trans (cB g188)) (by decide) ?_
           refine U.x Z Z Z Z ((L 2 Z Z).trans (cB g188)) (by decide) ?_
           refine U.x Z Z Z Z ((L 3 Z Z).trans (cB g188)) (by decide) ?_
           refine U.x Z Z Z Z ((L 4 Z Z).trans (cB g188)) (by decide) ?_
           refine U.x Z Z Z Z ((L 5 Z Z).trans (cB g188)) (by decide) ?_
           refine U.x Z Z Z Z ((L 6 Z Z).trans (cB g188)) (by decide) ?_
           refine U.x Z Z Z Z ((L 7 Z Z).trans (cB g188)) (by decide) ?_
           refine U.x Z Z Z Z ((L 8 Z Z).trans (cB g188)) (by decide) ?_
           refine U.x Z Z Z Z ((L 9 Z Z).trans (cB g188)) (by decide) ?_
           refine U.x Z Z Z Z ((L 10 Z Z).trans (cB g188)) (by decide) ?_
           refine U.x Z Z Z Z ((L 11 Z Z).trans (cB g188)) (by decide) ?_
           refine U.x Z Z Z Z ((L 12 Z Z).trans (cB g188)) (by decide) ?_
           refine U.x Z Z Z Z ((L 13 Z Z).trans (cB g188)) (by decide) ?_
           refine U.x Z Z Z Z ((L 14 Z Z).trans (cB g188)) (by decide) ?_
           refine U.p Z Z (.inl Z) (S.pickT Z ((L 15 Z Z).trans (cB g188)) K) ?_
           refine U.done (nr Z) ?_
           refine sqN ?_
           exact ⟨_, V111, Z, ⟨true, Z, (.refl _), ow113, h189⟩, (allCons (L 48 Z Z) (allCons (L 49 Z Z) (allCons (L 50 Z Z) (allCons (L 51 Z Z) (allCons (L 0 Z Z) allNil)))))⟩
          ·have h190 := ifF g188 h177
           refine U.p (v := .pointer (some ⟨b3, 3, none⟩)) Z Z (.inr ⟨_, _, _, Z, Z, ((L 0 Z Z).trans (cB g188))⟩) (S.fieldAddr Z (L 32 Z Z) Try.underlying24 Z ti22 Z Z) ?_
           refine U.k Z Z (.inr ⟨_, _, _, Z, Z, ((L 1 Z Z).trans (cB g188))⟩) (S.loadC Z (L 0 Z Z) Try.underlying22 Z ((ow113.own (k := 0) Z).cell Z)) (fun _ => (okH.cons trivial (okH.cons trivial (okH.cons trivial (okH.cons trivial (okH.cons trivial (okH.cons trivial (okH.cons trivial (okH.cons trivial (okH.nil (fun r h => by cases h; exact (ow113.own (k := 0) Z).lt))))))))))) ?_
           refine U.p Z Z (.inr ⟨_, _, _, Z, Z, ((L 2 Z Z).trans (cB g188))⟩) (S.move Z (L 31 Z Z)) ?_
           obtain ⟨x191, hx192, h193⟩ := bindS h190
           obtain ⟨b194, o195, c196, cs197, hv198, hf199, hr200, hc201⟩ := f62.at hx192
           obtain ⟨v202, rfl, f203⟩ := hr200
           refine U.p Z Z (.inr ⟨_, _, _, Z, Z, ((L 3 Z Z).trans (cB g188))⟩) (S.index Z ((L 1 Z Z).trans hv198) (L 0 Z Z) Try.underlying22 ti29 (ix_ge hx192) (ix_lt hx192)) ?_
           refine U.p (v := .pointer (some ⟨b194, o195 + Int.toNat x105 * 9 + 5, none⟩)) Z Z (.inr ⟨_, _, _, Z, Z, ((L 4 Z Z).trans (cB g188))⟩) (S.fieldAddr Z (L 0 Z Z) Try.underlying29 Z ti27 Z Z) ?_
           refine U.k Z Z (.inr ⟨_, _, _, Z, Z, ((L 5 Z Z).trans (cB g188))⟩) (S.load Z (L 0 Z Z) Try.underlying27 Z (((((le69.trans le76).trans le80).trans le96).trans le112).cell hf199 (hc201 5 _ Z))) (fun _ => (okH.cons trivial (okH.cons trivial (okH.cons trivial (okH.cons trivial (okH.cons trivial (okH.cons trivial (okH.cons trivial (okH.cons trivial (okH.cons trivial (okH.nil (fun r h => by cases h; exact (V111.wf _ (((((le69.trans le76).trans le80).trans le96).trans le112).sub _ hf199)))))))))))))) ?_
           refine U.p Z Z (.inr ⟨_, _, _, Z, Z, ((L 6 Z Z).trans (cB g188))⟩) (f203.1.len Z (L 0 Z Z) Try.underlying27) ?_
           refine U.p (v := .pointer (some ⟨b74, 3, none⟩)) Z Z (.inr ⟨_, _, _, Z, Z, ((L 7 Z Z).trans (cB g188))⟩) (S.fieldAddr Z (L 40 Z Z) Try.underlying24 Z ti22 Z Z) ?_
           refine U.k Z Z (.inr ⟨_, _, _, Z, Z, ((L 8 Z Z).trans (cB g188))⟩) (S.loadC Z (L 0 Z Z) Try.underlying22 Z ((ow113.own (k := 1) Z).cell Z)) (fun _ => (okH.cons trivial (okH.cons trivial (okH.cons trivial (okH.cons trivial (okH.cons trivial (okH.cons trivial (okH.cons trivial (okH.cons trivial (okH.cons trivial (okH.cons trivial (okH.nil (fun r h => by cases h; exact (ow113.own (k := 1) Z).lt))))))))))))) ?_
           refine U.p Z Z (.inr ⟨_, _, _, Z, Z, ((L 9 Z Z).trans (cB g188))⟩) (S.move Z (L 38 Z Z)) ?_
           obtain ⟨x204, hx205, h206⟩ := bindS h193
           obtain ⟨b207, o208, c209, cs210, hv211, hf212, hr213, hc214⟩ := f73.at hx205
           obtain ⟨v215, rfl, f216⟩ := hr213
           refine U.p Z Z (.inr ⟨_, _, _, Z, Z, ((L 10 Z Z).trans (cB g188))⟩) (S.index Z ((L 1 Z Z).trans hv211) (L 0 Z Z) Try.underlying22 ti29 (ix_ge hx205) (ix_lt hx205)) ?_
           refine U.p (v := .pointer (some ⟨b207, o208 + Int.toNat x105 * 9 + 5, none⟩)) Z Z (.inr ⟨_, _, _, Z, Z, ((L 11 Z Z).trans (cB g188))⟩) (S.fieldAddr Z (L 0 Z Z) Try.underlying29 Z ti27 Z Z) ?_
           refine U.k Z Z (.inr ⟨_, _, _, Z, Z, ((L 12 Z Z).trans (cB g188))⟩) (S.load Z (L 0 Z Z) Try.underlying27 Z ((((le76.trans le80).trans le96).trans le112).cell hf212 (hc214 5 _ Z))) (fun _ => (okH.cons trivial (okH.cons trivial (okH.cons trivial (okH.cons trivial (okH.cons trivial (okH.cons trivial (okH.cons trivial (okH.cons trivial (okH.cons trivial (okH.cons trivial (okH.cons trivial (okH.nil (fun r h => by cases h; exact (V111.wf _ ((((le76.trans le80).trans le96).trans le112).sub _ hf212)))))))))))))))) ?_
           refine U.p Z Z (.inr ⟨_, _, _, Z, Z, ((L 13 Z Z).trans (cB g188))⟩) (f216.1.len Z (L 0 Z Z) Try.underlying27) ?_
           refine U.p Z Z (.inr ⟨_, _, _, Z, Z, ((L 14 Z Z).trans (cB g188))⟩) (S.neqI Z (L 7 Z Z) (L 0 Z Z)) ?_
           refine U.p Z Z (.inl Z) (S.pickF Z ((L 15 Z Z).trans (cB g188)) (L 0 Z Z)) ?_
           refine U.done (nr Z) ?_
           refine sqN ?_
           exact ⟨_, V111, Z, ⟨decide ((x191.args.length : Int) ≠ (x204.args.length : Int)), Z, (.refl _), ow113, h206⟩, (allCons (L 48 Z Z) (allCons (L 49 Z Z) (allCons (L 50 Z Z) (allCons (L 51 Z Z) (allCons (L 0 Z Z) allNil)))))⟩
       ·have h217 := ifF c119 h118
        refine WP.exit ?_
        refine sqE (sqE (blkE (sqN ?_)))
        have h218 := exitS h217 e116
        refine WP.usreg Z ?_
        refine U.p Z Z (.inl Z) (S.assign Z K) ?_
        refine U.done (nr Z) ?_
        refine WP.ret ?_
        refine fin.slot (.inr Z) Z (L 0 Z Z) ⟨V111, Z, ((((((((((le5.trans le13).trans le36).trans le49).trans le56).trans le60).trans le69).trans le76).trans le80).trans le96).trans le112), ?_⟩
        have ow219 := ow113.drop 0 Z
        have ow220 := ow219.drop 0 Z
        have e221 := Option.some.inj h218
        subst e221
        exact ⟨rfl, ow220⟩
     ·intro kk
      refine bcase (b := decide ((x64.code.length : Int) ≠ (p0.code.length : Int))) (fun g222 => ?_) (fun g222 => ?_)
      ·have h223 := ifT g222 hy83
       refine U.x Z Z Z Z ((L 0 Z Z).trans (cB g222)) (by decide) ?_
       refine U.x Z Z Z Z ((L 1 Z Z).trans (cB g222)) (by decide) ?_
       refine U.x Z Z Z Z ((L 2 Z Z).trans (cB g222)) (by decide) ?_
       refine U.x Z Z Z Z ((L 3 Z Z).trans (cB g222)) (by decide) ?_
       refine U.z Z Z Z Z (L 0 Z Z) ?_
       refine U.z Z Z Z Z (L 1 Z Z) ?_
       refine U.z Z Z Z Z (L 2 Z Z) ?_
       refine U.z Z Z Z Z (L 3 Z Z) ?_
       refine U.z Z Z Z Z (L 4 Z Z) ?_
       refine U.x Z Z Z Z ((L 9 Z Z).trans (cB g222)) (by decide) ?_
       refine U.p Z Z (.inl Z) (S.pickT Z ((L 10 Z Z).trans (cB g222)) K) ?_
       have e224 := Option.some.inj h223
       subst e224
       exact kk [(45, .bool true), (44, .tuple #[]), (43, .tuple #[]), (42, .tuple #[]), (41, .tuple #[]), (40, .tuple #[]), (39, .tuple #[]), (38, .tuple #[]), (37, .tuple #[]), (36, .tuple #[]), (35, .tuple #[])] _ ⟨.tuple #[], .tuple #[], .tuple #[], .tuple #[], .tuple #[], .tuple #[], .tuple #[], .tuple #[], .tuple #[], .tuple #[], V79, Z, (.refl _), Z, ow81⟩
      ·have h225 := ifF g222 hy83
       refine U.k Z Z (.inr ⟨_, _, _, Z, Z, ((L 0 Z Z).trans (cB g222))⟩) (S.loadB Z (L 8 Z Z) Try.underlying24 Z ti24 (ow81.own (k := 0) Z).get Z) nd ?_
       have f226 := f73.up (le76.trans le80)
       obtain ⟨x227, hx228, h229⟩ := bindS h225
       refine O.call (V := V79) Z Z (.inr ⟨_, _, _, Z, Z, ((L 1 Z Z).trans (cB g222))⟩) Z en7 (aC (L 0 Z Z) aN) (wk_ref08_Good V79 _ x64 v72 f226 ow81 _ hx228) (fun _ _ _ _ => nd) (fun v230 V231 le232 hp233 => ?_)
       obtain ⟨rfl, ow234⟩ := hp233
       refine U.p Z Z (.inr ⟨_, _, _, Z, Z, ((L 2 Z Z).trans (cB g222))⟩) (S.not Z (L 0 Z Z)) ?_
       refine U.p Z Z (.inr ⟨_, _, _, Z, Z, ((L 3 Z Z).trans (cB g222))⟩) (S.move Z (L 0 Z Z)) ?_
       refine U.joinX 18 (fun e H => ∃ (u235 u236 u237 u238 u239 : Value), H = V231.H ∧ e = [(44, .bool ((!x227) && (decide (p0.params ≤ x64.regs)))), (43, u235), (42, u236), (41, u237), (40, u238), (39, u239)]) ?_ ?_
       ·rintro _ _ ⟨u235, u236, u237, u238, u239, rfl, rfl⟩
        refine U.p Z Z (.inl Z) (S.pickF Z ((L 10 Z Z).trans (cB g222)) (L 0 Z Z)) ?_
        have e243 := Option.some.inj h229
        subst e243
        exact kk [(45, .bool ((!x227) && (decide (p0.params ≤ x64.regs)))), (44, .bool ((!x227) && (decide (p0.params ≤ x64.regs)))), (43, u235), (42, u236), (41, u237), (40, u238), (39, u239), (38, .bool (!x227)), (37, .bool (!x227)), (36, .bool x227), (35, .agg #[.string x64.name, .int .i64 x64.params, .int .i64 x64.regs, v72])] _ ⟨.bool ((!x227) && (decide (p0.params ≤ x64.regs))), u235, u236, u237, u238, u239, .bool (!x227), .bool (!x227), .bool x227, .agg #[.string x64.name, .int .i64 x64.params, .int .i64 x64.regs, v72], V231, Z, le232, Z, ow234⟩
       ·intro kk
        refine bcase (b := !x227) (fun g244 => ?_) (fun g244 => ?_)
        ·skip
         have k245 : x227 = false := nT g244
         refine U.p (v := .pointer (some ⟨b3, 1, none⟩)) Z Z (.inr ⟨_, _, _, Z, Z, ((L 0 Z Z).trans (cB g244))⟩) (S.fieldAddr Z (L 36 Z Z) Try.underlying24 Z ti3 Z Z) ?_
         refine U.k Z Z (.inr ⟨_, _, _, Z, Z, ((L 1 Z Z).trans (cB g244))⟩) (S.load Z (L 0 Z Z) Try.underlying3 Z ((ow234.own (k := 2) Z).cell Z)) nd ?_
         refine U.p (v := .pointer (some ⟨b74, 2, none⟩)) Z Z (.inr ⟨_, _, _, Z, Z, ((L 2 Z Z).trans (cB g244))⟩) (S.fieldAddr Z (L 14 Z Z) Try.underlying24 Z ti3 Z Z) ?_
         refine U.k Z Z (.inr ⟨_, _, _, Z, Z, ((L 3 Z Z).trans (cB g244))⟩) (S.load Z (L 0 Z Z) Try.underlying3 Z ((ow234.own (k := 0) Z).cell Z)) nd ?_
         refine U.p Z Z (.inr ⟨_, _, _, Z, Z, ((L 4 Z Z).trans (cB g244))⟩) (S.leq Z (L 2 Z Z) (L 0 Z Z)) ?_
         refine U.p Z Z (.inr ⟨_, _, _, Z, Z, ((L 9 Z Z).trans (cB g222))⟩) (S.pickT Z ((L 5 Z Z).trans (cB g244)) (L 0 Z Z)) ?_
         exact kk [(44, .bool (decide (p0.params ≤ x64.regs))), (43, .bool (decide (p0.params ≤ x64.regs))), (42, .int .i64 x64.regs), (41, .pointer (some ⟨b74, 2, none⟩)), (40, .int .i64 p0.params), (39, .pointer (some ⟨b3, 1, none⟩))] _ ⟨.bool (decide (p0.params ≤ x64.regs)), .int .i64 x64.regs, .pointer (some ⟨b74, 2, none⟩), .int .i64 p0.params, .pointer (some ⟨b3, 1, none⟩), Z, (by rw [g244, Bool.true_and])⟩
        ·skip
         have k246 : x227 = true := nF g244
         refine U.x Z Z Z Z ((L 0 Z Z).trans (cB g244)) (by decide) ?_
         refine U.x Z Z Z Z ((L 1 Z Z).trans (cB g244)) (by decide) ?_
         refine U.x Z Z Z Z ((L 2 Z Z).trans (cB g244)) (by decide) ?_
         refine U.x Z Z Z Z ((L 3 Z Z).trans (cB g244)) (by decide) ?_
         refine U.x Z Z Z Z ((L 4 Z Z).trans (cB g244)) (by decide) ?_
         refine U.p Z Z (.inr ⟨_, _, _, Z, Z, ((L 9 Z Z).trans (cB g222))⟩) (S.pickF Z ((L 5 Z Z).trans (cB g244)) K) ?_
         exact kk [(44, .bool false), (43, .tuple #[]), (42, .tuple #[]), (41, .tuple #[]), (40, .tuple #[]), (39, .tuple #[])] _ ⟨.tuple #[], .tuple #[], .tuple #[], .tuple #[], .tuple #[], Z, (by rw [g244, Bool.false_and])⟩
   ·intro kk
    refine bcase (b := (decide (60 < (p0.code.length : Int))) || (decide (40 < p0.regs))) (fun g247 => ?_) (fun g247 => ?_)
    ·have h248 := ifT g247 hy30
     refine U.x Z Z Z Z ((L 0 Z Z).trans (cB g247)) (by decide) ?_
     refine U.x Z Z Z Z ((L 1 Z Z).trans (cB g247)) (by decide) ?_
     refine U.x Z Z Z Z ((L 2 Z Z).trans (cB g247)) (by decide) ?_
     refine U.p Z Z (.inl Z) (S.pickT Z ((L 3 Z Z).trans (cB g247)) K) ?_
     have e249 := Option.some.inj h248
     subst e249
     exact kk [(21, .bool true), (20, .tuple #[]), (19, .tuple #[]), (18, .tuple #[])] _ ⟨.tuple #[], .tuple #[], .tuple #[], V12, Z, (.refl _), Z, ow15⟩
    ·have h250 := ifF g247 hy30
     refine U.k Z Z (.inr ⟨_, _, _, Z, Z, ((L 0 Z Z).trans (cB g247))⟩) (S.loadB Z (L 13 Z Z) Try.underlying24 Z ti24 (ow15.own (k := 0) Z).get Z) nd ?_
     have f251 := f2.up (le5.trans le13)
     obtain ⟨x252, hx253, h254⟩ := bindS h250
     refine O.call (V := V12) Z Z (.inr ⟨_, _, _, Z, Z, ((L 1 Z Z).trans (cB g247))⟩) Z en7 (aC (L 0 Z Z) aN) (wk_ref08_Good V12 _ p0 v1 f251 ow15 _ hx253) (fun _ _ _ _ => nd) (fun v255 V256 le257 hp258 => ?_)
     obtain ⟨rfl, ow259⟩ := hp258
     refine U.p Z Z (.inr ⟨_, _, _, Z, Z, ((L 2 Z Z).trans (cB g247))⟩) (S.not Z (L 0 Z Z)) ?_
     refine U.p Z Z (.inl Z) (S.pickF Z ((L 3 Z Z).trans (cB g247)) (L 0 Z Z)) ?_
     have e260 := Option.some.inj h254
     subst e260
     exact kk [(21, .bool (!x252)), (20, .bool (!x252)), (19, .bool x252), (18, .agg #[.string p0.name, .int .i64 p0.params, .int .i64 p0.regs, v1])] _ ⟨.bool (!x252), .bool x252, .agg #[.string p0.name, .int .i64 p0.params, .int .i64 p0.regs, v1], V256, Z, le257, Z, ow259⟩
  ·intro kk
   refine bcase (b := decide (60 < (p0.code.length : Int))) (fun g261 => ?_) (fun g261 => ?_)
   ·skip
    refine U.x Z Z Z Z ((L 0 Z Z).trans (cB g261)) (by decide) ?_
    refine U.x Z Z Z Z ((L 1 Z Z).trans (cB g261)) (by decide) ?_
    refine U.x Z Z Z Z ((L 2 Z Z).trans (cB g261)) (by decide) ?_
    refine U.p Z Z (.inl Z) (S.pickT Z ((L 3 Z Z).trans (cB g261)) K) ?_
    exact kk [(16, .bool true), (15, .tuple #[]), (14, .tuple #[]), (13, .tuple #[])] _ ⟨.tuple #[], .tuple #[], .tuple #[], Z, (by rw [g261, Bool.true_or])⟩
   ·skip
    refine U.p (v := .pointer (some ⟨b3, 2, none⟩)) Z Z (.inr ⟨_, _, _, Z, Z, ((L 0 Z Z).trans (cB g261))⟩) (S.fieldAddr Z (L 8 Z Z) Try.underlying24 Z ti3 Z Z) ?_
    refine U.k Z Z (.inr ⟨_, _, _, Z, Z, ((L 1 Z Z).trans (cB g261))⟩) (S.load Z (L 0 Z Z) Try.underlying3 Z ((ow15.own (k := 0) Z).cell Z)) nd ?_
    refine U.p Z Z (.inr ⟨_, _, _, Z, Z, ((L 2 Z Z).trans (cB g261))⟩) (S.gtr Z (L 0 Z Z) K) ?_
    refine U.p Z Z (.inl Z) (S.pickF Z ((L 3 Z Z).trans (cB g261)) (L 0 Z Z)) ?_
    exact kk [(16, .bool (decide (40 < p0.regs))), (15, .bool (decide (40 < p0.regs))), (14, .int .i64 p0.regs), (13, .pointer (some ⟨b3, 2, none⟩))] _ ⟨.bool (decide (40 < p0.regs)), .int .i64 p0.regs, .pointer (some ⟨b3, 2, none⟩), Z, (by rw [g261, Bool.false_or])⟩
end Go.Vm.G13s
