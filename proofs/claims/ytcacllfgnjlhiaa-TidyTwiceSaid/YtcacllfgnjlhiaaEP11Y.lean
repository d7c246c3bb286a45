/-
 Plain laws, one behind the other.
-/
import Derived.Test.YtcacllfgnjlhiaaEP11X
import Derived.Test.YtcacllfgnjlhiaaEPl3
set_option linter.unusedSimpArgs false
set_option linter.unusedVariables false
set_option linter.unusedSectionVars false
namespace Go.Vm.G11
open Go
section
structure Cx where
 reads : List Int
 used : Int
 held : List (Int × Int)
 acts : List TAct
 over : Bool
 ended : Bool
def mk8 (m : TModule) (me most : Int) (fu : Nat) (c : Cx) : TrM := ⟨m, me, c.reads, fu, c.used, c.held, c.acts, c.over, c.ended, most⟩
def zI : TIns := ⟨0, 0, 0, 0, 0, [], 0, false, false⟩
def doC (c : Cx) (k a v : Int) (x : TIns) : Cx := { c with acts := c.acts ++ [⟨k, a, v, x.what, x.volatile, x.final⟩] }
def trapC (c : Cx) (n : Int) : Cx := { doC c 4 0 n zI with over := true, ended := true }
noncomputable def recN (op a b : Int) : Int := (ref08_reckon op a b).getD 0
def markC (me : Int) : Int := w64 (1024 * w64 (me + 1))
def enterC (me : Int) (c : Cx) (at_ : Int) : Cx := match c.reads with
 | [] => { c with over := true }
 | x :: rs =>
  let n := (mG c.held at_).getD 0
  if (((decide (n = 0)) && (decide (x ≠ 0))) || ((decide (0 < n)) && (decide (x ≠ w64 (markC me + n))))) = true then { c with reads := rs, over := true }
  else if n = 1023 then trapC { c with reads := rs } 6
  else doC { c with reads := rs, held := mS c.held at_ (w64 (n + 1)) } 5 at_ (w64 (markC me + w64 (n + 1))) zI
def leaveC (me : Int) (c : Cx) (at_ : Int) : Cx :=
 let h := mS c.held at_ (w64 ((mG c.held at_).getD 0 - 1))
 let n := (mG h at_).getD 0
 doC { c with held := h } 6 at_ (if n = 0 then 0 else w64 (markC me + n)) zI
section
variable (m : TModule) (me most : Int) (fu : Nat) (c : Cx)
theorem do_is (h : c.acts.length < 16777216) (k a v : Int) (x : TIns) : rM_do (mk8 m me most fu c) k a v x = some (mk8 m me most fu (doC c k a v x)) := by
 unfold rM_do
 rw [ap_some (by simp [mk8]; omega)]
 rfl
theorem trap_is (h : c.acts.length < 16777216) (n : Int) : rM_trap (mk8 m me most fu c) n = some (mk8 m me most fu (trapC c n)) := by
 unfold rM_trap
 have := do_is m me most fu c h 4 0 n zI
 unfold zI at this
 rw [this]
 rfl
theorem reckon_is (op a b : Int) : ref08_reckon op a b = some (recN op a b) := by
 have : Ok (ref08_reckon op a b) (fun _ => True) := by
  unfold ref08_reckon
  refine .ite (fun _ => .ret trivial) fun _ => .ite (fun _ => .ret trivial) fun _ => .ite (fun _ => .ret trivial) fun _ => .ite (fun _ => .ret trivial) fun _ => .ite (fun _ => .ite (fun _ => .ret trivial) fun h => .ite (fun _ => .ret trivial) fun _ => ?_) fun _ => .ret trivial
  unfold quoO
  rw [if_neg (by simpa using h)]
  exact .ret trivial
 obtain ⟨r, h, _⟩ := this
 unfold recN
 rw [h]
 rfl
theorem read_is : rM_read (mk8 m me most fu c) = some (match c.reads with
 | [] => (0, false, mk8 m me most fu { c with over := true })
 | x :: rs => (x, true, mk8 m me most fu { c with reads := rs })) := by
 unfold rM_read mk8
 cases hr : c.reads with
 | nil => rfl
 | cons x rs =>
  simp only
  rw [if_neg (by simp; omega), show ix (x :: rs) 0 = some x from rfl]
  simp only [Option.bind_some]
  rw [cutL_tail]
  rfl
theorem enter_is (h : c.acts.length < 16777216) (a : Int) : rM_enter (mk8 m me most fu c) a = some (mk8 m me most fu (enterC me c a)) := by
 unfold rM_enter enterC
 rw [read_is]
 cases hr : c.reads with
 | nil => rfl
 | cons x rs =>
  simp only [Option.bind_some, Bool.not_true, Bool.false_eq_true, if_false]
  have e1 : (mk8 m me most fu { c with reads := rs }).held = c.held := rfl
  have e2 : (mk8 m me most fu { c with reads := rs }).me = me := rfl
  rw [e1, e2]
  show (if (((decide ((mG c.held a).getD 0 = 0)) && (decide (x ≠ 0))) || ((decide (0 < (mG c.held a).getD 0)) && (decide (x ≠ w64 (markC me + (mG c.held a).getD 0))))) = true then _ else _) = _
  split
  ·rfl
  ·by_cases h3 : (mG c.held a).getD 0 = 1023
   ·rw [if_pos (by simpa using h3), if_pos h3, trap_is _ _ _ _ _ (by exact h)]
    rfl
   ·rw [if_neg (by simpa using h3), if_neg h3]
    have := do_is m me most fu { c with reads := rs, held := mS c.held a (w64 ((mG c.held a).getD 0 + 1)) } (by exact h) 5 a (w64 (markC me + w64 ((mG c.held a).getD 0 + 1))) zI
    unfold zI markC at this
    show (rM_do (mk8 m me most fu { c with reads := rs, held := mS c.held a (w64 ((mG c.held a).getD 0 + 1)) }) 5 a _ _).bind _ = _
    rw [this]
    rfl
theorem leave_is (h : c.acts.length < 16777216) (a : Int) : rM_leave (mk8 m me most fu c) a = some (mk8 m me most fu (leaveC me c a)) := by
 have k1 : ∀ z, rM_leave_k1 (mk8 m me most fu c) a z = some (mk8 m me most fu (doC { c with held := mS c.held a (w64 ((mG c.held a).getD 0 - 1)) } 6 a z zI)) := fun z => by
  unfold rM_leave_k1
  have := do_is m me most fu { c with held := mS c.held a (w64 ((mG c.held a).getD 0 - 1)) } (by exact h) 6 a z zI
  unfold zI at this
  show (rM_do (mk8 m me most fu { c with held := mS c.held a (w64 ((mG c.held a).getD 0 - 1)) }) 6 a z _).bind _ = _
  rw [this]
  rfl
 unfold rM_leave leaveC
 rw [k1, k1]
 show (if decide ((mG (mS c.held a (w64 ((mG c.held a).getD 0 - 1))) a).getD 0 = 0) = true then _ else _) = _
 by_cases h0 : (mG (mS c.held a (w64 ((mG c.held a).getD 0 - 1))) a).getD 0 = 0
 ·rw [if_pos (by simpa using h0)]
  simp only [h0, if_true]
 ·rw [if_neg (by simpa using h0)]
  simp only [h0, if_false]
  rfl
end
def findN (f : TFunc) (l : Int) : Nat := f.code.findIdx (lab l)
theorem find_is (f : TFunc) (l : Int) (h : f.code.length ≤ 1000) : ref08_find f l = some (findN f l : Int) := by
 unfold ref08_find ref08_find_l1
 refine Ok.some_of (loop_for f.code (fun k s => s = (k : Int) ∧ ∀ y ∈ f.code.take k, lab l y = false) (fun k x s hk' hk hs => ?_) (fun s hs => ?_) ⟨rfl, by simp⟩)
 ·obtain ⟨rfl, hs⟩ := hs
  unfold ref08_find_l1b
  rw [if_pos (by simp; omega), ix_nat, hk]
  simp only [Option.bind_some]
  refine .ite (fun hb => .map (.ret ?_)) fun hb => .ret ⟨w64_succ (by omega), fun z hz => ?_⟩
  ·have : f.code.findIdx (lab l) = k := by
    rw [List.findIdx_eq hk']
    rw [List.getElem?_eq_getElem hk'] at hk
    refine ⟨by rw [Option.some.inj hk]; exact hb, fun j hj => ?_⟩
    exact hs _ (List.mem_of_getElem? (i := j) (by rw [List.getElem?_take, if_pos hj, List.getElem?_eq_getElem]))
   show (k : Int) = ((f.code.findIdx (lab l) : Nat) : Int)
   rw [this]
  ·rw [mem_take_succ hk'] at hz
   rcases hz with hz | rfl
   ·exact hs z hz
   ·rw [List.getElem?_eq_getElem hk'] at hk
    rw [Option.some.inj hk]; exact hb
 ·obtain ⟨rfl, hs⟩ := hs
  unfold ref08_find_l1b
  rw [if_neg (by simp)]
  rw [List.take_length] at hs
  refine .map (.ret ?_)
  have : f.code.findIdx (lab l) = f.code.length := List.findIdx_eq_length.2 hs
  show (f.code.length : Int) = ((f.code.findIdx (lab l) : Nat) : Int)
  rw [this]
structure Eff where
 v : List Int
 jump : Bool
 c : Cx
 ret : Option Int
def base (x : TIns) (v : List Int) : Int := if 0 ≤ x.a then v.getD x.a.toNat 0 else 0
noncomputable def eff (me : Int) (x : TIns) (v : List Int) (c : Cx) : Eff :=
 if x.op = 1 then ⟨v.set x.d.toNat x.imm, false, c, none⟩ else
 if x.op = 2 then ⟨v.set x.d.toNat (base x v), false, c, none⟩ else
 if 3 ≤ x.op ∧ x.op ≤ 8 then ⟨v.set x.d.toNat (recN x.op (base x v) (v.getD x.b.toNat 0)), false, c, none⟩ else
 if x.op = 9 then (match c.reads with
  | [] => ⟨v, false, { c with over := true }, none⟩
  | r :: rs => ⟨v.set x.d.toNat r, false, doC { c with reads := rs } 1 (w64 (base x v + x.imm)) r x, none⟩) else
 if x.op = 10 then ⟨v, false, doC c 2 (w64 (base x v + x.imm)) (v.getD x.b.toNat 0) x, none⟩ else
 if x.op = 12 then ⟨v, true, c, none⟩ else
 if x.op = 13 then ⟨v, decide (base x v = 0), c, none⟩ else
 if x.op = 15 then ⟨v, false, c, some (base x v)⟩ else
 if x.op = 16 then ⟨v, false, trapC c x.imm, none⟩ else
 if x.op = 17 then (if (((decide (base x v < 0)) || (decide (512 < base x v))) || (decide (512 < w64 (c.used + base x v)))) = true then ⟨v.set x.d.toNat 0, true, c, none⟩
  else ⟨v.set x.d.toNat (w64 (w64 (1048576 * w64 (me + 1)) + w64 (8 * c.used))), false, { c with used := w64 (c.used + base x v) }, none⟩) else
 if x.op = 18 then ⟨v, false, enterC me c (base x v), none⟩ else
 if x.op = 19 then ⟨v, false, leaveC me c (base x v), none⟩ else
 if x.op = 20 then ⟨v, false, doC c 3 0 (base x v) zI, none⟩ else ⟨v, false, c, none⟩
abbrev Res := Int × Nat × Cx
noncomputable def runB (cl : Int → List Int → Nat → Cx → Res) (me : Int) (f : TFunc) : Nat → Nat → List Int → Nat → Cx → Res
 | 0, _, _, fu, c => (0, fu, c)
 | s + 1, pc, v, fu, c =>
  match f.code[pc]? with
  | none => (0, fu, c)
  | some x =>
   if fu = 0 then (0, 0, { c with over := true }) else
   if c.over = true then (0, fu, c) else
   if x.op = 14 then
    let r := cl x.imm (x.args.map fun a => v.getD a.toNat 0) (fu - 1) c
    runB cl me f s (pc + 1) (if 0 ≤ x.d then v.set x.d.toNat r.1 else v) r.2.1 r.2.2
   else
    match (eff me x v c).ret with
    | some r => (r, fu - 1, (eff me x v c).c)
    | none => runB cl me f s ((if (eff me x v c).jump = true then findN f x.imm else pc) + 1) (eff me x v c).v (fu - 1) (eff me x v c).c
def noF : TFunc := ⟨ByteArray.empty, 0, 0, []⟩
noncomputable def callP (m : TModule) (me : Int) : Nat → Int → List Int → Nat → Cx → Res
 | 0, _, _, fu, c => (0, fu, trapC c 5)
 | d + 1, n, args, fu, c =>
  let f := m.funcs.getD n.toNat noF
  runB (callP m me d) me f (fu + 1) 0 (args ++ List.replicate (f.regs.toNat - args.length) 0) fu c
end
section
theorem rg_in {p q : Bool} {n R : Int} (h : rg p q n R = true) : n = -1 ∨ (0 ≤ n ∧ n < R) := by
 unfold rg at h
 split at h
 ·simp only [Bool.or_eq_true, Bool.and_eq_true, decide_eq_true_iff] at h
  omega
 ·left; simpa using h
theorem rg_reg {p : Bool} {n R : Int} (hp : p = true) (h : rg p false n R = true) : 0 ≤ n ∧ n < R := by
 unfold rg at h
 rw [if_pos hp] at h
 simpa using h
theorem ix_getD {v : List Int} {i : Int} (h0 : 0 ≤ i) (h1 : i < v.length) : ix v i = some (v.getD i.toNat 0) := by
 have h2 : i.toNat < v.length := by omega
 unfold Go.Vm.ix
 rw [if_pos h0, List.getD_eq_getElem?_getD, List.getElem?_eq_getElem h2]
 rfl
theorem InsOK.dreg {f : TFunc} {x : TIns} (h : InsOK f x) (ho : (1 ≤ x.op ∧ x.op ≤ 9) ∨ x.op = 17) : 0 ≤ x.d ∧ x.d < f.regs := by
 have hd := h.d
 rw [show decide (x.op = 14) = false by simp; omega] at hd
 refine rg_reg ?_ hd
 have : x.op = 1 ∨ x.op = 2 ∨ x.op = 3 ∨ x.op = 4 ∨ x.op = 5 ∨ x.op = 6 ∨ x.op = 7 ∨ x.op = 8 ∨ x.op = 9 ∨ x.op = 17 := by omega
 rcases this with e | e | e | e | e | e | e | e | e | e <;> rw [e] <;> rfl
theorem InsOK.breg {f : TFunc} {x : TIns} (h : InsOK f x) (ho : (3 ≤ x.op ∧ x.op ≤ 8) ∨ x.op = 10) : 0 ≤ x.b ∧ x.b < f.regs := by
 refine rg_reg ?_ h.b
 have : x.op = 3 ∨ x.op = 4 ∨ x.op = 5 ∨ x.op = 6 ∨ x.op = 7 ∨ x.op = 8 ∨ x.op = 10 := by omega
 rcases this with e | e | e | e | e | e | e <;> rw [e] <;> rfl
theorem InsOK.areg {f : TFunc} {x : TIns} (h : InsOK f x) : x.a = -1 ∨ (0 ≤ x.a ∧ x.a < f.regs) := rg_in h.a
abbrev MA := TrM × Int × List Int × Int
noncomputable abbrev mF : (MA → Option (Int × TrM)) → MA → Option (Int × TrM) := fun rec_ a => rM_Call_F (fun p0 p1 p2 p3 => rec_ (p0, p1, p2, p3)) a.1 a.2.1 a.2.2.1 a.2.2.2
theorem call_mo : Mo mF := by
 intro f g hfg a
 show Lo (rM_Call_F (fun p0 p1 p2 p3 => f (p0, p1, p2, p3)) a.1 a.2.1 a.2.2.1 a.2.2.2) (rM_Call_F (fun p0 p1 p2 p3 => g (p0, p1, p2, p3)) a.1 a.2.1 a.2.2.1 a.2.2.2)
 unfold rM_Call_F
 refine .ite (.refl _) (.bindK fun x => .bindK fun y => ?_)
 unfold rM_Call_l1
 refine .loop (fun s => ?_) _
 unfold rM_Call_l1b
 refine .ite (.refl _) (.map ?_)
 unfold rM_Call_l2
 refine .loop (fun s => ?_) _
 unfold rM_Call_l2b
 have k2 : ∀ b, Lo (rM_Call_k2 (fun p0 p1 p2 p3 => f (p0, p1, p2, p3)) a.2.2.2 x s.1 s.2.1 s.2.2.1 s.2.2.2.1 s.2.2.2.2.1 s.2.2.2.2.2.1 s.2.2.2.2.2.2.1 s.2.2.2.2.2.2.2.1 s.2.2.2.2.2.2.2.2.2.1 s.2.2.2.2.2.2.2.2.2.2.1 s.2.2.2.2.2.2.2.2.2.2.2.1 s.2.2.2.2.2.2.2.2.2.2.2.2 b)
   (rM_Call_k2 (fun p0 p1 p2 p3 => g (p0, p1, p2, p3)) a.2.2.2 x s.1 s.2.1 s.2.2.1 s.2.2.2.1 s.2.2.2.2.1 s.2.2.2.2.2.1 s.2.2.2.2.2.2.1 s.2.2.2.2.2.2.2.1 s.2.2.2.2.2.2.2.2.2.1 s.2.2.2.2.2.2.2.2.2.2.1 s.2.2.2.2.2.2.2.2.2.2.2.1 s.2.2.2.2.2.2.2.2.2.2.2.2 b) := by
  intro b
  have k4 : ∀ z w t, Lo (rM_Call_k4 (fun p0 p1 p2 p3 => f (p0, p1, p2, p3)) a.2.2.2 x s.1 s.2.1 s.2.2.1 s.2.2.2.1 s.2.2.2.2.1 s.2.2.2.2.2.1 s.2.2.2.2.2.2.1 s.2.2.2.2.2.2.2.1 s.2.2.2.2.2.2.2.2.2.1 s.2.2.2.2.2.2.2.2.2.2.1 s.2.2.2.2.2.2.2.2.2.2.2.1 s.2.2.2.2.2.2.2.2.2.2.2.2 b z w t)
    (rM_Call_k4 (fun p0 p1 p2 p3 => g (p0, p1, p2, p3)) a.2.2.2 x s.1 s.2.1 s.2.2.1 s.2.2.2.1 s.2.2.2.2.1 s.2.2.2.2.2.1 s.2.2.2.2.2.2.1 s.2.2.2.2.2.2.2.1 s.2.2.2.2.2.2.2.2.2.1 s.2.2.2.2.2.2.2.2.2.2.1 s.2.2.2.2.2.2.2.2.2.2.2.1 s.2.2.2.2.2.2.2.2.2.2.2.2 b z w t) := by
   intro z w t
   unfold rM_Call_k4
   refine .ite (.refl _) (.ite (.refl _) (.ite (.refl _) (.ite (.refl _) (.ite (.refl _) (.ite ?_ (.refl _))))))
   unfold rM_Call_l3
   refine .loop (fun s' => ?_) _
   unfold rM_Call_l3b
   exact .ite (.refl _) (.map (.bind (fun r h => hfg _ r h) fun _ => .refl _))
  have k3 : ∀ z w, Lo (rM_Call_k3 (fun p0 p1 p2 p3 => f (p0, p1, p2, p3)) a.2.2.2 x s.1 s.2.1 s.2.2.1 s.2.2.2.1 s.2.2.2.2.1 s.2.2.2.2.2.1 s.2.2.2.2.2.2.1 s.2.2.2.2.2.2.2.1 s.2.2.2.2.2.2.2.2.2.1 s.2.2.2.2.2.2.2.2.2.2.1 s.2.2.2.2.2.2.2.2.2.2.2.1 s.2.2.2.2.2.2.2.2.2.2.2.2 b z w)
    (rM_Call_k3 (fun p0 p1 p2 p3 => g (p0, p1, p2, p3)) a.2.2.2 x s.1 s.2.1 s.2.2.1 s.2.2.2.1 s.2.2.2.2.1 s.2.2.2.2.2.1 s.2.2.2.2.2.2.1 s.2.2.2.2.2.2.2.1 s.2.2.2.2.2.2.2.2.2.1 s.2.2.2.2.2.2.2.2.2.2.1 s.2.2.2.2.2.2.2.2.2.2.2.1 s.2.2.2.2.2.2.2.2.2.2.2.2 b z w) := by
   intro z w
   unfold rM_Call_k3
   exact .ite (.refl _) (.ite (.refl _) (.ite (k4 _ _ _) (.ite (k4 _ _ _) (.ite (k4 _ _ _) (.ite (k4 _ _ _) (.ite (k4 _ _ _) (k4 _ _ _)))))))
  unfold rM_Call_k2
  exact .ite (.refl _) (.bindK fun z => .ite (.bindK fun w => k3 _ _) (k3 _ _))
 refine .ite (.ite ?_ ?_) (.refl _)
 ·unfold rM_Call_k5
  exact .ite (k2 _) (k2 _)
 ·unfold rM_Call_k5
  exact .ite (k2 _) (k2 _)
section
variable {m : TModule} {me : Int}
abbrev MOST : Int := 1152921504606846976
abbrev LS := (List TFunc) × (List Int) × Int × (List Int) × Int × Int × (List (Int × Int)) × (List TAct) × Bool × Bool × Int × (List Int) × Int
def tup (M : TrM) (v : List Int) (pc : Int) : LS := (M.m.funcs, M.m.threads, M.me, M.reads, M.fuel, M.used, M.held, M.acts, M.over, M.ended, M.most, v, pc)
def RecOK (m : TModule) (me : Int) (rec_ : TrM → Int → List Int → Int → Option (Int × TrM)) (cl : Int → List Int → Nat → Cx → Res) (deep : Int) : Prop :=
 ∀ n args fu c, 0 ≤ n → (∃ g, m.funcs[n.toNat]? = some g ∧ (args.length : Int) = g.params) → c.acts.length + fu ≤ 16000000 → rec_ (mk8 m me MOST fu c) n args deep = some ((cl n args fu c).1, mk8 m me MOST (cl n args fu c).2.1 (cl n args fu c).2.2)
def Bdd (cl : Int → List Int → Nat → Cx → Res) : Prop := ∀ n args fu c, (cl n args fu c).2.2.acts.length + (cl n args fu c).2.1 ≤ c.acts.length + fu + 1 ∧ (cl n args fu c).2.1 ≤ fu
def outOf' (m : TModule) (me : Int) (f : TFunc) (x : TIns) (pc : Nat) (fu : Nat) (e : Eff) : Option (LS ⊕ (Int × TrM)) :=
 match e.ret with
 | some r => some (.inr (r, mk8 m me MOST (fu - 1) e.c))
 | none => some (.inl (tup (mk8 m me MOST (fu - 1) e.c) e.v (((if e.jump = true then findN f x.imm else pc) + 1 : Nat) : Int)))
variable {rec_ : TrM → Int → List Int → Int → Option (Int × TrM)} {deep : Int} {f : TFunc} {fu pc : Nat} {v : List Int} {c : Cx} {x : TIns}
theorem mstep_is (hx : InsOK f x) (hl : f.code.length ≤ 1000) (hpc : pc ≤ 1000) (hv : (v.length : Int) = max f.regs 0) (hf : 0 < fu) (hb : c.acts.length + fu ≤ 16000000) (ho : c.over = false) (h14 : x.op ≠ 14) :
  rM_Call_k3 rec_ deep f m.funcs m.threads me c.reads (fu : Int) c.used c.held c.acts c.ended MOST v (pc : Int) false x (base x v) = outOf' m me f x pc fu (eff me x v c) := by
 have hfu : w64 ((fu : Int) - 1) = ((fu - 1 : Nat) : Int) := by rw [w64_id (by omega) (by omega)]; omega
 have hM : (⟨⟨m.funcs, m.threads⟩, me, c.reads, w64 ((fu : Int) - 1), c.used, c.held, c.acts, false, c.ended, MOST⟩ : TrM) = mk8 m me MOST (fu - 1) c := by
  unfold mk8; rw [hfu, ho]
 have hnext : w64 ((pc : Int) + 1) = ((pc + 1 : Nat) : Int) := w64_succ (by omega)
 have hfind : findN f x.imm ≤ 1000 := Nat.le_trans List.findIdx_le_length hl
 have hnext2 : w64 ((findN f x.imm : Int) + 1) = ((findN f x.imm + 1 : Nat) : Int) := w64_succ (by omega)
 have hd : (1 ≤ x.op ∧ x.op ≤ 9) ∨ x.op = 17 → ix v x.d = some (v.getD x.d.toNat 0) := fun h => by
  have := hx.dreg h
  exact ix_getD this.1 (by omega)
 have hbr : (3 ≤ x.op ∧ x.op ≤ 8) ∨ x.op = 10 → ix v x.b = some (v.getD x.b.toNat 0) := fun h => by
  have := hx.breg h
  exact ix_getD this.1 (by omega)
 have hop := hx.op
 have k4 : ∀ w, (3 ≤ x.op ∧ x.op ≤ 8) → rM_Call_k4 rec_ deep f m.funcs m.threads me c.reads (fu : Int) c.used c.held c.acts c.ended MOST v (pc : Int) false x w true = some (.inl (tup (mk8 m me MOST (fu - 1) c) (v.set x.d.toNat (recN x.op w (v.getD x.b.toNat 0))) ((pc + 1 : Nat) : Int))) := fun w h => by
  unfold rM_Call_k4
  rw [if_pos rfl, hbr (.inl h)]
  simp only [Option.bind_some]
  rw [reckon_is, hd (.inl (by omega))]
  simp only [Option.bind_some]
  unfold rM_Call_k1 tup mk8
  rw [hnext, hfu, ho]
 unfold rM_Call_k3
 by_cases h1 : x.op = 1
 ·have e0 : eff me x v c = ⟨v.set x.d.toNat x.imm, false, c, none⟩ := by unfold eff; rw [if_pos h1]
  rw [if_pos (by simpa using h1), hd (by omega), e0]
  unfold outOf' rM_Call_k1 tup mk8
  simp only [Option.bind_some, hnext, hfu, ho]
  rfl
 rw [if_neg (by simpa using h1)]
 by_cases h2 : x.op = 2
 ·have e0 : eff me x v c = ⟨v.set x.d.toNat (base x v), false, c, none⟩ := by unfold eff; rw [if_neg h1, if_pos h2]
  rw [if_pos (by simpa using h2), hd (by omega), e0]
  unfold outOf' rM_Call_k1 tup mk8
  simp only [Option.bind_some, hnext, hfu, ho]
  rfl
 rw [if_neg (by simpa using h2)]
 by_cases h38 : 3 ≤ x.op ∧ x.op ≤ 8
 ·have e0 : outOf' m me f x pc fu (eff me x v c) = some (.inl (tup (mk8 m me MOST (fu - 1) c) (v.set x.d.toNat (recN x.op (base x v) (v.getD x.b.toNat 0))) ((pc + 1 : Nat) : Int))) := by
   have e1 : eff me x v c = ⟨v.set x.d.toNat (recN x.op (base x v) (v.getD x.b.toNat 0)), false, c, none⟩ := by unfold eff; rw [if_neg h1, if_neg h2, if_pos h38]
   rw [e1]
   rfl
  rw [e0]
  have hk := k4 (base x v) h38
  by_cases h3 : x.op = 3
  ·rw [if_pos (by simpa using h3)]; exact hk
  rw [if_neg (by simpa using h3)]
  by_cases h4 : x.op = 4
  ·rw [if_pos (by simpa using h4)]; exact hk
  rw [if_neg (by simpa using h4)]
  by_cases h5 : x.op = 5
  ·rw [if_pos (by simpa using h5)]; exact hk
  rw [if_neg (by simpa using h5)]
  by_cases h6 : x.op = 6
  ·rw [if_pos (by simpa using h6)]; exact hk
  rw [if_neg (by simpa using h6)]
  by_cases h7 : x.op = 7
  ·rw [if_pos (by simpa using h7)]; exact hk
  rw [if_neg (by simpa using h7), show decide (x.op = 8) = true by simp; omega]
  exact hk
 rw [if_neg (by simp; omega), if_neg (by simp; omega), if_neg (by simp; omega), if_neg (by simp; omega), if_neg (by simp; omega), show decide (x.op = 8) = false by simp; omega]
 unfold rM_Call_k4
 rw [if_neg (by decide)]
 have hal : c.acts.length < 16777216 := by omega
 simp only [hM]
 unfold eff
 simp only [h1, h2, h38, if_false]
 by_cases h9 : x.op = 9
 ·rw [if_pos (by simpa using h9), read_is, if_pos h9]
  cases hr : c.reads with
  | nil =>
   simp only [Option.bind_some, Bool.false_eq_true, if_false]
   unfold outOf' rM_Call_k1 tup mk8
   simp only [hnext, Bool.false_eq_true, if_false]
  | cons r rs =>
   simp only [Option.bind_some, if_true]
   rw [hd (by omega)]
   simp only [Option.bind_some]
   rw [do_is _ _ _ _ _ (by exact hal)]
   simp only [Option.bind_some]
   unfold outOf' rM_Call_k1 tup mk8
   simp only [hnext, Bool.false_eq_true, if_false]
 rw [if_neg (by simpa using h9), if_neg h9]
 by_cases h10 : x.op = 10
 ·rw [if_pos (by simpa using h10), hbr (by omega), if_pos h10]
  simp only [Option.bind_some]
  rw [do_is _ _ _ _ _ (by exact hal)]
  simp only [Option.bind_some]
  unfold outOf' rM_Call_k1 tup mk8
  simp only [hnext, Bool.false_eq_true, if_false]
 rw [if_neg (by simpa using h10), if_neg h10]
 by_cases h12 : x.op = 12
 ·rw [if_pos (by simpa using h12), find_is f _ hl, if_pos h12]
  unfold outOf' rM_Call_k1 tup mk8
  simp only [Option.bind_some, hnext2, hfu, ho, if_true]
 rw [if_neg (by simpa using h12), if_neg h12]
 by_cases h13 : x.op = 13
 ·rw [if_pos (by simpa using h13), find_is f _ hl, if_pos h13]
  unfold outOf' rM_Call_k1 tup mk8
  by_cases h0 : base x v = 0
  ·simp only [h0, decide_true, if_true, Option.bind_some, hnext2, hfu, ho]
  ·simp only [h0, decide_false, Bool.false_eq_true, if_false, Option.bind_some, hnext, hfu, ho]
 rw [if_neg (by simpa using h13), if_neg h13, if_neg (by simpa using h14)]
 by_cases h15 : x.op = 15
 ·rw [if_pos (by simpa using h15), if_pos h15]
  rfl
 rw [if_neg (by simpa using h15), if_neg h15]
 by_cases h16 : x.op = 16
 ·rw [if_pos (by simpa using h16), trap_is _ _ _ _ _ hal, if_pos h16]
  unfold outOf' rM_Call_k1 tup mk8
  simp only [Option.bind_some, hnext, Bool.false_eq_true, if_false]
 rw [if_neg (by simpa using h16), if_neg h16]
 by_cases h17 : x.op = 17
 ·rw [if_pos (by simpa using h17), hd (by omega), find_is f _ hl, if_pos h17]
  unfold outOf' rM_Call_k1 tup mk8
  split
  ·simp only [Option.bind_some, hnext2, hfu, ho, if_true]
  ·simp only [Option.bind_some, hnext, hfu, ho, Bool.false_eq_true, if_false]
 rw [if_neg (by simpa using h17), if_neg h17]
 by_cases h18 : x.op = 18
 ·rw [if_pos (by simpa using h18), enter_is _ _ _ _ _ hal, if_pos h18]
  unfold outOf' rM_Call_k1 tup mk8
  simp only [Option.bind_some, hnext, Bool.false_eq_true, if_false]
 rw [if_neg (by simpa using h18), if_neg h18]
 by_cases h19 : x.op = 19
 ·rw [if_pos (by simpa using h19), leave_is _ _ _ _ _ hal, if_pos h19]
  unfold outOf' rM_Call_k1 tup mk8
  simp only [Option.bind_some, hnext, Bool.false_eq_true, if_false]
 rw [if_neg (by simpa using h19), if_neg h19]
 by_cases h20 : x.op = 20
 ·rw [if_pos (by simpa using h20), if_pos h20]
  have := do_is m me MOST (fu - 1) c hal 3 0 (base x v) zI
  unfold zI at this
  rw [this]
  unfold outOf' rM_Call_k1 tup mk8 zI
  simp only [Option.bind_some, hnext, Bool.false_eq_true, if_false]
 rw [if_neg (by simpa using h20), if_neg h20]
 unfold outOf' rM_Call_k1 tup mk8
 simp only [hnext, hfu, ho, Bool.false_eq_true, if_false]
end
end
section
theorem doC_len (c : Cx) (k a v : Int) (x : TIns) : (doC c k a v x).acts.length = c.acts.length + 1 := by simp [doC]
theorem trapC_len (c : Cx) (n : Int) : (trapC c n).acts.length = c.acts.length + 1 := by simp [trapC, doC]
theorem enterC_len (me : Int) (c : Cx) (a : Int) : (enterC me c a).acts.length ≤ c.acts.length + 1 := by
 unfold enterC
 cases c.reads with
 | nil => simp
 | cons x rs =>
  simp only
  split
  ·simp
  ·split
   ·rw [trapC_len]; simp
   ·rw [doC_len]; simp
theorem leaveC_len (me : Int) (c : Cx) (a : Int) : (leaveC me c a).acts.length = c.acts.length + 1 := by unfold leaveC; rw [doC_len]
def EL (v : List Int) (c : Cx) (e : Eff) : Prop := e.c.acts.length ≤ c.acts.length + 1 ∧ e.v.length = v.length
theorem eff_len (me : Int) (x : TIns) (v : List Int) (c : Cx) : EL v c (eff me x v c) := by
 have e0 : ∀ (w : List Int) (j : Bool) (r : Option Int), w.length = v.length → EL v c ⟨w, j, c, r⟩ := fun w j r h => ⟨Nat.le_succ _, h⟩
 have e1 : ∀ (w : List Int) (c' : Cx) (k a z : Int) (y : TIns), w.length = v.length → c'.acts = c.acts → EL v c ⟨w, false, doC c' k a z y, none⟩ := fun w c' k a z y h h2 => ⟨by show (doC c' k a z y).acts.length ≤ _; rw [doC_len, h2]; exact Nat.le_refl _, h⟩
 unfold eff
 by_cases h1 : x.op = 1
 ·rw [if_pos h1]; exact e0 _ _ _ (by simp)
 rw [if_neg h1]
 by_cases h2 : x.op = 2
 ·rw [if_pos h2]; exact e0 _ _ _ (by simp)
 rw [if_neg h2]
 by_cases h3 : 3 ≤ x.op ∧ x.op ≤ 8
 ·rw [if_pos h3]; exact e0 _ _ _ (by simp)
 rw [if_neg h3]
 by_cases h9 : x.op = 9
 ·rw [if_pos h9]
  cases c.reads with
  | nil => exact ⟨Nat.le_succ _, rfl⟩
  | cons r rs => exact e1 _ _ _ _ _ _ (by simp) rfl
 rw [if_neg h9]
 by_cases h10 : x.op = 10
 ·rw [if_pos h10]; exact e1 _ _ _ _ _ _ rfl rfl
 rw [if_neg h10]
 by_cases h12 : x.op = 12
 ·rw [if_pos h12]; exact e0 _ _ _ rfl
 rw [if_neg h12]
 by_cases h13 : x.op = 13
 ·rw [if_pos h13]; exact e0 _ _ _ rfl
 rw [if_neg h13]
 by_cases h15 : x.op = 15
 ·rw [if_pos h15]; exact e0 _ _ _ rfl
 rw [if_neg h15]
 by_cases h16 : x.op = 16
 ·rw [if_pos h16]; exact ⟨by show (trapC c x.imm).acts.length ≤ _; rw [trapC_len]; exact Nat.le_refl _, rfl⟩
 rw [if_neg h16]
 by_cases h17 : x.op = 17
 ·rw [if_pos h17]
  split
  ·exact e0 _ _ _ (by simp)
  ·exact ⟨Nat.le_succ _, by simp⟩
 rw [if_neg h17]
 by_cases h18 : x.op = 18
 ·rw [if_pos h18]; exact ⟨enterC_len _ _ _, rfl⟩
 rw [if_neg h18]
 by_cases h19 : x.op = 19
 ·rw [if_pos h19]; exact ⟨by show (leaveC me c (base x v)).acts.length ≤ _; rw [leaveC_len]; exact Nat.le_refl _, rfl⟩
 rw [if_neg h19]
 by_cases h20 : x.op = 20
 ·rw [if_pos h20]; exact e1 _ _ _ _ _ _ rfl rfl
 rw [if_neg h20]
 exact e0 _ _ _ rfl
section
variable {m : TModule} {me : Int} {cl : Int → List Int → Nat → Cx → Res} {f : TFunc}
theorem runB_bd (hc : Bdd cl) : ∀ (s pc : Nat) (v : List Int) (fu : Nat) (c : Cx), (runB cl me f s pc v fu c).2.2.acts.length + (runB cl me f s pc v fu c).2.1 ≤ c.acts.length + fu ∧ (runB cl me f s pc v fu c).2.1 ≤ fu := by
 intro s
 induction s with
 | zero => intro pc v fu c; exact ⟨Nat.le_refl _, Nat.le_refl _⟩
 | succ s ih =>
  intro pc v fu c
  unfold runB
  split
  ·exact ⟨Nat.le_refl _, Nat.le_refl _⟩
  ·rename_i x hx
   split
   ·rename_i h0; subst h0; exact ⟨Nat.le_refl _, Nat.le_refl _⟩
   ·split
    ·exact ⟨Nat.le_refl _, Nat.le_refl _⟩
    ·split
     ·simp only
      have h1 := hc x.imm (x.args.map fun a => v.getD a.toNat 0) (fu - 1) c
      have h2 := ih (pc + 1) (if 0 ≤ x.d then v.set x.d.toNat (cl x.imm (x.args.map fun a => v.getD a.toNat 0) (fu - 1) c).1 else v) (cl x.imm (x.args.map fun a => v.getD a.toNat 0) (fu - 1) c).2.1 (cl x.imm (x.args.map fun a => v.getD a.toNat 0) (fu - 1) c).2.2
      omega
     ·have h1 := (eff_len me x v c).1
      split
      ·simp only; omega
      ·have h2 := ih ((if (eff me x v c).jump = true then findN f x.imm else pc) + 1) (eff me x v c).v (fu - 1) (eff me x v c).c
       omega
theorem callP_bd (m : TModule) (me : Int) : ∀ d, Bdd (callP m me d)
 | 0 => fun n args fu c => by
  show (trapC c 5).acts.length + fu ≤ _ ∧ fu ≤ fu
  rw [trapC_len]; omega
 | d + 1 => fun n args fu c => by
  have := runB_bd (me := me) (f := m.funcs.getD n.toNat noF) (callP_bd m me d) (fu + 1) 0 (args ++ List.replicate ((m.funcs.getD n.toNat noF).regs.toNat - args.length) 0) fu c
  show (runB _ _ _ _ _ _ _ _).2.2.acts.length + (runB _ _ _ _ _ _ _ _).2.1 ≤ _ ∧ (runB _ _ _ _ _ _ _ _).2.1 ≤ _
  omega
variable {rec_ : TrM → Int → List Int → Int → Option (Int × TrM)} {deep : Int}
noncomputable def lB (rec_ : TrM → Int → List Int → Int → Option (Int × TrM)) (deep : Int) (f : TFunc) : LS → Option (LS ⊕ (Int × TrM)) := fun s => rM_Call_l2b rec_ deep f s.1 s.2.1 s.2.2.1 s.2.2.2.1 s.2.2.2.2.1 s.2.2.2.2.2.1 s.2.2.2.2.2.2.1 s.2.2.2.2.2.2.2.1 s.2.2.2.2.2.2.2.2.1 s.2.2.2.2.2.2.2.2.2.1 s.2.2.2.2.2.2.2.2.2.2.1 s.2.2.2.2.2.2.2.2.2.2.2.1 s.2.2.2.2.2.2.2.2.2.2.2.2
def Fit (m : TModule) (f : TFunc) : Prop := f.code.length ≤ 1000 ∧ f.regs ≤ 1000 ∧ ∀ x ∈ f.code, x.args.length ≤ 1000 ∧ InsOK f x ∧ Calls m x
theorem cstep_is (hr : RecOK m me rec_ cl (w64 (deep + 1))) {x : TIns} (hx : InsOK f x) (hcl : Calls m x) (ha : x.args.length ≤ 1000) {pc fu : Nat} {v : List Int} {c : Cx} (hpc : pc ≤ 1000) (hv : (v.length : Int) = max f.regs 0) (hf : 0 < fu) (hb : c.acts.length + fu ≤ 16000000) (ho : c.over = false) (h14 : x.op = 14) :
  rM_Call_l3 rec_ deep m.funcs m.threads me c.reads (fu : Int) c.used c.held c.acts c.ended MOST v (pc : Int) false x [] 0 =
   some (.inl (tup (mk8 m me MOST (cl x.imm (x.args.map fun a => v.getD a.toNat 0) (fu - 1) c).2.1 (cl x.imm (x.args.map fun a => v.getD a.toNat 0) (fu - 1) c).2.2)
    (if 0 ≤ x.d then v.set x.d.toNat (cl x.imm (x.args.map fun a => v.getD a.toNat 0) (fu - 1) c).1 else v) ((pc + 1 : Nat) : Int))) := by
 have hfu : w64 ((fu : Int) - 1) = ((fu - 1 : Nat) : Int) := by rw [w64_id (by omega) (by omega)]; omega
 have hM : (⟨⟨m.funcs, m.threads⟩, me, c.reads, w64 ((fu : Int) - 1), c.used, c.held, c.acts, false, c.ended, MOST⟩ : TrM) = mk8 m me MOST (fu - 1) c := by
  unfold mk8; rw [hfu, ho]
 have hnext : w64 ((pc : Int) + 1) = ((pc + 1 : Nat) : Int) := w64_succ (by omega)
 obtain ⟨n0, g, hg, hp⟩ := hcl h14
 have hargs := hx.args
 unfold rM_Call_l3
 refine Ok.some_of (Ok.loop (B := fun s => rM_Call_l3b rec_ deep m.funcs m.threads me c.reads (fu : Int) c.used c.held c.acts c.ended MOST v (pc : Int) false x s.1 s.2) (fun k s => s = ((x.args.take k).map (fun a => v.getD a.toNat 0), (k : Int))) x.args.length (fun k s hk hs => ?_) (fun s hs => ?_) (by simp))
 ·subst hs
  show Ok (rM_Call_l3b rec_ deep m.funcs m.threads me c.reads (fu : Int) c.used c.held c.acts c.ended MOST v (pc : Int) false x _ _) _
  unfold rM_Call_l3b
  have hak := hargs _ (List.getElem_mem hk)
  rw [if_pos (by simp; omega), ix_some hk]
  simp only [Option.bind_some]
  rw [ix_getD hak.2.1 (by omega)]
  simp only [Option.bind_some]
  rw [ap_some (by simp; omega)]
  simp only [Option.bind_some]
  refine .ret ?_
  show _ = _
  rw [w64_succ (by omega), List.take_add_one, List.getElem?_eq_getElem hk]
  simp only [Option.toList_some, List.map_append, List.map_cons, List.map_nil]
 ·subst hs
  show Ok (rM_Call_l3b rec_ deep m.funcs m.threads me c.reads (fu : Int) c.used c.held c.acts c.ended MOST v (pc : Int) false x _ _) _
  unfold rM_Call_l3b
  rw [if_neg (by simp), List.take_length, hM, hr x.imm _ (fu - 1) c n0 ⟨g, hg, by simpa using hp⟩ (by omega)]
  simp only [Option.bind_some]
  refine .map ?_
  unfold rM_Call_k1
  rw [hnext]
  by_cases h0 : 0 ≤ x.d
  ·rw [if_pos (by simpa using h0), if_pos h0]
   have hd := rg_in hx.d
   rw [ix_getD h0 (by omega)]
   simp only [Option.bind_some]
   exact .ret rfl
  ·rw [if_neg (by simpa using h0), if_neg h0]
   exact .ret rfl
theorem loop_is (hr : RecOK m me rec_ cl (w64 (deep + 1))) (hc : Bdd cl) (hf : Fit m f) : ∀ (s pc : Nat) (v : List Int) (fu : Nat) (c : Cx), fu < s → pc ≤ 1001 → (v.length : Int) = max f.regs 0 → c.acts.length + fu ≤ 16000000 →
  loopO (lB rec_ deep f) (tup (mk8 m me MOST fu c) v (pc : Int)) = some ((runB cl me f s pc v fu c).1, mk8 m me MOST (runB cl me f s pc v fu c).2.1 (runB cl me f s pc v fu c).2.2) := by
 intro s
 induction s with
 | zero => intro pc v fu c h; omega
 | succ s ih =>
  intro pc v fu c hs hpc hv hb
  rw [loopO_eq]
  unfold runB
  have hl := hf.1
  have hB : lB rec_ deep f (tup (mk8 m me MOST fu c) v (pc : Int)) = rM_Call_l2b rec_ deep f m.funcs m.threads me c.reads (fu : Int) c.used c.held c.acts c.over c.ended MOST v (pc : Int) := rfl
  rw [hB]
  unfold rM_Call_l2b
  cases hx : f.code[pc]? with
  | none =>
   have : f.code.length ≤ pc := List.getElem?_eq_none_iff.1 hx
   rw [if_neg (by simp; omega)]
   rfl
  | some x =>
   have hpl := (List.getElem?_eq_some_iff.1 hx).1
   obtain ⟨ha, hi, hcl⟩ := hf.2.2 x (List.mem_of_getElem? hx)
   rw [if_pos (by simp; omega)]
   simp only
   by_cases h0 : fu = 0
   ·subst h0
    rw [if_pos rfl]
    rfl
   ·rw [if_neg h0, if_neg (by simp; omega)]
    unfold rM_Call_k5
    rw [if_neg (show ¬ decide ((1152921504606846976 : Int) ≤ (c.acts.length : Int)) = true by simp; omega)]
    unfold rM_Call_k2
    by_cases hov : c.over = true
    ·rw [if_pos hov, if_pos hov]
     rfl
    ·rw [if_neg hov, if_neg hov]
     have ho : c.over = false := by simpa using hov
     rw [ix_nat, hx]
     simp only [Option.bind_some]
     rw [ho]
     have hk3 : (if decide (0 ≤ x.a) = true then (ix v x.a).bind fun x826 => rM_Call_k3 rec_ deep f m.funcs m.threads me c.reads (fu : Int) c.used c.held c.acts c.ended MOST v (pc : Int) false x x826 else rM_Call_k3 rec_ deep f m.funcs m.threads me c.reads (fu : Int) c.used c.held c.acts c.ended MOST v (pc : Int) false x 0) = rM_Call_k3 rec_ deep f m.funcs m.threads me c.reads (fu : Int) c.used c.held c.acts c.ended MOST v (pc : Int) false x (base x v) := by
      unfold base
      by_cases h1 : 0 ≤ x.a
      ·have := hi.areg
       rw [if_pos (by simpa using h1), if_pos h1, ix_getD h1 (by omega)]
       rfl
      ·rw [if_neg (by simpa using h1), if_neg h1]
     rw [hk3]
     by_cases h14 : x.op = 14
     ·rw [if_pos h14]
      have e3 : rM_Call_k3 rec_ deep f m.funcs m.threads me c.reads (fu : Int) c.used c.held c.acts c.ended MOST v (pc : Int) false x (base x v) = rM_Call_l3 rec_ deep m.funcs m.threads me c.reads (fu : Int) c.used c.held c.acts c.ended MOST v (pc : Int) false x [] 0 := by
       unfold rM_Call_k3 rM_Call_k4
       simp [h14]
      rw [e3, cstep_is hr hi hcl ha (by omega) hv (by omega) hb ho h14]
      have hcb := hc x.imm (x.args.map fun a => v.getD a.toNat 0) (fu - 1) c
      refine ih (pc + 1) _ _ _ (by omega) (by omega) ?_ (by omega)
      split <;> simp [hv]
     ·rw [if_neg h14, mstep_is hi hl (by omega) hv (by omega) hb ho h14]
      unfold outOf'
      have he := eff_len me x v c
      have he1 : (eff me x v c).c.acts.length ≤ c.acts.length + 1 := he.1
      cases hret : (eff me x v c).ret with
      | some r => rfl
      | none =>
       have hfn : findN f x.imm ≤ f.code.length := List.findIdx_le_length
       refine ih _ _ _ _ (by omega) ?_ (by rw [he.2]; exact hv) (by omega)
       split <;> omega
theorem F_is {d : Nat} (hr : RecOK m me rec_ cl (w64 (deep + 1))) (hc : Bdd cl) (hm : ∀ f ∈ m.funcs, Fit m f) (hp : ∀ f ∈ m.funcs, 0 ≤ f.params ∧ f.params ≤ f.regs) (hd : deep ≤ 16) {n : Int} {args : List Int} {fu : Nat} {c : Cx} (hn : 0 ≤ n) (hg : ∃ g, m.funcs[n.toNat]? = some g ∧ (args.length : Int) = g.params) (hb : c.acts.length + fu ≤ 16000000) :
  rM_Call_F rec_ (mk8 m me MOST fu c) n args deep =
   some ((runB cl me (m.funcs.getD n.toNat noF) (fu + 1) 0 (args ++ List.replicate ((m.funcs.getD n.toNat noF).regs.toNat - args.length) 0) fu c).1,
    mk8 m me MOST (runB cl me (m.funcs.getD n.toNat noF) (fu + 1) 0 (args ++ List.replicate ((m.funcs.getD n.toNat noF).regs.toNat - args.length) 0) fu c).2.1 (runB cl me (m.funcs.getD n.toNat noF) (fu + 1) 0 (args ++ List.replicate ((m.funcs.getD n.toNat noF).regs.toNat - args.length) 0) fu c).2.2) := by
 obtain ⟨g, hg1, hg2⟩ := hg
 have hmem := List.mem_of_getElem? hg1
 have hgd : m.funcs.getD n.toNat noF = g := by rw [List.getD_eq_getElem?_getD, hg1]; rfl
 rw [hgd]
 obtain ⟨p0, p1⟩ := hp g hmem
 have hft := hm g hmem
 have hrg := hft.2.1
 unfold rM_Call_F
 rw [if_neg (by simp; omega)]
 have e1 : ix (mk8 m me MOST fu c).m.funcs n = some g := by
  show ix m.funcs n = some g
  unfold Go.Vm.ix
  rw [if_pos hn, hg1]
 rw [e1]
 simp only [Option.bind_some]
 rw [ap_some (by simp; omega)]
 simp only [Option.bind_some, List.nil_append]
 unfold rM_Call_l1
 refine Ok.some_of (Ok.loop (B := fun s => rM_Call_l1b rec_ (mk8 m me MOST fu c) deep g s) (fun k s => s = args ++ List.replicate k 0) (g.regs.toNat - args.length) (fun k s hk hs => ?_) (fun s hs => ?_) (by simp))
 ·subst hs
  show Ok (rM_Call_l1b rec_ (mk8 m me MOST fu c) deep g _) _
  unfold rM_Call_l1b
  rw [if_pos (by simp; omega), ap_some (by simp; omega)]
  simp only [Option.bind_some]
  refine .ret ?_
  show _ = _
  rw [List.append_assoc, ← List.replicate_succ']
 ·subst hs
  show Ok (rM_Call_l1b rec_ (mk8 m me MOST fu c) deep g _) _
  unfold rM_Call_l1b
  rw [if_neg (by simp; omega)]
  refine .map ?_
  have := loop_is hr hc hft (fu + 1) 0 (args ++ List.replicate (g.regs.toNat - args.length) 0) fu c (by omega) (by omega) (by simp; omega) hb
  exact ⟨_, this, rfl⟩
theorem it_is (hm : ∀ f ∈ m.funcs, Fit m f) (hp : ∀ f ∈ m.funcs, 0 ≤ f.params ∧ f.params ≤ f.regs) : ∀ (d : Nat), d ≤ 17 → RecOK m me (fun p0 p1 p2 p3 => itF mF (d + 1) (p0, p1, p2, p3)) (callP m me d) (17 - (d : Int)) := by
 intro d
 induction d with
 | zero =>
  intro _ n args fu c hn hg hb
  show rM_Call_F _ (mk8 m me MOST fu c) n args _ = _
  unfold rM_Call_F
  rw [if_pos (show decide ((16 : Int) < 17 - ((0 : Nat) : Int)) = true from rfl), trap_is _ _ _ _ _ (by omega)]
  rfl
 | succ d ih =>
  intro hd n args fu c hn hg hb
  have hr := ih (by omega)
  have e : (17 : Int) - ((d : Nat) : Int) = w64 ((17 - ((d + 1 : Nat) : Int)) + 1) := by rw [w64_id (by omega) (by omega)]; omega
  rw [e] at hr
  exact F_is (d := d) hr (callP_bd m me d) hm hp (by omega) hn hg hb
theorem call_is (hm : ∀ f ∈ m.funcs, Fit m f) (hp : ∀ f ∈ m.funcs, 0 ≤ f.params ∧ f.params ≤ f.regs) {n : Int} {args : List Int} {fu : Nat} {c : Cx} (hn : 0 ≤ n) (hg : ∃ g, m.funcs[n.toNat]? = some g ∧ (args.length : Int) = g.params) (hb : c.acts.length + fu ≤ 16000000) :
  rM_Call (mk8 m me MOST fu c) n args 0 = some ((callP m me 17 n args fu c).1, mk8 m me MOST (callP m me 17 n args fu c).2.1 (callP m me 17 n args fu c).2.2) :=
 recO_of call_mo (it_is hm hp 17 (by omega) n args fu c hn hg hb)
end
end
section
theorem mG_mem {m : List (Int × Int)} {r s : Int} (h : mG m r = some s) : (r, s) ∈ m := by
 unfold mG at h
 cases hf : m.find? (fun p => p.1 == r) with
 | none => rw [hf] at h; cases h
 | some p =>
  rw [hf] at h
  have h1 := List.find?_some hf
  have h2 := List.mem_of_find?_eq_some hf
  simp at h h1
  obtain ⟨a, b⟩ := p
  simp only at h h1
  subst h h1
  exact h2
theorem mem_mD {m : List (Int × Int)} {d : Int} (hn : (m.map Prod.fst).Nodup) {p : Int × Int} (h : p ∈ mD m d) : p ∈ m ∧ p.1 ≠ d := by
 unfold mD at h
 cases hi : mI m d with
 | none =>
  rw [hi] at h
  unfold mI at hi
  rw [List.findIdx?_eq_none_iff] at hi
  exact ⟨h, by simpa using hi p h⟩
 | some j =>
  rw [hi] at h
  unfold mI at hi
  rw [List.findIdx?_eq_some_iff_getElem] at hi
  obtain ⟨hj, hj2, _⟩ := hi
  have hm := List.mem_of_mem_eraseIdx h
  refine ⟨hm, fun e => ?_⟩
  obtain ⟨i, hi, hne, he⟩ := List.mem_eraseIdx_iff_getElem.1 h
  have : (m.map Prod.fst)[i]'(by simpa using hi) = (m.map Prod.fst)[j]'(by simpa using hj) := by
   simp only [List.getElem_map, he, e]
   simpa using (Eq.symm (by simpa using hj2))
  exact hne ((List.getElem_inj hn).1 this)
theorem mem_mS {m : List (Int × Int)} {d x : Int} {p : Int × Int} (h : p ∈ mS m d x) : p = (d, x) ∨ p ∈ m := by
 unfold mS at h
 split at h
 ·rcases List.mem_or_eq_of_mem_set h with h | h
  ·exact .inr h
  ·exact .inl h
 ·simp at h
  rcases h with h | h
  ·exact .inr h
  ·exact .inl h
structure KOK (f : TFunc) (k : Ttidy_facts) : Prop where
 nn : (k.num.map Prod.fst).Nodup
 ns : (k.same.map Prod.fst).Nodup
 num : ∀ p ∈ k.num, 0 ≤ p.1 ∧ p.1 < f.regs
 same : ∀ p ∈ k.same, (0 ≤ p.1 ∧ p.1 < f.regs) ∧ 0 ≤ p.2 ∧ p.2 < f.regs
theorem KOK.frs (f : TFunc) : KOK f frs := ⟨List.nodup_nil, List.nodup_nil, fun _ h => (by cases h), fun _ h => (by cases h)⟩
theorem fgt_num {f : TFunc} {k : Ttidy_facts} (h : KOK f k) {d : Int} {p : Int × Int} (hp : p ∈ (fgt k d).num) : p ∈ k.num ∧ p.1 ≠ d := mem_mD h.nn hp
theorem fgt_same {f : TFunc} {k : Ttidy_facts} (h : KOK f k) {d : Int} {p : Int × Int} (hp : p ∈ (fgt k d).same) : p ∈ k.same ∧ p.1 ≠ d ∧ p.2 ≠ d := by
 have h1 := List.mem_filter.1 hp
 have h2 := mem_mD h.ns h1.1
 exact ⟨h2.1, h2.2, by simpa using h1.2⟩
theorem KOK.fgt {f : TFunc} {k : Ttidy_facts} (h : KOK f k) (d : Int) : KOK f (fgt k d) :=
 ⟨keys_mD _ _ h.nn, (List.filter_sublist.map _).nodup (keys_mD _ _ h.ns), fun p hp => h.num p (fgt_num h hp).1, fun p hp => h.same p (fgt_same h hp).1⟩
theorem KOK.lrn {f : TFunc} {k : Ttidy_facts} (h : KOK f k) {x : TIns} (hd : 0 ≤ x.d → x.d < f.regs) (ha : x.op = 2 → 0 ≤ x.a ∧ x.a < f.regs) : KOK f (lrn k x) := by
 unfold G11.lrn
 split
 ·exact h
 ·rename_i h0
  have hf := h.fgt x.d
  split
  ·refine ⟨keys_mS _ _ _ hf.nn, hf.ns, fun p hp => ?_, hf.same⟩
   rcases mem_mS hp with rfl | hp
   ·exact ⟨by show 0 ≤ x.d; omega, hd (by omega)⟩
   ·exact hf.num p hp
  ·split
   ·rename_i h2
    have := ha h2.1
    refine ⟨hf.nn, keys_mS _ _ _ hf.ns, hf.num, fun p hp => ?_⟩
    rcases mem_mS hp with rfl | hp
    ·exact ⟨⟨by show 0 ≤ x.d; omega, hd (by omega)⟩, this⟩
    ·exact hf.same p hp
   ·exact hf
theorem lk_in {f : TFunc} {k : Ttidy_facts} (h : KOK f k) (r : Int) : lk k r = r ∨ (0 ≤ r ∧ (r, lk k r) ∈ k.same) := by
 unfold lk
 split
 ·rename_i hc
  simp only [Bool.and_eq_true, decide_eq_true_iff] at hc
  exact .inr ⟨hc.2, mG_mem (isSome_getD hc.1)⟩
 ·exact .inl rfl
theorem lk_rg {f : TFunc} {k : Ttidy_facts} (h : KOK f k) {p q : Bool} {r : Int} (hr : rg p q r f.regs = true) : rg p q (lk k r) f.regs = true := by
 rcases lk_in h r with e | ⟨h0, e⟩
 ·rw [e]; exact hr
 ·have := (h.same _ e).2
  unfold rg at hr ⊢
  split
  ·simp only [Bool.or_eq_true, Bool.and_eq_true, decide_eq_true_iff]
   exact .inl this
  ·rename_i hp
   rw [if_neg hp] at hr
   have : r = -1 := by simpa using hr
   omega
theorem lab_op {l : Int} {x : TIns} : lab l x = true ↔ x.op = 11 ∧ x.imm = l := by unfold lab; simp
theorem fold_11 {k : Ttidy_facts} {x : TIns} (h : x.op = 11 ∨ 14 ≤ x.op) : fld k x = x := by
 rcases (fold_is k x).2 with e | ⟨e, _⟩ | ⟨e, _⟩ | ⟨_, _, _, _, _, _, e⟩
 ·exact e
 ·omega
 ·omega
 ·omega
theorem chg_lab (o : Ttidy_Options) (k : Ttidy_facts) (x : TIns) (l : Int) : lab l (chg o k x) = lab l x := by
 have hc := (chg_s o k x).op
 by_cases h : x.op = 11
 ·have hi : (chg o k x).op = 11 ∧ (chg o k x).imm = x.imm := by
   unfold chg
   simp only
   by_cases h1 : o.copy = true <;> by_cases h2 : o.fold = true <;> simp only [h1, h2, if_true, if_false, Bool.false_eq_true]
   ·rw [fold_11 (.inl (show (ren k x).op = 11 from h))]; exact ⟨h, rfl⟩
   ·exact ⟨h, rfl⟩
   ·rw [fold_11 (.inl h)]; exact ⟨h, rfl⟩
   ·simpa using h
  unfold lab
  rw [hi.1, hi.2, h]
 ·have : (chg o k x).op ≠ 11 := by omega
  unfold lab
  simp [h, this]
theorem row_cnt (o : Ttidy_Options) (i : Int) : ∀ (k : Ttidy_facts) (xs : List TIns), cnt (rowL o k xs) i = cnt xs i
 | _, [] => rfl
 | k, x :: xs => by
  have h1 := row_cnt o i (lrn (at0 k x) (chg o (at0 k x) x)) xs
  have h2 := chg_lab o (at0 k x) x i
  unfold lab at h2
  unfold cnt at h1 ⊢
  rw [rowL, List.countP_cons, List.countP_cons, h1, h2]
theorem row_find (o : Ttidy_Options) (i : Int) : ∀ (k : Ttidy_facts) (xs : List TIns), (rowL o k xs).findIdx (lab i) = xs.findIdx (lab i)
 | _, [] => rfl
 | k, x :: xs => by
  have h1 := row_find o i (lrn (at0 k x) (chg o (at0 k x) x)) xs
  rw [rowL, List.findIdx_cons, List.findIdx_cons, h1, chg_lab]
theorem row_get (o : Ttidy_Options) : ∀ (i : Nat) (k : Ttidy_facts) (xs : List TIns), (rowL o k xs)[i]? = (xs[i]?).map fun x => chg o (at0 (knows o k (xs.take i)) x) x
 | i, _, [] => by simp [rowL]
 | 0, k, x :: xs => rfl
 | i + 1, k, x :: xs => by
  have := row_get o i (lrn (at0 k x) (chg o (at0 k x) x)) xs
  simpa [rowL, knows] using this
theorem ins_lit {f : TFunc} {x : TIns} (h : InsOK f x) : (x.op = 11 → x.d = -1) ∧ (x.op = 2 → 0 ≤ x.a ∧ x.a < f.regs) := by
 refine ⟨fun e => ?_, fun e => ?_⟩
 ·have hd := h.d
  unfold rg at hd
  rw [e, if_neg (show ¬ (hs 11).1 = true by decide +kernel)] at hd
  simpa using hd
 ·have ha := h.a
  unfold aOf at ha
  rw [e, if_neg (by decide)] at ha
  have h2 : (hs 2).2.1 = true := rfl
  rw [h2] at ha
  exact rg_reg rfl ha
theorem ren_ok {f : TFunc} {k : Ttidy_facts} (hk : KOK f k) {x : TIns} (h : InsOK f x) : InsOK f (ren k x) := by
 refine ⟨h.op, h.fen, h.d, ?_, lk_rg hk h.b, fun y hy => ?_, h.bare, ?_⟩
 ·have : aOf (ren k x) = aOf x := rfl
  rw [this]
  exact lk_rg hk h.a
 ·obtain ⟨z, hz, rfl⟩ := List.mem_map.1 hy
  have := h.args z hz
  refine ⟨this.1, ?_⟩
  rcases lk_in hk z with e | ⟨_, e⟩
  ·rw [e]; exact this.2
  ·exact (hk.same _ e).2
 ·exact h.num
theorem con_ok {f : TFunc} {d n : Int} (h : 0 ≤ d ∧ d < f.regs) : InsOK f (con d n) :=
 ⟨by simp [con], fun e => (by simp [con] at e), by
  show rg (hs 1).1 false d f.regs = true
  unfold rg
  rw [if_pos (show (hs 1).1 = true from rfl)]
  simp [h], by
  show rg (aOf (con d n)) _ (-1) f.regs = true
  have : aOf (con d n) = false := rfl
  rw [this]; rfl, by
  show rg (hs 1).2.2.1 false (-1) f.regs = true
  rfl, fun y hy => (by cases hy), fun _ _ => ⟨rfl, rfl, rfl⟩, .inl (.inl rfl)⟩
theorem jmp_ok {f : TFunc} {l : Int} (h : 0 < cnt f.code l) : InsOK f (jmpI l) :=
 ⟨by simp [jmpI], fun e => (by simp [jmpI] at e), by
  show rg (hs 12).1 _ (-1) f.regs = true
  rfl, by
  show rg (aOf (jmpI l)) _ (-1) f.regs = true
  have : aOf (jmpI l) = false := rfl
  rw [this]; rfl, by
  show rg (hs 12).2.2.1 false (-1) f.regs = true
  rfl, fun y hy => (by cases hy), fun _ _ => ⟨rfl, rfl, rfl⟩, .inr (.inr (.inr ⟨by simp [jmpI], by
   show if (hs 12).2.2.2 = true then 0 < cnt f.code l else l = 0
   rw [if_pos (show (hs 12).2.2.2 = true from rfl)]
   exact h⟩))⟩
theorem chg_ok {f : TFunc} {o : Ttidy_Options} {k : Ttidy_facts} (hk : KOK f k) {x : TIns} (h : InsOK f x) : InsOK f (chg o k x) := by
 have hr : InsOK f (if o.copy = true then ren k x else x) := by
  split
  ·exact ren_ok hk h
  ·exact h
 unfold chg
 simp only
 generalize (if o.copy = true then ren k x else x) = z at hr
 split
 ·rcases (fold_is k z).2 with e | ⟨e2, n, _, e⟩ | ⟨e2, _, e⟩ | ⟨a, b, n, _, _, e, e2⟩
  ·rw [e]; exact hr
  ·rw [e]; exact con_ok (hr.dreg (by omega))
  ·rw [e]
   refine jmp_ok ?_
   rcases hr.num with h1 | h1 | h1 | ⟨_, h1⟩
   ·omega
   ·omega
   ·omega
   ·rw [e2, if_pos (show (hs 13).2.2.2 = true from rfl)] at h1
    exact h1
  ·rw [e]; exact con_ok (hr.dreg (by omega))
 ·exact hr
theorem knows_ok {f : TFunc} (o : Ttidy_Options) : ∀ {k : Ttidy_facts} (hk : KOK f k) {xs : List TIns} (h : ∀ x ∈ xs, InsOK f x), KOK f (knows o k xs)
 | k, hk, [], _ => hk
 | k, hk, x :: xs, h => by
  have h0 : KOK f (at0 k x) := by unfold at0; split; exact .frs f; exact hk
  have hc := chg_ok (o := o) h0 (h x (by simp))
  refine knows_ok o (h0.lrn ?_ (ins_lit hc).2) fun y hy => h y (List.mem_cons_of_mem _ hy)
  rcases rg_in hc.d with e | e
  ·intro h; omega
  ·exact fun _ => e.2
end
section
structure Val (k : Ttidy_facts) (v : List Int) : Prop where
 num : ∀ p ∈ k.num, v.getD p.1.toNat 0 = p.2
 same : ∀ p ∈ k.same, v.getD p.1.toNat 0 = v.getD p.2.toNat 0
theorem Val.frs (v : List Int) : Val frs v := ⟨fun _ h => (by cases h), fun _ h => (by cases h)⟩
theorem getD_set_ne {v : List Int} {i j : Nat} {z : Int} (h : i ≠ j) : (v.set i z).getD j 0 = v.getD j 0 := by
 rw [List.getD_eq_getElem?_getD, List.getD_eq_getElem?_getD, List.getElem?_set, if_neg h]
theorem getD_set_eq {v : List Int} {i : Nat} {z : Int} (h : i < v.length) : (v.set i z).getD i 0 = z := by
 rw [List.getD_eq_getElem?_getD, List.getElem?_set, if_pos rfl, if_pos h]
 rfl
theorem Val.fgt_set {f : TFunc} {k : Ttidy_facts} {v : List Int} (hk : KOK f k) (h : Val k v) {d z : Int} (hd : 0 ≤ d) : Val (fgt k d) (v.set d.toNat z) := by
 refine ⟨fun p hp => ?_, fun p hp => ?_⟩
 ·have h1 := fgt_num hk hp
  have h2 := hk.num p h1.1
  rw [getD_set_ne (by have := h1.2; omega)]
  exact h.num p h1.1
 ·have h1 := fgt_same hk hp
  have h2 := hk.same p h1.1
  rw [getD_set_ne (by have := h1.2.1; omega), getD_set_ne (by have := h1.2.2; omega)]
  exact h.same p h1.1
theorem Val.fgt {f : TFunc} {k : Ttidy_facts} {v : List Int} (hk : KOK f k) (h : Val k v) (d : Int) : Val (fgt k d) v :=
 ⟨fun p hp => h.num p (fgt_num hk hp).1, fun p hp => h.same p (fgt_same hk hp).1⟩
theorem eff_v (me : Int) (x : TIns) (v : List Int) (c : Cx) : (eff me x v c).v = v ∧ x.op ≠ 1 ∧ x.op ≠ 2 ∨ (∃ z, (eff me x v c).v = v.set x.d.toNat z ∧ (x.op = 1 → z = x.imm) ∧ (x.op = 2 → z = base x v) ∧ ((1 ≤ x.op ∧ x.op ≤ 9) ∨ x.op = 17)) := by
 unfold eff
 by_cases h1 : x.op = 1
 ·rw [if_pos h1]; exact .inr ⟨_, rfl, fun _ => rfl, fun h => by omega, by omega⟩
 rw [if_neg h1]
 by_cases h2 : x.op = 2
 ·rw [if_pos h2]; exact .inr ⟨_, rfl, fun h => by omega, fun h => rfl, by omega⟩
 rw [if_neg h2]
 by_cases h3 : 3 ≤ x.op ∧ x.op ≤ 8
 ·rw [if_pos h3]; exact .inr ⟨_, rfl, fun h => by omega, fun h => by omega, by omega⟩
 rw [if_neg h3]
 by_cases h9 : x.op = 9
 ·rw [if_pos h9]
  cases c.reads with
  | nil => exact .inl ⟨rfl, h1, h2⟩
  | cons r rs => exact .inr ⟨_, rfl, fun h => by omega, fun h => by omega, by omega⟩
 rw [if_neg h9]
 by_cases h10 : x.op = 10
 ·rw [if_pos h10]; exact .inl ⟨rfl, h1, h2⟩
 rw [if_neg h10]
 by_cases h12 : x.op = 12
 ·rw [if_pos h12]; exact .inl ⟨rfl, h1, h2⟩
 rw [if_neg h12]
 by_cases h13 : x.op = 13
 ·rw [if_pos h13]; exact .inl ⟨rfl, h1, h2⟩
 rw [if_neg h13]
 by_cases h15 : x.op = 15
 ·rw [if_pos h15]; exact .inl ⟨rfl, h1, h2⟩
 rw [if_neg h15]
 by_cases h16 : x.op = 16
 ·rw [if_pos h16]; exact .inl ⟨rfl, h1, h2⟩
 rw [if_neg h16]
 by_cases h17 : x.op = 17
 ·rw [if_pos h17]
  split
  ·exact .inr ⟨_, rfl, fun h => by omega, fun h => by omega, by omega⟩
  ·exact .inr ⟨_, rfl, fun h => by omega, fun h => by omega, by omega⟩
 rw [if_neg h17]
 by_cases h18 : x.op = 18
 ·rw [if_pos h18]; exact .inl ⟨rfl, h1, h2⟩
 rw [if_neg h18]
 by_cases h19 : x.op = 19
 ·rw [if_pos h19]; exact .inl ⟨rfl, h1, h2⟩
 rw [if_neg h19]
 by_cases h20 : x.op = 20
 ·rw [if_pos h20]; exact .inl ⟨rfl, h1, h2⟩
 rw [if_neg h20]
 exact .inl ⟨rfl, h1, h2⟩
theorem Val.lrn {f : TFunc} {k : Ttidy_facts} {v w : List Int} {x : TIns} (hk : KOK f k) (h : Val k v) (hx : InsOK f x) (hv : (v.length : Int) = max f.regs 0)
  (hw : w = v ∧ x.op ≠ 1 ∧ x.op ≠ 2 ∨ ∃ z, w = v.set x.d.toNat z ∧ (x.op = 1 → z = x.imm) ∧ (x.op = 2 → z = base x v)) (hneg : x.d < 0 → w = v) : Val (lrn k x) w := by
 unfold G11.lrn
 split
 ·rename_i h0
  rw [hneg h0]; exact h
 ·rename_i h0
  rcases hw with ⟨rfl, h1, h2⟩ | ⟨z, rfl, h1, h2⟩
  ·rw [if_neg h1, if_neg (fun e => h2 e.1)]
   exact h.fgt hk _
  ·have hf := h.fgt_set (z := z) hk (show 0 ≤ x.d by omega)
   have hdl : x.d.toNat < v.length := by
    rcases rg_in hx.d with e | e
    ·omega
    ·omega
   split
   ·rename_i e
    refine ⟨fun p hp => ?_, hf.same⟩
    rcases mem_mS hp with rfl | hp
    ·show (v.set x.d.toNat z).getD x.d.toNat 0 = x.imm
     rw [getD_set_eq hdl]; exact h1 e
    ·exact hf.num p hp
   ·split
    ·rename_i e
     have ha := (ins_lit hx).2 e.1
     refine ⟨hf.num, fun p hp => ?_⟩
     rcases mem_mS hp with rfl | hp
     ·show (v.set x.d.toNat z).getD x.d.toNat 0 = (v.set x.d.toNat z).getD x.a.toNat 0
      rw [getD_set_eq hdl, getD_set_ne (by have := e.2; omega), h2 e.1]
      unfold base
      rw [if_pos ha.1]
     ·exact hf.same p hp
    ·exact hf
theorem lk_val {f : TFunc} {k : Ttidy_facts} {v : List Int} (hk : KOK f k) (h : Val k v) (r : Int) : v.getD (lk k r).toNat 0 = v.getD r.toNat 0 ∧ (0 ≤ lk k r ↔ 0 ≤ r) := by
 rcases lk_in hk r with e | ⟨h0, e⟩
 ·rw [e]; exact ⟨rfl, Iff.rfl⟩
 ·have h1 := h.same _ e
  have h2 := hk.same _ e
  simp only at h1 h2
  exact ⟨h1.symm, by omega⟩
theorem eff_congr {me : Int} {x y : TIns} {v : List Int} {c : Cx} (ho : y.op = x.op) (hd : y.d = x.d) (hi : y.imm = x.imm) (hb : base y v = base x v) (hb2 : v.getD y.b.toNat 0 = v.getD x.b.toNat 0) (hw : y.what = x.what ∧ y.volatile = x.volatile ∧ y.final = x.final) : eff me y v c = eff me x v c := by
 have hdo : ∀ (c : Cx) (k a z : Int), doC c k a z y = doC c k a z x := fun c k a z => by unfold doC; rw [hw.1, hw.2.1, hw.2.2]
 unfold eff
 rw [ho, hd, hi, hb, hb2]
 simp only [hdo]
theorem recN_at (a b : Int) : recN 3 a b = w64 (a + b) ∧ recN 4 a b = w64 (a - b) ∧ recN 5 a b = w64 (a * b) ∧ recN 7 a b = (if a < b then 1 else 0) ∧ recN 8 a b = (if a = b then 1 else 0) := by
 unfold recN ref08_reckon
 refine ⟨rfl, rfl, rfl, ?_, ?_⟩
 ·by_cases h : a < b <;> simp [h]
 ·by_cases h : a = b <;> simp [h]
theorem chg_eff {f : TFunc} {o : Ttidy_Options} {k : Ttidy_facts} {v : List Int} (hk : KOK f k) (h : Val k v) {x : TIns} (hx : InsOK f x) (h14 : x.op ≠ 14) (me : Int) (c : Cx) :
  eff me (chg o k x) v c = eff me x v c ∧ ((eff me x v c).jump = true → (chg o k x).imm = x.imm) ∧ (chg o k x).op ≠ 14 := by
 have hbase : ∀ x : TIns, base (ren k x) v = base x v := fun x => by
  have := lk_val hk h x.a
  unfold base
  show (if 0 ≤ lk k x.a then v.getD (lk k x.a).toNat 0 else 0) = _
  by_cases h0 : 0 ≤ x.a
  ·rw [if_pos (this.2.2 h0), if_pos h0, this.1]
  ·rw [if_neg (fun e => h0 (this.2.1 e)), if_neg h0]
 have hr : ∃ z, z = (if o.copy = true then ren k x else x) ∧ eff me z v c = eff me x v c ∧ z.imm = x.imm ∧ z.op = x.op ∧ InsOK f z := by
  refine ⟨_, rfl, ?_⟩
  split
  ·exact ⟨eff_congr rfl rfl rfl (hbase x) (lk_val hk h x.b).1 ⟨rfl, rfl, rfl⟩, rfl, rfl, ren_ok hk hx⟩
  ·exact ⟨rfl, rfl, rfl, hx⟩
 obtain ⟨z, hz, he, hi, hop, hzo⟩ := hr
 unfold chg
 simp only
 rw [← hz]
 have num : ∀ {r n : Int}, mG k.num r = some n → 0 ≤ r ∧ v.getD r.toNat 0 = n := fun e => by
  have e := mG_mem e
  exact ⟨(hk.num _ e).1, h.num _ e⟩
 have hconE : ∀ (d n : Int), eff me (con d n) v c = ⟨v.set d.toNat n, false, c, none⟩ := fun d n => by unfold eff; rw [if_pos (show (con d n).op = 1 from rfl)]; rfl
 split
 ·rcases (fold_is k z).2 with e | ⟨e2, n, en, e⟩ | ⟨e2, en, e⟩ | ⟨a, b, n, ea, eb, e, e2⟩
  ·rw [e]; exact ⟨he, fun _ => hi, by omega⟩
  ·have hn := num en
   have hb : base z v = n := by unfold base; rw [if_pos hn.1, hn.2]
   have : eff me z v c = ⟨v.set z.d.toNat n, false, c, none⟩ := by unfold eff; rw [if_neg (by omega), if_pos e2, hb]
   rw [e, hconE, ← he, this]
   exact ⟨rfl, fun h => (by cases h), by simp [con]⟩
  ·have hn := num en
   have hb : base z v = 0 := by unfold base; rw [if_pos hn.1, hn.2]
   have e1 : eff me z v c = ⟨v, true, c, none⟩ := by
    unfold eff
    rw [if_neg (by omega), if_neg (by omega), if_neg (by omega), if_neg (by omega), if_neg (by omega), if_neg (by omega), if_pos e2, hb]
    rfl
   have e3 : eff me (jmpI z.imm) v c = ⟨v, true, c, none⟩ := by unfold eff; rfl
   rw [e, e3, ← he, e1]
   exact ⟨rfl, fun _ => hi, by simp [jmpI]⟩
  ·have ha := num ea
   have hb := num eb
   have hb1 : base z v = a := by unfold base; rw [if_pos ha.1, ha.2]
   have h38 : 3 ≤ z.op ∧ z.op ≤ 8 := by omega
   have e1 : eff me z v c = ⟨v.set z.d.toNat (recN z.op a b), false, c, none⟩ := by
    unfold eff
    rw [if_neg (by omega), if_neg (by omega), if_pos h38, hb1, hb.2]
   have hrec : recN z.op a b = n := by
    have hr := recN_at a b
    rcases e2 with ⟨h1, h2⟩ | ⟨h1, h2⟩ | ⟨h1, h2⟩ | ⟨h1, h2⟩ | ⟨h1, h2⟩ <;> rw [h1, h2]
    ·exact hr.1
    ·exact hr.2.1
    ·exact hr.2.2.1
    ·exact hr.2.2.2.1
    ·exact hr.2.2.2.2
   rw [e, hconE, ← he, e1, hrec]
   exact ⟨rfl, fun h => (by cases h), by simp [con]⟩
 ·exact ⟨he, fun _ => hi, by omega⟩
theorem chg_call {f : TFunc} {o : Ttidy_Options} {k : Ttidy_facts} {v : List Int} (hk : KOK f k) (h : Val k v) {x : TIns} (h14 : x.op = 14) :
  (chg o k x).op = 14 ∧ (chg o k x).imm = x.imm ∧ (chg o k x).d = x.d ∧ (chg o k x).args.map (fun a => v.getD a.toNat 0) = x.args.map (fun a => v.getD a.toNat 0) ∧ (chg o k x).args.length = x.args.length := by
 have hr : (ren k x).args.map (fun a => v.getD a.toNat 0) = x.args.map (fun a => v.getD a.toNat 0) := by
  show (x.args.map (lk k)).map _ = _
  rw [List.map_map]
  exact List.map_congr_left fun a _ => (lk_val hk h a).1
 unfold chg
 simp only
 by_cases h1 : o.copy = true <;> by_cases h2 : o.fold = true <;> simp only [h1, h2, if_true, if_false, Bool.false_eq_true]
 ·rw [fold_11 (.inr (show 14 ≤ (ren k x).op by show 14 ≤ x.op; omega))]; exact ⟨h14, rfl, rfl, hr, by simp [ren]⟩
 ·exact ⟨h14, rfl, rfl, hr, by simp [ren]⟩
 ·rw [fold_11 (.inr (by omega))]; exact ⟨h14, rfl, rfl, rfl, rfl⟩
 ·exact ⟨h14, by trivial, by trivial, by trivial, by trivial⟩
theorem row_run {cl cl' : Int → List Int → Nat → Cx → Res} {me : Int} {f : TFunc} (o : Ttidy_Options) (hi : ∀ x ∈ f.code, InsOK f x) (hcl : ∀ x ∈ f.code, x.op = 14 → ∀ args : List Int, args.length = x.args.length → ∀ fu c, cl' x.imm args fu c = cl x.imm args fu c) : ∀ (s pc : Nat) (v : List Int) (fu : Nat) (c : Cx), (pc < f.code.length → Val (knows o frs (f.code.take pc)) v) → (v.length : Int) = max f.regs 0 →
  runB cl' me (rowF o f) s pc v fu c = runB cl me f s pc v fu c := by
 intro s
 induction s with
 | zero => intro pc v fu c _ _; rfl
 | succ s ih =>
  intro pc v fu c hval hv
  unfold runB
  have hget : (rowF o f).code[pc]? = (f.code[pc]?).map fun x => chg o (at0 (knows o frs (f.code.take pc)) x) x := row_get o pc frs f.code
  rw [hget]
  cases hx : f.code[pc]? with
  | none => rfl
  | some x =>
   simp only [Option.map_some]
   have hpl := (List.getElem?_eq_some_iff.1 hx).1
   have hxo := hi x (List.mem_of_getElem? hx)
   have hkk := knows_ok o (KOK.frs f) (xs := f.code.take pc) fun y hy => hi y (List.mem_of_mem_take hy)
   have hv0 := hval hpl
   have hk0 : KOK f (at0 (knows o frs (f.code.take pc)) x) := by unfold at0; split; exact .frs f; exact hkk
   have hva : Val (at0 (knows o frs (f.code.take pc)) x) v := by unfold at0; split; exact .frs v; exact hv0
   have hnext : knows o frs (f.code.take (pc + 1)) = G11.lrn (at0 (knows o frs (f.code.take pc)) x) (chg o (at0 (knows o frs (f.code.take pc)) x) x) := by
    rw [List.take_add_one, hx]
    exact (rowL_snoc o frs (f.code.take pc) x).2
   generalize at0 (knows o frs (f.code.take pc)) x = k at hk0 hva hnext
   have hyo := chg_ok (o := o) hk0 hxo
   by_cases h0 : fu = 0
   ·rw [if_pos h0, if_pos h0]
   rw [if_neg h0, if_neg h0]
   by_cases hov : c.over = true
   ·rw [if_pos hov, if_pos hov]
   rw [if_neg hov, if_neg hov]
   by_cases h14 : x.op = 14
   ·obtain ⟨g1, g2, g3, g4, _⟩ := chg_call (o := o) hk0 hva h14
    rw [if_pos h14, if_pos g1, g2, g3, g4, hcl x (List.mem_of_getElem? hx) h14 _ (by simp)]
    refine ih _ _ _ _ (fun _ => ?_) (by split <;> simp [hv])
    rw [hnext]
    refine hva.lrn hk0 hyo hv ?_ (fun hneg => ?_)
    ·by_cases hd : 0 ≤ x.d
     ·rw [if_pos hd]
      exact .inr ⟨_, by rw [g3], fun e => by omega, fun e => by omega⟩
     ·rw [if_neg hd]
      exact .inl ⟨rfl, by omega, by omega⟩
    ·rw [g3] at hneg
     rw [if_neg (by omega)]
   ·obtain ⟨g1, g2, g3⟩ := chg_eff (o := o) hk0 hva hxo h14 me c
    rw [if_neg h14, if_neg g3, g1]
    cases hret : (eff me x v c).ret with
    | some r => rfl
    | none =>
     simp only
     have hfind : ∀ l, findN (rowF o f) l = findN f l := fun l => row_find o l frs f.code
     have hel := (eff_len me x v c).2
     have hlen : ((eff me x v c).v.length : Int) = max f.regs 0 := by rw [hel]; exact hv
     by_cases hj : (eff me x v c).jump = true
     ·rw [if_pos hj, g2 hj, hfind, if_pos hj]
      refine ih _ _ _ _ (fun hlt => ?_) hlen
      have hlt' : findN f x.imm < f.code.length := by omega
      have hlab : lab x.imm f.code[findN f x.imm] = true := List.findIdx_getElem (w := hlt')
      have hl11 := (lab_op.1 hlab).1
      have : knows o frs (f.code.take (findN f x.imm + 1)) = G11.frs := by
       rw [List.take_add_one, List.getElem?_eq_getElem hlt']
       show knows o G11.frs (_ ++ [_]) = _
       rw [(rowL_snoc o G11.frs _ _).2]
       have : at0 (knows o G11.frs (f.code.take (findN f x.imm))) f.code[findN f x.imm] = G11.frs := by unfold at0; rw [if_pos hl11]
       rw [this]
       unfold G11.lrn
       rw [if_pos]
       have hc := chg_s o G11.frs f.code[findN f x.imm]
       rw [hc.d (by have := hc.op; omega), (ins_lit (hi _ (List.getElem_mem hlt'))).1 hl11]
       decide
      rw [this]
      exact .frs _
     ·rw [if_neg hj, if_neg hj]
      refine ih _ _ _ _ (fun _ => ?_) hlen
      rw [hnext]
      refine hva.lrn hk0 hyo hv ?_ (fun hneg => ?_)
      ·have := eff_v me (chg o k x) v c
       rw [g1] at this
       exact this.imp id fun ⟨z, a, b, c, _⟩ => ⟨z, a, b, c⟩
      ·have := eff_v me (chg o k x) v c
       rw [g1] at this
       rcases this with ⟨e, _⟩ | ⟨z, e, _, _, e2⟩
       ·exact e
       ·have := hyo.dreg e2
        omega
structure Step1 (Q : TFunc → TFunc → Prop) (m t : TModule) : Prop where
 len : t.funcs.length = m.funcs.length
 thr : t.threads = m.threads
 at_ : ∀ (i : Nat) f g, m.funcs[i]? = some f → t.funcs[i]? = some g → Q f g
theorem Step1.get {Q : TFunc → TFunc → Prop} {m t : TModule} (h : Step1 Q m t) {i : Nat} {f : TFunc} (hf : m.funcs[i]? = some f) : ∃ g, t.funcs[i]? = some g ∧ Q f g := by
 have := (List.getElem?_eq_some_iff.1 hf).1
 have hg : t.funcs[i]? = some (t.funcs[i]'(by rw [h.len]; exact this)) := List.getElem?_eq_getElem _
 exact ⟨_, hg, h.at_ i f _ hf hg⟩
theorem Step1.back {Q : TFunc → TFunc → Prop} {m t : TModule} (h : Step1 Q m t) {i : Nat} {g : TFunc} (hg : t.funcs[i]? = some g) : ∃ f, m.funcs[i]? = some f ∧ Q f g := by
 have := (List.getElem?_eq_some_iff.1 hg).1
 have hf : m.funcs[i]? = some (m.funcs[i]'(by rw [← h.len]; exact this)) := List.getElem?_eq_getElem _
 exact ⟨_, hf, h.at_ i _ g hf hg⟩
structure Mod (m : TModule) : Prop where
 nf : m.funcs.length ≤ 1000
 nt : m.threads.length ≤ 1000
 fit : ∀ f ∈ m.funcs, Fit m f
 good : ∀ f ∈ m.funcs, Good f
 thr : ∀ t ∈ m.threads, ThrOK m t
theorem Mod.par {m : TModule} (h : Mod m) : ∀ f ∈ m.funcs, 0 ≤ f.params ∧ f.params ≤ f.regs := fun f hf => ⟨(h.good f hf).2.1, (h.good f hf).2.2.1⟩
theorem Mod.of {m : TModule} (h : Whole m) (b : Bnd m) (hr : ∀ f ∈ m.funcs, f.regs ≤ 1000) (ha : ∀ f ∈ m.funcs, ∀ x ∈ f.code, x.args.length ≤ 1000) : Mod m :=
 ⟨b.funcs, b.threads, fun f hf => ⟨b.code f hf, hr f hf, fun x hx => ⟨ha f hf x hx, ((gd_iff (b.code f hf) x (b.args f hf x hx)).1 ((h.1 f hf).1.2.2.2 x hx)).1, (h.1 f hf).2 x hx⟩⟩, fun f hf => (h.1 f hf).1, h.2⟩
def Keep (f g : TFunc) : Prop := g.name = f.name ∧ g.params = f.params ∧ g.regs = f.regs
theorem calls_step {Q : TFunc → TFunc → Prop} {m t : TModule} (hQ : ∀ f g, Q f g → Keep f g) (h : Step1 Q m t) {x : TIns} (hc : Calls m x) : Calls t x := fun h14 => by
 obtain ⟨h0, g, h1, h2⟩ := hc h14
 obtain ⟨g', h3, h4⟩ := h.get h1
 exact ⟨h0, g', h3, by rw [(hQ _ _ h4).2.1]; exact h2⟩
theorem mod_step {Q : TFunc → TFunc → Prop} {m t : TModule} (hm : Mod m) (hQ : ∀ f g, Q f g → Keep f g) (h : Step1 Q m t)
  (hg : ∀ f g, f ∈ m.funcs → Q f g → Good g ∧ g.code.length ≤ 1000 ∧ ∀ y ∈ g.code, y.args.length ≤ 1000 ∧ Calls m y) : Mod t := by
 have back : ∀ g ∈ t.funcs, ∃ f ∈ m.funcs, Q f g := fun g hg => by
  obtain ⟨i, hi⟩ := List.mem_iff_getElem?.1 hg
  obtain ⟨f, hf, hq⟩ := h.back hi
  exact ⟨f, List.mem_of_getElem? hf, hq⟩
 refine ⟨by rw [h.len]; exact hm.nf, by rw [h.thr]; exact hm.nt, fun g hg' => ?_, fun g hg' => ?_, fun th hth => ?_⟩
 ·obtain ⟨f, hf, hq⟩ := back g hg'
  obtain ⟨h1, h2, h3⟩ := hg f g hf hq
  refine ⟨h2, by rw [(hQ f g hq).2.2]; exact (hm.fit f hf).2.1, fun y hy => ⟨(h3 y hy).1, ((gd_iff h2 y (by have := (h3 y hy).1; omega)).1 (h1.2.2.2 y hy)).1, calls_step hQ h (h3 y hy).2⟩⟩
 ·obtain ⟨f, hf, hq⟩ := back g hg'
  exact (hg f g hf hq).1
 ·rw [h.thr] at hth
  obtain ⟨h0, f, h1, h2⟩ := hm.thr th hth
  obtain ⟨g, h3, h4⟩ := h.get h1
  exact ⟨h0, g, h3, by rw [(hQ f g h4).2.1]; exact h2⟩
theorem row_good {f : TFunc} (o : Ttidy_Options) (hg : Good f) (hl : f.code.length ≤ 1000) (ha : ∀ x ∈ f.code, x.args.length ≤ 1000) (hi : ∀ x ∈ f.code, InsOK f x) : Good (rowF o f) := by
 obtain ⟨⟨l, h1, h2⟩, h3, h4, h5⟩ := hg
 refine ⟨?_, h3, h4, fun y hy => ?_⟩
 ·have hlen : (rowL o frs f.code).length = f.code.length := rowL_len o frs f.code
  show ∃ l, (rowL o frs f.code).getLast? = some l ∧ _
  rw [List.getLast?_eq_getElem?, hlen, row_get, ← List.getLast?_eq_getElem?, h1]
  refine ⟨_, rfl, ?_⟩
  have := (chg_s o (at0 (knows o frs (f.code.take (f.code.length - 1))) l) l).op
  show (chg o (at0 (knows o frs (f.code.take (f.code.length - 1))) l) l).op = 12 ∨ (chg o (at0 (knows o frs (f.code.take (f.code.length - 1))) l) l).op = 15 ∨ (chg o (at0 (knows o frs (f.code.take (f.code.length - 1))) l) l).op = 16
  omega
 ·have hy' : y ∈ rowL o frs f.code := hy
  obtain ⟨i, hi'⟩ := List.mem_iff_getElem?.1 hy'
  rw [row_get] at hi'
  cases hx : f.code[i]? with
  | none => rw [hx] at hi'; cases hi'
  | some x =>
   rw [hx] at hi'
   simp only [Option.map_some, Option.some.injEq] at hi'
   have hmem := List.mem_of_getElem? hx
   have hk := knows_ok o (KOK.frs f) (xs := f.code.take i) fun y hy => hi y (List.mem_of_mem_take hy)
   have hk0 : KOK f (at0 (knows o frs (f.code.take i)) x) := by unfold at0; split; exact .frs f; exact hk
   have hok := chg_ok (o := o) hk0 (hi x hmem)
   have hcs := chg_s o (at0 (knows o frs (f.code.take i)) x) x
   rw [hi'] at hok hcs
   have hax := ha x hmem
   have hcnt : ∀ l, cnt (rowF o f).code l = cnt f.code l := fun l => row_cnt o l frs f.code
   have hok2 : InsOK (rowF o f) y := ⟨hok.op, hok.fen, hok.d, hok.a, hok.b, hok.args, hok.bare, by have := hok.num; unfold NumOK at this ⊢; rw [hcnt]; exact this⟩
   rw [gd_iff (by show (rowL o frs f.code).length ≤ 1000; rw [rowL_len]; exact hl) y (by have := hcs.args; omega)]
   refine ⟨hok2, fun h11 => ?_⟩
   rw [hcnt]
   have hlx : lab y.imm x = true := by rw [← chg_lab o (at0 (knows o frs (f.code.take i)) x) x, hi']; exact lab_op.2 ⟨h11, rfl⟩
   have := ((gd_iff hl x (by omega)).1 (h5 x hmem)).2 (lab_op.1 hlx).1
   rw [(lab_op.1 hlx).2] at this
   exact this
theorem row_mod {m t : TModule} {o : Ttidy_Options} (hm : Mod m) (h : Step1 (fun f g => g = rowF o f) m t) : Mod t := by
 refine mod_step hm (fun f g e => by rw [e]; exact ⟨rfl, rfl, rfl⟩) h fun f g hf e => ?_
 subst e
 have hft := hm.fit f hf
 refine ⟨row_good o (hm.good f hf) hft.1 (fun x hx => (hft.2.2 x hx).1) (fun x hx => (hft.2.2 x hx).2.1), by show (rowL o frs f.code).length ≤ 1000; rw [rowL_len]; exact hft.1, fun y hy => ?_⟩
 obtain ⟨x, hx, k, rfl⟩ := rowL_mem o (show y ∈ rowL o frs f.code from hy)
 have hc := chg_s o k x
 have hxx := hft.2.2 x hx
 refine ⟨by have := hc.args; omega, fun h14 => ?_⟩
 have h14' : x.op = 14 := by have := hc.op; omega
 have hs : (chg o k x).imm = x.imm ∧ (chg o k x).args.length = x.args.length := by
  unfold chg
  simp only
  by_cases h1 : o.copy = true <;> by_cases h2 : o.fold = true <;> simp only [h1, h2, if_true, if_false, Bool.false_eq_true]
  ·rw [fold_11 (.inr (show 14 ≤ (ren k x).op by show 14 ≤ x.op; omega))]; exact ⟨rfl, by simp [ren]⟩
  ·exact ⟨rfl, by simp [ren]⟩
  ·rw [fold_11 (.inr (by omega))]; exact ⟨rfl, rfl⟩
  ·exact ⟨by trivial, by trivial⟩
 rw [hs.1, hs.2]
 exact hxx.2.2 h14'
theorem callP_row {me : Int} {m t : TModule} {o : Ttidy_Options} (hm : Mod m) (h : Step1 (fun f g => g = rowF o f) m t) :
  ∀ d n args fu c, 0 ≤ n → (∃ g, m.funcs[n.toNat]? = some g ∧ (args.length : Int) = g.params) → callP t me d n args fu c = callP m me d n args fu c := by
 intro d
 induction d with
 | zero => intro n args fu c _ _; rfl
 | succ d ih =>
  intro n args fu c hn ⟨f, hf, hp⟩
  obtain ⟨g, hg, e⟩ := h.get hf
  subst e
  have hmem := List.mem_of_getElem? hf
  have hpar := hm.par f hmem
  have e1 : m.funcs.getD n.toNat noF = f := by rw [List.getD_eq_getElem?_getD, hf]; rfl
  have e2 : t.funcs.getD n.toNat noF = rowF o f := by rw [List.getD_eq_getElem?_getD, hg]; rfl
  unfold callP
  simp only
  rw [e1, e2]
  have hft := hm.fit f hmem
  refine row_run o (fun x hx => (hft.2.2 x hx).2.1) (fun x hx h14 args' ha fu c => ?_) (fu + 1) 0 _ fu c (fun _ => .frs _) ?_
  ·obtain ⟨h0, g, h1, h2⟩ := (hft.2.2 x hx).2.2 h14
   exact ih x.imm args' fu c h0 ⟨g, h1, by rw [ha]; exact h2⟩
  ·show (((args ++ List.replicate (f.regs.toNat - args.length) 0).length : Nat) : Int) = max f.regs 0
   simp; omega
end
section
theorem nx_fall {f : TFunc} (h : f.code.length ≤ 1000) {k : Nat} {x : TIns} (hk : f.code[k]? = some x) (ho : x.op ≠ 12 ∧ x.op ≠ 15 ∧ x.op ≠ 16) (hl : k + 1 < f.code.length) : ((k + 1 : Nat) : Int) ∈ nx f k := by
 have hf : fst f k x = [((k + 1 : Nat) : Int)] := by
  unfold fst fall
  rw [if_pos (by simp [ho]; omega)]
 rcases (nx_spec h hk).2.2 with ⟨_, e⟩ | ⟨_, _, e⟩ | ⟨_, p, y, _, _, _, ⟨_, e⟩ | ⟨_, e⟩⟩ <;> rw [e, hf] <;> simp
theorem nx_jump {f : TFunc} (hg : Good f) (h : f.code.length ≤ 1000) {k p : Nat} {x y : TIns} (hk : f.code[k]? = some x) (hj : jmp x = true) (hp : f.code[p]? = some y) (hy : lab x.imm y = true) : (p : Int) ∈ nx f k := by
 rcases (nx_spec h hk).2.2 with ⟨e, _⟩ | ⟨_, e, _⟩ | ⟨_, p', y', h1, h2, _, h3⟩
 ·rw [hj] at e; cases e
 ·have := e y (List.mem_of_getElem? hp)
  rw [hy] at this; cases this
 ·obtain rfl := lab_one hg hp h1 hy h2
  rcases h3 with ⟨h3, e⟩ | ⟨_, e⟩
  ·rw [e]; exact h3
  ·rw [e]; simp
theorem sel_app (kp : Nat → Bool) : ∀ (i : Nat) (xs ys : List TIns), sel kp i (xs ++ ys) = sel kp i xs ++ sel kp (i + xs.length) ys
 | i, [], ys => by simp [sel]
 | i, x :: xs, ys => by
  have := sel_app kp (i + 1) xs ys
  rw [show i + 1 + xs.length = i + (x :: xs).length by simp; omega] at this
  simp only [List.cons_append, sel, this]
  split <;> simp
section
variable (f : TFunc) (kp : Nat → Bool)
def pos (k : Nat) : Nat := (sel kp 0 (f.code.take k)).length
variable {f kp}
theorem pos_succ {k : Nat} {x : TIns} (hk : f.code[k]? = some x) : pos f kp (k + 1) = if kp k = true then pos f kp k + 1 else pos f kp k := by
 have hl := (List.getElem?_eq_some_iff.1 hk).1
 unfold pos
 rw [List.take_add_one, hk, Option.toList_some, sel_snoc, show 0 + (f.code.take k).length = k by simp; omega]
 split <;> simp
theorem shut_pre {xs : List TIns} {i : Nat} (h : i < xs.length) : (shut xs)[i]? = xs[i]? := by
 unfold shut
 split
 ·exact List.getElem?_append_left h
 ·split
  ·exact List.getElem?_append_left h
  ·rfl
theorem sel_at {k : Nat} {x : TIns} (hk : f.code[k]? = some x) (hkp : kp k = true) : sel kp 0 f.code = sel kp 0 (f.code.take k) ++ x :: sel kp (k + 1) (f.code.drop (k + 1)) := by
 have hl := (List.getElem?_eq_some_iff.1 hk).1
 have h1 : f.code = f.code.take k ++ x :: f.code.drop (k + 1) := by
  rw [List.getElem?_eq_getElem hl] at hk
  rw [← Option.some.inj hk, ← List.drop_eq_getElem_cons hl, List.take_append_drop]
 have h2 := sel_app kp 0 (f.code.take k) (x :: f.code.drop (k + 1))
 rw [← h1, show 0 + (f.code.take k).length = k by simp; omega] at h2
 rw [h2]
 show _ ++ (if kp k = true then _ else _) = _
 rw [if_pos hkp]
theorem code_at {g : TFunc} (hg : g.code = shut (sel kp 0 f.code)) {k : Nat} {x : TIns} (hk : f.code[k]? = some x) (hkp : kp k = true) : g.code[pos f kp k]? = some x := by
 have h := sel_at hk hkp
 have hp : pos f kp k < (sel kp 0 f.code).length := by rw [h]; unfold pos; simp
 rw [hg, shut_pre hp, h]
 unfold pos
 simp
theorem find_at {g : TFunc} (hg : g.code = shut (sel kp 0 f.code)) {k : Nat} {x : TIns} {l : Int} (hk : f.code[k]? = some x) (hx : lab l x = true) (hkp : kp k = true) (hfst : ∀ z ∈ f.code.take k, lab l z = false) : findN g l = pos f kp k := by
 have h := sel_at hk hkp
 have hno : ∀ z ∈ sel kp 0 (f.code.take k), lab l z = false := fun z hz => hfst z ((sel_sub kp 0 _).subset hz)
 have hgp := code_at hg hk hkp
 have hlt := (List.getElem?_eq_some_iff.1 hgp).1
 unfold findN
 rw [List.findIdx_eq hlt]
 refine ⟨by rw [(List.getElem?_eq_some_iff.1 hgp).2]; exact hx, fun j hj => ?_⟩
 refine hno _ ?_
 have hj2 : j < (sel kp 0 f.code).length := by rw [h]; unfold pos at hj; simp; omega
 have : g.code[j]? = (sel kp 0 (f.code.take k))[j]? := by
  rw [hg, shut_pre hj2, h, List.getElem?_append_left hj]
 refine List.mem_of_getElem? (i := j) ?_
 rw [← this, List.getElem?_eq_getElem]
end
def WFc (c : Cx) : Prop := c.ended = true → c.over = true
structure Grow (c c' : Cx) : Prop where
 acts : c.acts <+: c'.acts
 wf : WFc c → WFc c'
theorem Grow.refl (c : Cx) : Grow c c := ⟨List.prefix_refl _, id⟩
theorem Grow.trans {a b c : Cx} (h : Grow a b) (h' : Grow b c) : Grow a c := ⟨h.acts.trans h'.acts, fun w => h'.wf (h.wf w)⟩
theorem grow_do {c c' : Cx} (ha : c'.acts = c.acts) (ho : c'.over = c.over) (he : c'.ended = c.ended) (k a v : Int) (x : TIns) : Grow c (doC c' k a v x) :=
 ⟨by unfold doC; rw [ha]; exact List.prefix_append _ _, fun w => by unfold WFc doC at *; rw [ho, he]; exact w⟩
theorem grow_trap {c c' : Cx} (ha : c'.acts = c.acts) (n : Int) : Grow c (trapC c' n) :=
 ⟨by unfold trapC doC; rw [ha]; exact List.prefix_append _ _, fun _ _ => rfl⟩
theorem grow_over {c c' : Cx} (ha : c'.acts = c.acts) (he : c'.over = true) : Grow c c' := ⟨by rw [ha]; exact List.prefix_refl _, fun _ _ => he⟩
theorem grow_enter (me : Int) (c : Cx) (a : Int) : Grow c (enterC me c a) := by
 unfold enterC
 cases c.reads with
 | nil => exact grow_over (by rfl) (by rfl)
 | cons x rs =>
  simp only
  split
  ·exact grow_over (by rfl) (by rfl)
  ·split
   ·exact grow_trap (by rfl) _
   ·exact grow_do (by rfl) (by rfl) (by rfl) _ _ _ _
theorem grow_leave (me : Int) (c : Cx) (a : Int) : Grow c (leaveC me c a) := by
 unfold leaveC
 exact grow_do (by rfl) (by rfl) (by rfl) _ _ _ _
theorem eff_two (me : Int) (x : TIns) (v w : List Int) (c : Cx) (hb : base x w = base x v) (hb2 : (3 ≤ x.op ∧ x.op ≤ 8) ∨ x.op = 10 → w.getD x.b.toNat 0 = v.getD x.b.toNat 0) :
  Grow c (eff me x v c).c ∧ (eff me x w c).c = (eff me x v c).c ∧ (eff me x w c).jump = (eff me x v c).jump ∧ (eff me x w c).ret = (eff me x v c).ret ∧
  (((eff me x v c).v = v ∧ (eff me x w c).v = w ∧ ((eff me x v c).c.over = true ∨ ¬ ((1 ≤ x.op ∧ x.op ≤ 9) ∨ x.op = 17))) ∨ ∃ z, (eff me x v c).v = v.set x.d.toNat z ∧ (eff me x w c).v = w.set x.d.toNat z ∧ ((1 ≤ x.op ∧ x.op ≤ 9) ∨ x.op = 17)) := by
 unfold eff
 rw [hb]
 by_cases h1 : x.op = 1
 ·rw [if_pos h1, if_pos h1]; exact ⟨.refl c, rfl, rfl, rfl, .inr ⟨_, rfl, rfl, by omega⟩⟩
 rw [if_neg h1, if_neg h1]
 by_cases h2 : x.op = 2
 ·rw [if_pos h2, if_pos h2]; exact ⟨.refl c, rfl, rfl, rfl, .inr ⟨_, rfl, rfl, by omega⟩⟩
 rw [if_neg h2, if_neg h2]
 by_cases h3 : 3 ≤ x.op ∧ x.op ≤ 8
 ·rw [if_pos h3, if_pos h3, hb2 (.inl h3)]; exact ⟨.refl c, rfl, rfl, rfl, .inr ⟨_, rfl, rfl, by omega⟩⟩
 rw [if_neg h3, if_neg h3]
 by_cases h9 : x.op = 9
 ·rw [if_pos h9, if_pos h9]
  cases hr : c.reads with
  | nil => exact ⟨grow_over (by rfl) (by rfl), rfl, rfl, rfl, .inl ⟨rfl, rfl, .inl rfl⟩⟩
  | cons r rs => exact ⟨grow_do (by rfl) (by rfl) (by rfl) _ _ _ _, rfl, rfl, rfl, .inr ⟨_, rfl, rfl, by omega⟩⟩
 rw [if_neg h9, if_neg h9]
 by_cases h10 : x.op = 10
 ·rw [if_pos h10, if_pos h10, hb2 (.inr h10)]; exact ⟨grow_do (by rfl) (by rfl) (by rfl) _ _ _ _, rfl, rfl, rfl, .inl ⟨rfl, rfl, .inr (by omega)⟩⟩
 rw [if_neg h10, if_neg h10]
 by_cases h12 : x.op = 12
 ·rw [if_pos h12, if_pos h12]; exact ⟨.refl c, rfl, rfl, rfl, .inl ⟨rfl, rfl, .inr (by omega)⟩⟩
 rw [if_neg h12, if_neg h12]
 by_cases h13 : x.op = 13
 ·rw [if_pos h13, if_pos h13]; exact ⟨.refl c, rfl, rfl, rfl, .inl ⟨rfl, rfl, .inr (by omega)⟩⟩
 rw [if_neg h13, if_neg h13]
 by_cases h15 : x.op = 15
 ·rw [if_pos h15, if_pos h15]; exact ⟨.refl c, rfl, rfl, rfl, .inl ⟨rfl, rfl, .inr (by omega)⟩⟩
 rw [if_neg h15, if_neg h15]
 by_cases h16 : x.op = 16
 ·rw [if_pos h16, if_pos h16]; exact ⟨grow_trap (by rfl) _, rfl, rfl, rfl, .inl ⟨rfl, rfl, .inr (by omega)⟩⟩
 rw [if_neg h16, if_neg h16]
 by_cases h17 : x.op = 17
 ·rw [if_pos h17, if_pos h17]
  split
  ·exact ⟨.refl c, rfl, rfl, rfl, .inr ⟨_, rfl, rfl, by omega⟩⟩
  ·exact ⟨⟨List.prefix_refl _, id⟩, rfl, rfl, rfl, .inr ⟨_, rfl, rfl, by omega⟩⟩
 rw [if_neg h17, if_neg h17]
 by_cases h18 : x.op = 18
 ·rw [if_pos h18, if_pos h18]; exact ⟨grow_enter _ _ _, rfl, rfl, rfl, .inl ⟨rfl, rfl, .inr (by omega)⟩⟩
 rw [if_neg h18, if_neg h18]
 by_cases h19 : x.op = 19
 ·rw [if_pos h19, if_pos h19]; exact ⟨grow_leave _ _ _, rfl, rfl, rfl, .inl ⟨rfl, rfl, .inr (by omega)⟩⟩
 rw [if_neg h19, if_neg h19]
 by_cases h20 : x.op = 20
 ·rw [if_pos h20, if_pos h20]; exact ⟨grow_do (by rfl) (by rfl) (by rfl) _ _ _ _, rfl, rfl, rfl, .inl ⟨rfl, rfl, .inr (by omega)⟩⟩
 rw [if_neg h20, if_neg h20]
 exact ⟨.refl c, rfl, rfl, rfl, .inl ⟨rfl, rfl, .inr (by omega)⟩⟩
theorem eff_jump {me : Int} {x : TIns} {v : List Int} {c : Cx} : ((eff me x v c).jump = true → jmp x = true) ∧ (x.op = 12 → (eff me x v c).jump = true) ∧ (x.op = 15 → (eff me x v c).ret ≠ none) ∧ (x.op = 16 → (eff me x v c).c.over = true) := by
 unfold eff jmp
 refine ⟨fun h => ?_, fun h => ?_, fun h => ?_, fun h => ?_⟩
 ·by_cases h12 : x.op = 12
  ·simp [h12]
  by_cases h13 : x.op = 13
  ·simp [h13]
  by_cases h17 : x.op = 17
  ·simp [h17]
  exfalso
  rw [if_neg h12, if_neg h13, if_neg h17] at h
  by_cases h1 : x.op = 1
  ·rw [if_pos h1] at h; cases h
  rw [if_neg h1] at h
  by_cases h2 : x.op = 2
  ·rw [if_pos h2] at h; cases h
  rw [if_neg h2] at h
  by_cases h3 : 3 ≤ x.op ∧ x.op ≤ 8
  ·rw [if_pos h3] at h; cases h
  rw [if_neg h3] at h
  by_cases h9 : x.op = 9
  ·rw [if_pos h9] at h
   cases hr : c.reads <;> rw [hr] at h <;> cases h
  rw [if_neg h9] at h
  by_cases h10 : x.op = 10
  ·rw [if_pos h10] at h; cases h
  rw [if_neg h10] at h
  by_cases h15 : x.op = 15
  ·rw [if_pos h15] at h; cases h
  rw [if_neg h15] at h
  by_cases h16 : x.op = 16
  ·rw [if_pos h16] at h; cases h
  rw [if_neg h16] at h
  by_cases h18 : x.op = 18
  ·rw [if_pos h18] at h; cases h
  rw [if_neg h18] at h
  by_cases h19 : x.op = 19
  ·rw [if_pos h19] at h; cases h
  rw [if_neg h19] at h
  by_cases h20 : x.op = 20
  ·rw [if_pos h20] at h; cases h
  rw [if_neg h20] at h
  cases h
 ·rw [if_neg (by omega), if_neg (by omega), if_neg (by omega), if_neg (by omega), if_neg (by omega), if_pos h]
 ·rw [if_neg (by omega), if_neg (by omega), if_neg (by omega), if_neg (by omega), if_neg (by omega), if_neg (by omega), if_neg (by omega), if_pos h]
  exact fun e => by cases e
 ·rw [if_neg (by omega), if_neg (by omega), if_neg (by omega), if_neg (by omega), if_neg (by omega), if_neg (by omega), if_neg (by omega), if_neg (by omega), if_pos h]
  rfl
def GrowCl (cl : Int → List Int → Nat → Cx → Res) : Prop := ∀ n args fu c, Grow c (cl n args fu c).2.2
theorem runB_grow {cl : Int → List Int → Nat → Cx → Res} {me : Int} {f : TFunc} (hc : GrowCl cl) : ∀ (s pc : Nat) (v : List Int) (fu : Nat) (c : Cx), Grow c (runB cl me f s pc v fu c).2.2 := by
 intro s
 induction s with
 | zero => intro pc v fu c; exact .refl c
 | succ s ih =>
  intro pc v fu c
  unfold runB
  split
  ·exact .refl c
  ·rename_i x hx
   split
   ·exact grow_over (by rfl) (by rfl)
   ·split
    ·exact .refl c
    ·split
     ·exact (hc _ _ _ _).trans (ih _ _ _ _)
     ·have h1 := (eff_two me x v v c rfl (fun _ => rfl)).1
      split
      ·exact h1
      ·exact h1.trans (ih _ _ _ _)
theorem callP_grow (m : TModule) (me : Int) : ∀ d, GrowCl (callP m me d)
 | 0 => fun n args fu c => grow_trap (by rfl) 5
 | d + 1 => fun n args fu c => runB_grow (callP_grow m me d) _ _ _ _ _
theorem runB_over {cl : Int → List Int → Nat → Cx → Res} {me : Int} {f : TFunc} (s pc : Nat) (v : List Int) (fu : Nat) (c : Cx) (h : c.over = true) : (runB cl me f s pc v fu c).2.2 = c ∧ (runB cl me f s pc v fu c).2.1 = fu := by
 cases s with
 | zero => exact ⟨rfl, rfl⟩
 | succ s =>
  unfold runB
  split
  ·exact ⟨rfl, rfl⟩
  ·split
   ·rename_i h0
    subst h0
    refine ⟨?_, rfl⟩
    show ({ c with over := true } : Cx) = c
    rw [← h]
   ·exact ⟨rfl, rfl⟩
end
section
def Rel (a b : Res) : Prop :=
 (a.2.2.over = true ∧ a.2.2.ended = false ∧ a.2.2.acts <+: b.2.2.acts) ∨ (a.2.2 = b.2.2 ∧ a.2.1 ≤ b.2.1 ∧ (a.2.2.over = false → a.1 = b.1))
def Ag (f : TFunc) (pc : Nat) (v w : List Int) : Prop := ∀ r : Int, 0 ≤ r → Nd f r pc → v.getD r.toNat 0 = w.getD r.toNat 0
section
variable {f g : TFunc} {kp : Nat → Bool} {cl cl' : Int → List Int → Nat → Cx → Res} {me : Int}
structure SwH (f g : TFunc) (kp : Nat → Bool) (cl cl' : Int → List Int → Nat → Cx → Res) : Prop where
 good : Good f
 len : f.code.length ≤ 1000
 ins : ∀ x ∈ f.code, InsOK f x
 code : g.code = shut (sel kp 0 f.code)
 lab : ∀ k x, f.code[k]? = some x → x.op = 11 → kp k = true
 idle : ∀ k x, f.code[k]? = some x → Rc f k → ¬ kp k = true → Idle f k x
 call : ∀ x ∈ f.code, x.op = 14 → ∀ args : List Int, args.length = x.args.length → ∀ fu fu' c, fu ≤ fu' → WFc c → c.over = false → Rel (cl x.imm args fu c) (cl' x.imm args fu' c)
 bd : Bdd cl
 bd' : Bdd cl'
 gr : GrowCl cl
 gr' : GrowCl cl'
theorem InsOK.dnone {f : TFunc} {x : TIns} (h : InsOK f x) (ho : ¬ ((1 ≤ x.op ∧ x.op ≤ 9) ∨ x.op = 17)) (h14 : x.op ≠ 14) : x.d = -1 := by
 have hd := h.d
 have hop := h.op
 have : (hs x.op).1 = false := by
  have : x.op = 10 ∨ x.op = 11 ∨ x.op = 12 ∨ x.op = 13 ∨ x.op = 15 ∨ x.op = 16 ∨ x.op = 18 ∨ x.op = 19 ∨ x.op = 20 ∨ x.op = 21 ∨ x.op = 22 := by omega
  rcases this with e | e | e | e | e | e | e | e | e | e | e <;> rw [e] <;> rfl
 unfold rg at hd
 rw [this, if_neg (by decide)] at hd
 simpa using hd
theorem last_op (hg : Good f) {k : Nat} {x : TIns} (hk : f.code[k]? = some x) (ho : x.op ≠ 12 ∧ x.op ≠ 15 ∧ x.op ≠ 16) : k + 1 < f.code.length := by
 obtain ⟨⟨l, h1, h2⟩, _⟩ := hg
 have hl := (List.getElem?_eq_some_iff.1 hk).1
 rw [List.getLast?_eq_getElem?] at h1
 by_cases e : k + 1 = f.code.length
 ·rw [show f.code.length - 1 = k by omega, hk] at h1
  cases h1
  omega
 ·omega
theorem Nd.back {f : TFunc} {r : Int} {k j : Nat} {x : TIns} (hk : f.code[k]? = some x) (hj : (j : Int) ∈ nx f k) (h : Nd f r j) : Nd f r k ∨ x.d = r := by
 by_cases e : x.d = r
 ·exact .inr e
 ·exact .inl (.go k x j hk e hj h)
theorem find_lab (H : SwH f g kp cl cl') {k : Nat} {x : TIns} (hk : f.code[k]? = some x) (hj : jmp x = true) :
  ∃ y, f.code[findN f x.imm]? = some y ∧ lab x.imm y = true ∧ y.op = 11 ∧ y.d = -1 ∧ (findN f x.imm : Int) ∈ nx f k ∧ findN f x.imm + 1 < f.code.length ∧ ((findN f x.imm + 1 : Nat) : Int) ∈ nx f (findN f x.imm) ∧ findN g x.imm = pos f kp (findN f x.imm) ∧ pos f kp (findN f x.imm + 1) = pos f kp (findN f x.imm) + 1 ∧ kp (findN f x.imm) = true := by
 have hx := H.ins x (List.mem_of_getElem? hk)
 have hcnt : 0 < cnt f.code x.imm := by
  have hop : x.op = 12 ∨ x.op = 13 ∨ x.op = 17 := by
   unfold jmp at hj
   simp only [Bool.or_eq_true, decide_eq_true_iff] at hj
   omega
  rcases hx.num with h1 | h1 | h1 | ⟨_, h1⟩
  ·omega
  ·omega
  ·omega
  ·have : (hs x.op).2.2.2 = true := by rcases hop with e | e | e <;> rw [e] <;> rfl
   rw [if_pos this] at h1
   exact h1
 have hlt : findN f x.imm < f.code.length := by
  unfold cnt at hcnt
  rw [List.countP_pos_iff] at hcnt
  obtain ⟨z, hz, hz2⟩ := hcnt
  exact List.findIdx_lt_length_of_exists ⟨z, hz, hz2⟩
 have hy := List.getElem?_eq_getElem hlt
 have hlab : lab x.imm f.code[findN f x.imm] = true := List.findIdx_getElem (w := hlt)
 have h11 := (lab_op.1 hlab).1
 have hkp : kp (findN f x.imm) = true := H.lab _ _ hy h11
 have hl2 := last_op H.good hy (by omega)
 refine ⟨_, hy, hlab, h11, (ins_lit (H.ins _ (List.getElem_mem hlt))).1 h11, nx_jump H.good H.len hk hj hy hlab, hl2, nx_fall H.len hy (by omega) hl2, find_at H.code hy hlab hkp fun z hz => ?_, by rw [pos_succ hy, if_pos hkp], hkp⟩
 obtain ⟨i, hi, rfl⟩ := List.mem_iff_getElem.1 hz
 simp at hi
 rw [List.getElem_take]
 exact Bool.eq_false_iff.2 fun e => by
  have := List.not_of_lt_findIdx (p := lab x.imm) (xs := f.code) (i := i) (by show i < findN f x.imm; omega)
  simp [e] at this
theorem sweep_run (H : SwH f g kp cl cl') : ∀ (s s' pc : Nat) (v w : List Int) (fu fu' : Nat) (c : Cx), fu < s → fu' < s' → fu ≤ fu' → WFc c → (v.length : Int) = max f.regs 0 → (w.length : Int) = max f.regs 0 →
  (c.over = false → pc < f.code.length ∧ Rc f pc ∧ Ag f pc v w) → Rel (runB cl me f s pc v fu c) (runB cl' me g s' (pos f kp pc) w fu' c) := by
 intro s
 induction s with
 | zero => intro s' pc v w fu fu' c h; omega
 | succ s ih =>
  intro s' pc v w fu fu' c hs hs' hff hwf hv hw hst
  by_cases hov : c.over = true
  ·have h1 := runB_over (cl := cl) (me := me) (f := f) (s + 1) pc v fu c hov
   have h2 := runB_over (cl := cl') (me := me) (f := g) s' (pos f kp pc) w fu' c hov
   exact .inr ⟨by rw [h1.1, h2.1], by rw [h1.2, h2.2]; exact hff, fun e => by rw [h1.1, hov] at e; cases e⟩
  have ho : c.over = false := by simpa using hov
  obtain ⟨hpl, hrc, hag⟩ := hst ho
  have hx : f.code[pc]? = some f.code[pc] := List.getElem?_eq_getElem hpl
  generalize f.code[pc] = x at hx
  have hmem := List.mem_of_getElem? hx
  have hxo := H.ins x hmem
  have hg' := runB_grow (me := me) (f := g) H.gr' s' (pos f kp pc) w fu' c
  rw [show runB cl me f (s + 1) pc v fu c = (if fu = 0 then (0, 0, { c with over := true }) else if x.op = 14 then runB cl me f s (pc + 1) (if 0 ≤ x.d then v.set x.d.toNat (cl x.imm (x.args.map fun a => v.getD a.toNat 0) (fu - 1) c).1 else v) (cl x.imm (x.args.map fun a => v.getD a.toNat 0) (fu - 1) c).2.1 (cl x.imm (x.args.map fun a => v.getD a.toNat 0) (fu - 1) c).2.2 else
   match (eff me x v c).ret with
    | some r => (r, fu - 1, (eff me x v c).c)
    | none => runB cl me f s ((if (eff me x v c).jump = true then findN f x.imm else pc) + 1) (eff me x v c).v (fu - 1) (eff me x v c).c) from by
   show (match f.code[pc]? with | none => _ | some x => _) = _
   rw [hx]
   simp only [ho, Bool.false_eq_true, if_false]
   try rfl]
  by_cases h0 : fu = 0
  ·rw [if_pos h0]
   refine .inl ⟨rfl, ?_, hg'.acts⟩
   show c.ended = false
   cases he : c.ended with
   | false => rfl
   | true => rw [hwf he] at ho; cases ho
  rw [if_neg h0]
  -- what is read is alike
  have use : ∀ r : Int, us x r → 0 ≤ r → v.getD r.toNat 0 = w.getD r.toNat 0 := fun r hu h => hag r h (.use pc x hx hu)
  have hbase : base x w = base x v := by
   unfold base
   by_cases h : 0 ≤ x.a
   ·rw [if_pos h, if_pos h, use x.a (.inl rfl) h]
   ·rw [if_neg h, if_neg h]
  have hb2 : (3 ≤ x.op ∧ x.op ≤ 8) ∨ x.op = 10 → w.getD x.b.toNat 0 = v.getD x.b.toNat 0 := fun h => (use x.b (.inr (.inl rfl)) (hxo.breg h).1).symm
  obtain ⟨e1, e2, e3, e4, e5⟩ := eff_two me x v w c hbase hb2
  -- one step behind, with what is written alike
  have agset : ∀ {j : Nat} {z : Int}, (j : Int) ∈ nx f pc → Ag f j (v.set x.d.toNat z) (w.set x.d.toNat z) := fun {j z} hj r hr hn => by
   by_cases e : x.d.toNat = r.toNat
   ·rw [e]
    by_cases hl : r.toNat < v.length
    ·rw [getD_set_eq hl, getD_set_eq (by omega)]
    ·rw [List.getD_eq_getElem?_getD, List.getD_eq_getElem?_getD, List.getElem?_eq_none (by simp; omega), List.getElem?_eq_none (by simp; omega)]
   ·rw [getD_set_ne e, getD_set_ne e]
    rcases hn.back hx hj with h | h
    ·exact hag r hr h
    ·exact absurd (by rw [h]) e
  have agsame : ∀ {j : Nat}, (j : Int) ∈ nx f pc → (∀ r, 0 ≤ r → x.d ≠ r) → Ag f j v w := fun {j} hj hd r hr hn => by
   rcases hn.back hx hj with h | h
   ·exact hag r hr h
   ·exact (hd r hr h).elim
  have agdead : ∀ {j : Nat} {z : Int}, (j : Int) ∈ nx f pc → (Nd f x.d j → v.getD x.d.toNat 0 = z ∧ w.getD x.d.toNat 0 = z) → 0 ≤ x.d → Ag f j (v.set x.d.toNat z) w := fun {j z} hj hz hd r hr hn => by
   by_cases e : x.d = r
   ·subst e
    have := hz hn
    by_cases hl : x.d.toNat < v.length
    ·rw [getD_set_eq hl, this.2]
    ·rw [List.getD_eq_getElem?_getD, List.getElem?_eq_none (by simp; omega), this.2]
     rw [List.getD_eq_getElem?_getD, List.getElem?_eq_none (by omega)] at this
     exact this.1
   ·rw [getD_set_ne (by omega)]
    rcases hn.back hx hj with h | h
    ·exact hag r hr h
    ·exact (e h).elim
  -- from the place behind a label that is jumped to
  have agjump : ∀ {v' w' : List Int}, jmp x = true → Ag f (findN f x.imm) v' w' → (findN f x.imm + 1 < f.code.length ∧ Rc f (findN f x.imm + 1) ∧ Ag f (findN f x.imm + 1) v' w') := fun {v' w'} hj ha => by
   obtain ⟨y, h1, h2, h3, h4, h5, h6, h7, _⟩ := find_lab H hx hj
   refine ⟨h6, .go _ _ (by omega) h7 (.go _ _ hpl h5 hrc), fun r hr hn => ?_⟩
   rcases hn.back h1 h7 with h | h
   ·exact ha r hr h
   ·omega
  have hdlen : ∀ z, ((v.set x.d.toNat z).length : Int) = max f.regs 0 := fun z => by rw [List.length_set]; exact hv
  have hdlen' : ∀ z, ((w.set x.d.toNat z).length : Int) = max f.regs 0 := fun z => by rw [List.length_set]; exact hw
  by_cases hk : kp pc = true
  ·-- both go
   have hcode := code_at H.code hx hk
   have hpos : pos f kp (pc + 1) = pos f kp pc + 1 := by rw [pos_succ hx, if_pos hk]
   obtain ⟨s1, rfl⟩ : ∃ s1, s' = s1 + 1 := ⟨s' - 1, by omega⟩
   rw [show runB cl' me g (s1 + 1) (pos f kp pc) w fu' c = (if x.op = 14 then runB cl' me g s1 (pos f kp pc + 1) (if 0 ≤ x.d then w.set x.d.toNat (cl' x.imm (x.args.map fun a => w.getD a.toNat 0) (fu' - 1) c).1 else w) (cl' x.imm (x.args.map fun a => w.getD a.toNat 0) (fu' - 1) c).2.1 (cl' x.imm (x.args.map fun a => w.getD a.toNat 0) (fu' - 1) c).2.2 else
    match (eff me x w c).ret with
     | some r => (r, fu' - 1, (eff me x w c).c)
     | none => runB cl' me g s1 ((if (eff me x w c).jump = true then findN g x.imm else pos f kp pc) + 1) (eff me x w c).v (fu' - 1) (eff me x w c).c) from by
    show (match g.code[pos f kp pc]? with | none => _ | some x => _) = _
    rw [hcode]
    simp only [ho, Bool.false_eq_true, if_false, if_neg (show ¬ fu' = 0 by omega)]
    try rfl]
   by_cases h14 : x.op = 14
   ·rw [if_pos h14, if_pos h14]
    have hargs : (x.args.map fun a => w.getD a.toNat 0) = (x.args.map fun a => v.getD a.toNat 0) := List.map_congr_left fun a ha => (use a (.inr (.inr ha)) (hxo.args a ha).2.1).symm
    rw [hargs]
    have hrel := H.call x hmem h14 (x.args.map fun a => v.getD a.toNat 0) (by simp) (fu - 1) (fu' - 1) c (by omega) hwf ho
    have hb1 := H.bd x.imm (x.args.map fun a => v.getD a.toNat 0) (fu - 1) c
    have hb1' := H.bd' x.imm (x.args.map fun a => v.getD a.toNat 0) (fu' - 1) c
    have hgr := H.gr x.imm (x.args.map fun a => v.getD a.toNat 0) (fu - 1) c
    generalize cl x.imm (x.args.map fun a => v.getD a.toNat 0) (fu - 1) c = r at hrel hb1 hgr
    generalize cl' x.imm (x.args.map fun a => v.getD a.toNat 0) (fu' - 1) c = r' at hrel hb1'
    rcases hrel with ⟨a1, a2, a3⟩ | ⟨a1, a2, a3⟩
    ·have h1 := runB_over (cl := cl) (me := me) (f := f) s (pc + 1) (if 0 ≤ x.d then v.set x.d.toNat r.1 else v) r.2.1 r.2.2 a1
     have h2 := runB_grow (me := me) (f := g) H.gr' s1 (pos f kp pc + 1) (if 0 ≤ x.d then w.set x.d.toNat r'.1 else w) r'.2.1 r'.2.2
     exact .inl ⟨by rw [h1.1]; exact a1, by rw [h1.1]; exact a2, by rw [h1.1]; exact a3.trans h2.acts⟩
    ·rw [← a1, ← hpos]
     have hl2 := last_op H.good hx (by omega)
     have hn := nx_fall H.len hx (by omega) hl2
     refine ih _ _ _ _ _ _ _ (by omega) (by omega) a2 (hgr.wf hwf) (by split; exact hdlen _; exact hv) (by split; exact hdlen' _; exact hw) fun hno => ⟨hl2, .go _ _ hpl hn hrc, ?_⟩
     rw [← a3 hno]
     by_cases hd : 0 ≤ x.d
     ·rw [if_pos hd, if_pos hd]; exact agset hn
     ·rw [if_neg hd, if_neg hd]; exact agsame hn fun r hr => by omega
   ·rw [if_neg h14, if_neg h14, e4]
    cases hret : (eff me x v c).ret with
    | some r => exact .inr ⟨by simp only [e2], by simp only; omega, fun _ => rfl⟩
    | none =>
     simp only
     rw [e2, e3]
     have hel := (eff_len me x v c).2
     have hel' := (eff_len me x w c).2
     have hj1 := eff_jump (me := me) (x := x) (v := v) (c := c)
     have agany : ∀ {j : Nat}, (eff me x v c).c.over = false → (j : Int) ∈ nx f pc → Ag f j (eff me x v c).v (eff me x w c).v := fun {j} hno hj => by
      rcases e5 with ⟨q1, q2, q3⟩ | ⟨z, q1, q2, _⟩
      ·rw [q1, q2]
       have hd := hxo.dnone (fun e => by rcases q3 with q3 | q3; rw [q3] at hno; cases hno; exact q3 e) h14
       exact agsame hj fun r hr => by omega
      ·rw [q1, q2]; exact agset hj
     by_cases hj : (eff me x v c).jump = true
     ·rw [if_pos hj, if_pos hj]
      obtain ⟨y, g1, g2, g3, g4, g5, g6, g7, g8, g9, g10⟩ := find_lab H hx (hj1.1 hj)
      rw [g8, ← g9]
      refine ih _ _ _ _ _ _ _ (by omega) (by omega) (by omega) (e1.wf hwf) (by rw [hel]; exact hv) (by rw [hel']; exact hw) fun hno => agjump (hj1.1 hj) (agany hno g5)
     ·rw [if_neg hj, if_neg hj, ← hpos]
      refine ih _ _ _ _ _ _ _ (by omega) (by omega) (by omega) (e1.wf hwf) (by rw [hel]; exact hv) (by rw [hel']; exact hw) fun hno => ?_
      have hops : x.op ≠ 12 ∧ x.op ≠ 15 ∧ x.op ≠ 16 := ⟨fun e => hj (hj1.2.1 e), fun e => hj1.2.2.1 e hret, fun e => by rw [hj1.2.2.2 e] at hno; cases hno⟩
      have hl2 := last_op H.good hx hops
      have hn := nx_fall H.len hx hops hl2
      exact ⟨hl2, .go _ _ hpl hn hrc, agany hno hn⟩
  ·-- it is left out
   have hid : Idle f pc x := H.idle pc x hx hrc hk
   have h11 : x.op ≠ 11 := fun e => hk (H.lab pc x hx e)
   have hpos : pos f kp (pc + 1) = pos f kp pc := by rw [pos_succ hx, if_neg hk]
   have stay : ∀ {z : Int}, (1 ≤ x.op ∧ x.op ≤ 8) → (eff me x v c).v = v.set x.d.toNat z → (eff me x v c).c = c → (eff me x v c).jump = false → (eff me x v c).ret = none → (∀ j : Nat, (j : Int) ∈ nx f pc → Ag f j (v.set x.d.toNat z) w) →
     Rel (if x.op = 14 then runB cl me f s (pc + 1) (if 0 ≤ x.d then v.set x.d.toNat (cl x.imm (x.args.map fun a => v.getD a.toNat 0) (fu - 1) c).1 else v) (cl x.imm (x.args.map fun a => v.getD a.toNat 0) (fu - 1) c).2.1 (cl x.imm (x.args.map fun a => v.getD a.toNat 0) (fu - 1) c).2.2 else
      match (eff me x v c).ret with
       | some r => (r, fu - 1, (eff me x v c).c)
       | none => runB cl me f s ((if (eff me x v c).jump = true then findN f x.imm else pc) + 1) (eff me x v c).v (fu - 1) (eff me x v c).c) (runB cl' me g s' (pos f kp pc) w fu' c) := fun {z} hop q1 q2 q3 q4 q5 => by
    have hl2 := last_op H.good hx (by omega)
    have hn := nx_fall H.len hx (by omega) hl2
    rw [if_neg (by omega), q4]
    simp only
    rw [q3, if_neg (by decide), q1, q2, ← hpos]
    exact ih _ _ _ _ _ _ _ (by omega) hs' (by omega) hwf (hdlen z) hw fun _ => ⟨hl2, .go _ _ hpl hn hrc, q5 _ hn⟩
   have eff_pure : (1 ≤ x.op ∧ x.op ≤ 8) → ∃ z, (eff me x v c) = ⟨v.set x.d.toNat z, false, c, none⟩ ∧ (x.op = 2 → z = base x v) := fun hop => by
    unfold eff
    by_cases h1 : x.op = 1
    ·rw [if_pos h1]; exact ⟨_, rfl, fun e => by omega⟩
    rw [if_neg h1]
    by_cases h2 : x.op = 2
    ·rw [if_pos h2]; exact ⟨_, rfl, fun e => rfl⟩
    rw [if_neg h2, if_pos (by omega)]
    exact ⟨_, rfl, fun e => by omega⟩
   rcases hid with ⟨i1, i2⟩ | ⟨i1, y, i2, i3, i4⟩ | ⟨i1, i2⟩
   ·obtain ⟨z, q, hz⟩ := eff_pure (by omega)
    have hd := (hxo.dreg (by omega)).1
    have hzz : z = v.getD x.d.toNat 0 := by rw [hz i1]; unfold base; rw [if_pos (by omega), i2]
    refine stay (z := z) (by omega) (by rw [q]) (by rw [q]) (by rw [q]) (by rw [q]) fun j hj => agdead hj (fun _ => ⟨hzz.symm, ?_⟩) hd
    rw [hzz]
    exact (use x.d (.inl i2.symm) hd).symm
   ·-- a jump to the label behind it
    clear e5 eff_pure stay
    have hjm : jmp x = true := by unfold jmp; simp [i1]
    obtain ⟨y', g1, g2, g3, g4, g5, g6, g7, g8, g9, g10⟩ := find_lab H hx hjm
    have hfn : findN f x.imm = pc + 1 := lab_one H.good g1 i2 g2 (lab_op.2 ⟨i3, i4⟩)
    have hje := eff_jump (me := me) (x := x) (v := v) (c := c)
    have hev : eff me x v c = ⟨v, true, c, none⟩ := by
     unfold eff
     rw [if_neg (by omega), if_neg (by omega), if_neg (by omega), if_neg (by omega), if_neg (by omega), if_pos i1]
    rw [if_neg (by omega), hev]
    simp only [if_true]
    -- the other does the label
    rw [hfn] at g1 g9 g10
    rw [i2] at g1
    cases g1
    have hcode := code_at H.code i2 g10
    rw [hpos] at hcode
    have hy14 : ¬ y.op = 14 := by omega
    have hfu0 : ¬ fu' = 0 := by omega
    obtain ⟨s1, rfl⟩ : ∃ s1, s' = s1 + 1 := ⟨s' - 1, by omega⟩
    have hey : eff me y w c = ⟨w, false, c, none⟩ := by
     unfold eff
     rw [if_neg (by omega), if_neg (by omega), if_neg (by omega), if_neg (by omega), if_neg (by omega), if_neg (by omega), if_neg (by omega), if_neg (by omega), if_neg (by omega), if_neg (by omega), if_neg (by omega), if_neg (by omega), if_neg (by omega)]
    rw [show runB cl' me g (s1 + 1) (pos f kp pc) w fu' c = runB cl' me g s1 (pos f kp pc + 1) w (fu' - 1) c from by
     show (match g.code[pos f kp pc]? with | none => _ | some x => _) = _
     rw [hcode]
     simp only [ho, Bool.false_eq_true, if_false, if_neg hfu0, if_neg hy14, hey]]
    rw [show pos f kp pc + 1 = pos f kp (findN f x.imm + 1) by rw [hfn, g9, hpos]]
    refine ih _ _ _ _ _ _ _ (by omega) (by omega) (by omega) hwf hv hw fun _ => agjump hjm (agsame g5 fun r hr => ?_)
    have := hxo.dnone (by omega) (by omega)
    omega
   ·obtain ⟨z, q, hz⟩ := eff_pure i1
    have hd := (hxo.dreg (by omega)).1
    refine stay (z := z) i1 (by rw [q]) (by rw [q]) (by rw [q]) (by rw [q]) fun j hj => agdead hj (fun hn => (i2 _ hj ?_).elim) hd
    simpa using hn
end
end
section
theorem sel_cnt (p : TIns → Bool) (kp : Nat → Bool) : ∀ (i : Nat) (xs : List TIns), (∀ k x, xs[k]? = some x → p x = true → kp (i + k) = true) → (sel kp i xs).countP p = xs.countP p
 | _, [], _ => rfl
 | i, x :: xs, h => by
  have ih := sel_cnt p kp (i + 1) xs fun k y hk hp => by
   have := h (k + 1) y (by simpa using hk) hp
   rwa [show i + 1 + k = i + (k + 1) by omega]
  unfold sel
  split
  ·rw [List.countP_cons, List.countP_cons, ih]
  ·rename_i hk
   have : p x = false := by
    cases hp : p x with
    | false => rfl
    | true => exact absurd (h 0 x rfl hp) hk
   rw [List.countP_cons, ih, this]
   simp
theorem sel_ne {f : TFunc} {kp : Nat → Bool} {j : Nat} : ∀ {i : Nat}, i ≤ j → j < f.code.length → kp j = true → sel kp i (f.code.drop i) ≠ [] := by
 intro i
 generalize hd : j - i = d
 induction d generalizing i with
 | zero =>
  intro h1 h2 h3
  have : i = j := by omega
  subst this
  rw [List.drop_eq_getElem_cons h2]
  unfold sel
  rw [if_pos h3]
  simp
 | succ d ih =>
  intro h1 h2 h3
  rw [List.drop_eq_getElem_cons (show i < f.code.length by omega)]
  unfold sel
  split
  ·simp
  ·exact ih (by omega) (by omega) h2 h3
section
variable {f g : TFunc} {kp : Nat → Bool}
theorem kept_ahead (hg : Good f) (hl : f.code.length ≤ 1000) (hk : ∀ k x, f.code[k]? = some x → (kp k = true ↔ Kept f k x)) : ∀ (d j : Nat), f.code.length - j = d → j < f.code.length → Rc f j → ∃ j', j ≤ j' ∧ j' < f.code.length ∧ kp j' = true := by
 intro d
 induction d with
 | zero => intro j h1 h2; omega
 | succ d ih =>
  intro j h1 h2 hr
  by_cases h : kp j = true
  ·exact ⟨j, Nat.le_refl _, h2, h⟩
  ·have hx := List.getElem?_eq_getElem h2
   have hn : ¬ Kept f j f.code[j] := fun e => h ((hk j _ hx).2 e)
   have hid : Idle f j f.code[j] := Classical.not_not.1 fun e => hn (.inr ⟨hr, e⟩)
   have go : (f.code[j].op ≠ 12 ∧ f.code[j].op ≠ 15 ∧ f.code[j].op ≠ 16) → ∃ j', j ≤ j' ∧ j' < f.code.length ∧ kp j' = true := fun ho => by
    have hl2 := last_op hg hx ho
    obtain ⟨j', q1, q2, q3⟩ := ih (j + 1) (by omega) hl2 (.go _ _ h2 (nx_fall hl hx ho hl2) hr)
    exact ⟨j', by omega, q2, q3⟩
   rcases hid with i | ⟨i1, y, i2, i3, _⟩ | i
   ·exact go (by have := i.1; omega)
   ·exact ⟨j + 1, by omega, (List.getElem?_eq_some_iff.1 i2).1, (hk _ _ i2).2 (.inl i3)⟩
   ·exact go (by have := i.1; omega)
theorem sel_last (hg : Good f) (hl : f.code.length ≤ 1000) (hk : ∀ k x, f.code[k]? = some x → (kp k = true ↔ Kept f k x)) : ∀ (d j : Nat), f.code.length - j = d → ∀ l, (sel kp j (f.code.drop j)).getLast? = some l → l.op = 11 ∨ l.op = 12 ∨ l.op = 15 ∨ l.op = 16 := by
 intro d
 induction d with
 | zero =>
  intro j h1 l h
  rw [List.drop_of_length_le (by omega)] at h
  cases h
 | succ d ih =>
  intro j h1 l h
  have h2 : j < f.code.length := by omega
  have hx := List.getElem?_eq_getElem h2
  rw [List.drop_eq_getElem_cons h2] at h
  unfold sel at h
  have ih' := ih (j + 1) (by omega)
  split at h
  ·rename_i hkj
   cases hs : sel kp (j + 1) (f.code.drop (j + 1)) with
   | nil =>
    rw [hs] at h
    simp at h
    subst h
    refine Classical.not_not.1 fun hno => ?_
    have ho : f.code[j].op ≠ 12 ∧ f.code[j].op ≠ 15 ∧ f.code[j].op ≠ 16 := ⟨fun e => hno (.inr (.inl e)), fun e => hno (.inr (.inr (.inl e))), fun e => hno (.inr (.inr (.inr e)))⟩
    have hr : Rc f j := by
     rcases (hk j _ hx).1 hkj with e | e
     ·exact (hno (.inl e)).elim
     ·exact e.1
    have hl2 := last_op hg hx ho
    obtain ⟨j', q1, q2, q3⟩ := kept_ahead hg hl hk _ (j + 1) rfl hl2 (.go _ _ h2 (nx_fall hl hx ho hl2) hr)
    exact sel_ne q1 q2 q3 hs
   | cons a b =>
    refine ih' l ?_
    rw [hs] at h ⊢
    simpa [List.getLast?_cons_cons] using h
  ·exact ih' l h
theorem ret_ok : InsOK g retI :=
 ⟨by simp [retI], fun e => (by simp [retI] at e), by
  show rg (hs 15).1 _ (-1) g.regs = true
  rfl, by
  show rg (aOf retI) _ (-1) g.regs = true
  have : aOf retI = true := rfl
  rw [this]
  unfold rg
  simp [retI], by
  show rg (hs 15).2.2.1 false (-1) g.regs = true
  rfl, fun y hy => (by cases hy), fun _ _ => ⟨rfl, rfl, rfl⟩, .inr (.inr (.inr ⟨by simp [retI], by
   show if (hs 15).2.2.2 = true then 0 < cnt g.code 0 else (0 : Int) = 0
   rw [if_neg (show ¬ (hs 15).2.2.2 = true by decide +kernel)]⟩))⟩
theorem cnt_shut (xs : List TIns) (l : Int) : cnt (shut xs) l = cnt xs l := by
 have hr : ∀ ys : List TIns, cnt (ys ++ [retI]) l = cnt ys l := fun ys => by unfold cnt; rw [List.countP_append]; simp [retI]
 unfold shut
 split
 ·exact hr _
 ·split
  ·exact hr _
  ·rfl
theorem swp_good (hg : Good f) (hl : f.code.length ≤ 1000) (ha : ∀ x ∈ f.code, x.args.length ≤ 1000) (h : Swp f g) (hl2 : g.code.length ≤ 1000) : Good g := by
 obtain ⟨kp, rfl, hk⟩ := h
 have hcnt : ∀ l, cnt (shut (sel kp 0 f.code)) l = cnt f.code l := fun l => by
  rw [cnt_shut]
  refine sel_cnt _ kp 0 f.code fun k x hx hp => ?_
  rw [Nat.zero_add]
  exact (hk k x hx).2 (.inl (lab_op.1 hp).1)
 refine ⟨?_, hg.2.1, hg.2.2.1, fun y hy => ?_⟩
 ·show ∃ l, (shut (sel kp 0 f.code)).getLast? = some l ∧ _
  unfold shut
  cases hL : (sel kp 0 f.code).getLast? with
  | none => exact ⟨retI, by simp, .inr (.inl rfl)⟩
  | some l =>
   simp only
   by_cases h11 : l.op = 11
   ·rw [if_pos h11]; exact ⟨retI, by simp, .inr (.inl rfl)⟩
   ·rw [if_neg h11]
    refine ⟨l, hL, ?_⟩
    rcases sel_last hg hl hk _ 0 rfl l (by simpa using hL) with e | e
    ·exact (h11 e).elim
    ·exact e
 ·rcases shut_mem hy with hy | rfl
  ·have hyf := (sel_sub kp 0 f.code).subset hy
   have hay := ha y hyf
   have := (gd_iff hl y (by omega)).1 (hg.2.2.2 y hyf)
   refine (gd_iff hl2 y (by omega)).2 ⟨⟨this.1.op, this.1.fen, this.1.d, this.1.a, this.1.b, this.1.args, this.1.bare, ?_⟩, fun h11 => ?_⟩
   ·have hn := this.1.num
    unfold NumOK at hn ⊢
    rw [show cnt (⟨f.name, f.params, f.regs, shut (sel kp 0 f.code)⟩ : TFunc).code y.imm = cnt f.code y.imm from hcnt _]
    exact hn
   ·exact (hcnt _).trans (this.2 h11)
  ·exact (gd_iff hl2 retI (by simp [retI])).2 ⟨ret_ok, fun e => (by simp [retI] at e)⟩
end
theorem swp_keep {f g : TFunc} (h : f = g ∨ Swp f g) : Keep f g := by
 rcases h with rfl | ⟨kp, rfl, _⟩
 ·exact ⟨rfl, rfl, rfl⟩
 ·exact ⟨rfl, rfl, rfl⟩
def One1 (f g : TFunc) : Prop := (f = g ∨ Swp f g) ∧ Fine g
theorem one_mod {m t : TModule} (hm : Mod m) (h : Step1 One1 m t) : Mod t := by
 refine mod_step hm (fun f g e => swp_keep e.1) h fun f g hf e => ?_
 have hft := hm.fit f hf
 have hgd := hm.good f hf
 rcases e with ⟨rfl | hs, hfine⟩
 ·exact ⟨hgd, hft.1, fun y hy => ⟨(hft.2.2 y hy).1, (hft.2.2 y hy).2.2⟩⟩
 ·refine ⟨swp_good hgd hft.1 (fun x hx => (hft.2.2 x hx).1) hs hfine.len, hfine.len, fun y hy => ⟨hfine.args y hy, ?_⟩⟩
  obtain ⟨kp, rfl, _⟩ := hs
  rcases shut_mem hy with hy | rfl
  ·exact (hft.2.2 y ((sel_sub kp 0 f.code).subset hy)).2.2
  ·intro e; simp [retI] at e
theorem sel_true : ∀ (i : Nat) (xs : List TIns), sel (fun _ => true) i xs = xs
 | _, [] => rfl
 | i, x :: xs => by simp [sel, sel_true (i + 1) xs]
theorem shut_good {f : TFunc} (hg : Good f) : shut f.code = f.code := by
 obtain ⟨⟨l, h1, h2⟩, _⟩ := hg
 unfold shut
 rw [h1]
 simp only
 rw [if_neg (by omega)]
theorem one_call {me : Int} {m t : TModule} (hm : Mod m) (h : Step1 One1 m t) : ∀ d n args fu fu' c, fu ≤ fu' → WFc c → c.over = false → 0 ≤ n → (∃ g, m.funcs[n.toNat]? = some g ∧ (args.length : Int) = g.params) →
  Rel (callP m me d n args fu c) (callP t me d n args fu' c) := by
 intro d
 induction d with
 | zero => intro n args fu fu' c hff _ _ _ _; exact .inr ⟨rfl, hff, fun e => by cases e⟩
 | succ d ih =>
  intro n args fu fu' c hff hwf ho hn ⟨f, hf, hp⟩
  obtain ⟨g, hg, e⟩ := h.get hf
  have hmem := List.mem_of_getElem? hf
  have hft := hm.fit f hmem
  have hgd := hm.good f hmem
  have hpar := hm.par f hmem
  have hkeep := swp_keep e.1
  have e1 : m.funcs.getD n.toNat noF = f := by rw [List.getD_eq_getElem?_getD, hf]; rfl
  have e2 : t.funcs.getD n.toNat noF = g := by rw [List.getD_eq_getElem?_getD, hg]; rfl
  have call : ∀ x ∈ f.code, x.op = 14 → ∀ args : List Int, args.length = x.args.length → ∀ fu fu' c, fu ≤ fu' → WFc c → c.over = false → Rel (callP m me d x.imm args fu c) (callP t me d x.imm args fu' c) := fun x hx h14 args' ha fu fu' c h1 h2 h3 => by
   obtain ⟨h0, g', h4, h5⟩ := (hft.2.2 x hx).2.2 h14
   exact ih x.imm args' fu fu' c h1 h2 h3 h0 ⟨g', h4, by rw [ha]; exact h5⟩
  have hSw : ∃ kp, SwH f g kp (callP m me d) (callP t me d) := by
   rcases e.1 with rfl | ⟨kp, rfl, hk⟩
   ·exact ⟨fun _ => true, hgd, hft.1, fun x hx => (hft.2.2 x hx).2.1, by rw [sel_true, shut_good hgd], fun _ _ _ _ => rfl, fun _ _ _ _ h => (h rfl).elim, call, callP_bd m me d, callP_bd t me d, callP_grow m me d, callP_grow t me d⟩
   ·exact ⟨kp, hgd, hft.1, fun x hx => (hft.2.2 x hx).2.1, rfl, fun k x hx h11 => (hk k x hx).2 (.inl h11), fun k x hx hr hn => Classical.not_not.1 fun e => hn ((hk k x hx).2 (.inr ⟨hr, e⟩)), call, callP_bd m me d, callP_bd t me d, callP_grow m me d, callP_grow t me d⟩
  obtain ⟨kp, H⟩ := hSw
  unfold callP
  simp only
  rw [e1, e2, hkeep.2.2]
  have hlen : (((args ++ List.replicate (f.regs.toNat - args.length) 0).length : Nat) : Int) = max f.regs 0 := by simp; omega
  have hpos : 0 < f.code.length := by
   obtain ⟨⟨l, h1, _⟩, _⟩ := hgd
   cases hc : f.code with
   | nil => rw [hc] at h1; cases h1
   | cons a b => simp
  exact sweep_run H (fu + 1) (fu' + 1) 0 _ _ fu fu' c (by omega) (by omega) hff hwf hlen hlen fun _ => ⟨hpos, Rc.zero, fun r _ _ => rfl⟩
theorem Rel.trans {a b c : Res} (h : Rel a b) (h' : Rel b c) : Rel a c := by
 rcases h with ⟨h1, h2, h3⟩ | ⟨h1, h2, h3⟩
 ·rcases h' with ⟨_, _, g3⟩ | ⟨g1, _, _⟩
  ·exact .inl ⟨h1, h2, h3.trans g3⟩
  ·exact .inl ⟨h1, h2, by rw [← g1]; exact h3⟩
 ·rcases h' with ⟨g1, g2, g3⟩ | ⟨g1, g2, g3⟩
  ·exact .inl ⟨by rw [h1]; exact g1, by rw [h1]; exact g2, by rw [h1]; exact g3⟩
  ·exact .inr ⟨h1.trans g1, Nat.le_trans h2 g2, fun e => (h3 e).trans (g3 (by rw [← h1]; exact e))⟩
inductive SwN : Nat → TFunc → TFunc → Prop
 | zero (f : TFunc) : SwN 0 f f
 | succ (n : Nat) (f a b : TFunc) (h : SwN n f a) (hf : Fine a) (hb : One1 a b) : SwN (n + 1) f b
theorem SwN.pad {n : Nat} {f g : TFunc} (h : SwN n f g) (hf : Fine g) : ∀ k, SwN (n + k) f g
 | 0 => h
 | k + 1 => .succ _ _ _ _ (SwN.pad h hf k) hf ⟨.inl rfl, hf⟩
theorem lists_mid {P Q : TFunc → TFunc → Prop} : ∀ (F G : List TFunc), F.length = G.length → (∀ (i : Nat) f g, F[i]? = some f → G[i]? = some g → ∃ a, P f a ∧ Q a g) →
  ∃ A : List TFunc, A.length = F.length ∧ (∀ (i : Nat) f a, F[i]? = some f → A[i]? = some a → P f a) ∧ ∀ (i : Nat) a g, A[i]? = some a → G[i]? = some g → Q a g
 | [], [], _, _ => ⟨[], rfl, fun i f a h => (by simp at h), fun i a g h => (by simp at h)⟩
 | f :: F, g :: G, hl, h => by
  obtain ⟨A, h1, h2, h3⟩ := lists_mid F G (by simpa using hl) fun i f' g' hf hg => h (i + 1) f' g' (by simpa using hf) (by simpa using hg)
  obtain ⟨a, ha, hb⟩ := h 0 f g rfl rfl
  refine ⟨a :: A, by simp [h1], fun i f' a' q1 q2 => ?_, fun i a' g' q1 q2 => ?_⟩
  ·cases i with
   | zero => simp at q1 q2; subst q1 q2; exact ha
   | succ i => exact h2 i f' a' (by simpa using q1) (by simpa using q2)
  ·cases i with
   | zero => simp at q1 q2; subst q1 q2; exact hb
   | succ i => exact h3 i a' g' (by simpa using q1) (by simpa using q2)
 | [], _ :: _, hl, _ => by simp at hl
 | _ :: _, [], hl, _ => by simp at hl
theorem swn_all {me : Int} : ∀ (N : Nat) (m t : TModule), Mod m → Step1 (SwN N) m t → Mod t ∧ ∀ d n args fu c, WFc c → c.over = false → 0 ≤ n → (∃ g, m.funcs[n.toNat]? = some g ∧ (args.length : Int) = g.params) → (∃ g, t.funcs[n.toNat]? = some g ∧ (args.length : Int) = g.params) ∧ Rel (callP m me d n args fu c) (callP t me d n args fu c) := by
 intro N
 induction N with
 | zero =>
  intro m t hm h
  have : t = m := by
   obtain ⟨F, T⟩ := m
   obtain ⟨F', T'⟩ := t
   have h1 : T' = T := h.thr
   have h2 : F' = F := by
    apply List.ext_getElem?
    intro i
    cases hf : F[i]? with
    | none =>
     have := List.getElem?_eq_none_iff.1 hf
     have hl : F'.length = F.length := h.len
     exact List.getElem?_eq_none (by omega)
    | some f =>
     obtain ⟨g, hg, e⟩ := h.get (i := i) (f := f) hf
     cases e
     exact hg
   rw [h1, h2]
  subst this
  exact ⟨hm, fun d n args fu c _ _ _ hg => ⟨hg, .inr ⟨rfl, Nat.le_refl _, fun _ => rfl⟩⟩⟩
 | succ N ih =>
  intro m t hm h
  obtain ⟨A, h1, h2, h3⟩ := lists_mid (P := SwN N) (Q := One1) m.funcs t.funcs h.len.symm fun i f g hf hg => by
   have := h.at_ i f g hf hg
   cases this with
   | succ _ _ a _ q1 q2 q3 => exact ⟨a, q1, q3⟩
  have s1 : Step1 (SwN N) m ⟨A, m.threads⟩ := ⟨h1, rfl, h2⟩
  have s2 : Step1 One1 ⟨A, m.threads⟩ t := ⟨by rw [h.len]; exact h1.symm, h.thr, h3⟩
  obtain ⟨m1, r1⟩ := ih m _ hm s1
  refine ⟨one_mod m1 s2, fun d n args fu c hwf ho hn hg => ?_⟩
  obtain ⟨q1, q2⟩ := r1 d n args fu c hwf ho hn hg
  obtain ⟨g1, hg1, hp1⟩ := q1
  obtain ⟨g2, hg2, e⟩ := s2.get hg1
  exact ⟨⟨g2, hg2, by rw [(swp_keep e.1).2.1]; exact hp1⟩, q2.trans (one_call m1 s2 d n args fu fu c (Nat.le_refl _) hwf ho hn ⟨g1, hg1, hp1⟩)⟩
end
section
def Tid (o : Ttidy_Options) (f g : TFunc) : Prop := (∃ N, SwN N (rowF o f) g) ∧ Fine g ∧ g.code.length ≤ f.code.length + 1
theorem func_tid {f : TFunc} (o : Ttidy_Options) (hf : Fine f) (hl : f.code.length ≤ 900) : Ok (tidy_Func f o) (Tid o f) := by
 refine (func_is o hf hl (fun g => ∃ N, SwN N (rowF o f) g) ⟨0, .zero _⟩ fun a b ha hb ⟨N, h⟩ hs => ⟨N + 1, .succ _ _ _ _ h ha ⟨.inr hs, hb⟩⟩).mono fun g h => ⟨h.1, h.2.1, h.2.2.1⟩
theorem tid_all {o : Ttidy_Options} {m t : TModule} (h : Step1 (Tid o) m t) : ∃ N, Step1 (SwN N) ⟨m.funcs.map (rowF o), m.threads⟩ t := by
 have key : ∀ k, k ≤ m.funcs.length → ∃ N, ∀ (i : Nat) f g, i < k → m.funcs[i]? = some f → t.funcs[i]? = some g → SwN N (rowF o f) g := by
  intro k
  induction k with
  | zero => intro _; exact ⟨0, fun i f g h => by omega⟩
  | succ k ih =>
   intro hk
   obtain ⟨N, hN⟩ := ih (by omega)
   have hf : m.funcs[k]? = some m.funcs[k] := List.getElem?_eq_getElem (by omega)
   obtain ⟨g, hg, ⟨M, hM⟩, hfine, _⟩ := h.get hf
   refine ⟨N + M, fun i f' g' hi h1 h2 => ?_⟩
   have hfine' := (h.at_ i f' g' h1 h2).2.1
   by_cases e : i = k
   ·subst e
    rw [hf] at h1
    cases h1
    rw [hg] at h2
    cases h2
    have := hM.pad hfine N
    rwa [Nat.add_comm] at this
   ·exact (hN i f' g' (by omega) h1 h2).pad hfine' M
 obtain ⟨N, hN⟩ := key m.funcs.length (Nat.le_refl _)
 refine ⟨N, by rw [List.length_map]; exact h.len, h.thr, fun i f g h1 h2 => ?_⟩
 rw [List.getElem?_map] at h1
 cases hf : m.funcs[i]? with
 | none => rw [hf] at h1; cases h1
 | some f' =>
  rw [hf] at h1
  cases h1
  exact hN i f' g (List.getElem?_eq_some_iff.1 hf).1 hf h2
structure TidOK (o : Ttidy_Options) (m t : TModule) : Prop where
 mod : Mod t
 thr : t.threads = m.threads
 len : t.funcs.length = m.funcs.length
 code : ∀ (i : Nat) f g, m.funcs[i]? = some f → t.funcs[i]? = some g → g.code.length ≤ f.code.length + 1
 rel : ∀ me n args fu c, WFc c → c.over = false → 0 ≤ n → (∃ g, m.funcs[n.toNat]? = some g ∧ (args.length : Int) = g.params) → Rel (callP m me 17 n args fu c) (callP t me 17 n args fu c)
theorem mod_fine {m : TModule} (hm : Mod m) : ∀ f ∈ m.funcs, Fine f := fun f hf =>
 good_fine (hm.good f hf) (hm.fit f hf).1 (hm.fit f hf).2.1 fun x hx => ((hm.fit f hf).2.2 x hx).1
theorem tidy_is {m : TModule} (o : Ttidy_Options) (hm : Mod m) (hl : ∀ f ∈ m.funcs, f.code.length ≤ 900) : Ok (tidy_Module m o) (TidOK o m) := by
 refine (module_is o hm.nf hm.nt (Tid o) fun f hf => func_tid o (mod_fine hm f hf) (hl f hf)).mono fun t ht => ?_
 have hs : Step1 (Tid o) m t := ⟨ht.2.1, ht.1, ht.2.2⟩
 obtain ⟨N, hN⟩ := tid_all hs
 have hr : Step1 (fun f g => g = rowF o f) m ⟨m.funcs.map (rowF o), m.threads⟩ := ⟨by simp, rfl, fun i f g h1 h2 => by
  have h2' : (m.funcs.map (rowF o))[i]? = some g := h2
  rw [List.getElem?_map, h1] at h2'
  exact (Option.some.inj h2').symm⟩
 have hm1 := row_mod hm hr
 have hall := swn_all (me := 0) N _ t hm1 hN
 refine ⟨hall.1, ht.1, ht.2.1, fun i f g h1 h2 => (ht.2.2 i f g h1 h2).2.2, fun me n args fu c hwf ho hn hg => ?_⟩
 obtain ⟨g, hg1, hg2⟩ := hg
 have hg1' : (m.funcs.map (rowF o))[n.toNat]? = some (rowF o g) := by rw [List.getElem?_map, hg1]; rfl
 rw [← callP_row hm hr 17 n args fu c hn ⟨g, hg1, hg2⟩]
 exact ((swn_all (me := me) N _ t hm1 hN).2 17 n args fu c hwf ho hn ⟨rowF o g, hg1', hg2⟩).2
def c0 (reads : List Int) : Cx := ⟨reads, 0, [], [], false, false⟩
def outR (r : Res) : List TAct × Bool := if r.2.2.over = true then (r.2.2.acts, r.2.2.ended) else ((doC r.2.2 7 0 0 zI).acts, true)
noncomputable def runP (m : TModule) (th : Int) (reads : List Int) : List TAct × Bool :=
 if 0 ≤ th ∧ th < m.threads.length then outR (callP m th 17 (m.threads.getD th.toNat 0) [] 2000 (c0 reads)) else ([], false)
theorem run_is {m : TModule} (hm : Mod m) (th : Int) (reads : List Int) : ref08_Run m th reads 2000 = some (runP m th reads) := by
 unfold ref08_Run ref08_Begin runP
 by_cases h : 0 ≤ th ∧ th < m.threads.length
 ·rw [if_neg (by simp; omega), if_pos h, ix_getD h.1 h.2]
  simp only [Option.bind_some]
  have hmem : m.threads.getD th.toNat 0 ∈ m.threads := by
   have : th.toNat < m.threads.length := by omega
   rw [List.getD_eq_getElem?_getD, List.getElem?_eq_getElem this]
   exact List.getElem_mem this
  obtain ⟨h0, g, h1, h2⟩ := hm.thr _ hmem
  have hc := call_is (m := m) (me := th) hm.fit hm.par (n := m.threads.getD th.toNat 0) (args := []) (fu := 2000) (c := c0 reads) h0 ⟨g, h1, by rw [h2]; rfl⟩ (by show 0 + 2000 ≤ _; omega)
  have hb := (callP_bd m th 17 (m.threads.getD th.toNat 0) [] 2000 (c0 reads)).1
  show ((rM_Call (mk8 m th MOST 2000 (c0 reads)) _ [] 0).bind _).bind _ = _
  rw [hc]
  generalize callP m th 17 (m.threads.getD th.toNat 0) [] 2000 (c0 reads) = r at hb
  simp only [Option.bind_some]
  have hal : r.2.2.acts.length < 16777216 := by
   have : (c0 reads).acts.length = 0 := rfl
   omega
  unfold outR
  by_cases ho : r.2.2.over = true
  ·rw [if_neg (by show ¬ (!r.2.2.over) = true; rw [ho]; decide), if_pos ho]
   rfl
  ·have ho' : r.2.2.over = false := by simpa using ho
   rw [if_pos (by show (!r.2.2.over) = true; rw [ho']; decide), if_neg ho]
   have := do_is m th MOST r.2.1 r.2.2 hal 7 0 0 zI
   unfold zI at this
   rw [this]
   rfl
 ·rw [if_pos (by simp; omega), if_neg h]
  rfl
def RunRel (a b : List TAct × Bool) : Prop := (a.2 = false ∧ a.1 <+: b.1) ∨ a = b
theorem out_rel {a b : Res} (h : Rel a b) : RunRel (outR a) (outR b) := by
 unfold outR
 rcases h with ⟨h1, h2, h3⟩ | ⟨h1, _, h3⟩
 ·rw [if_pos h1]
  refine .inl ⟨h2, ?_⟩
  split
  ·exact h3
  ·exact h3.trans (by unfold doC; exact List.prefix_append _ _)
 ·rw [h1]
  exact .inr rfl
theorem run_rel {o : Ttidy_Options} {m t : TModule} (hm : Mod m) (h : TidOK o m t) (th : Int) (reads : List Int) : RunRel (runP m th reads) (runP t th reads) := by
 unfold runP
 rw [h.thr]
 by_cases hc : 0 ≤ th ∧ th < m.threads.length
 ·rw [if_pos hc, if_pos hc]
  have hmem : m.threads.getD th.toNat 0 ∈ m.threads := by
   have : th.toNat < m.threads.length := by omega
   rw [List.getD_eq_getElem?_getD, List.getElem?_eq_getElem this]
   exact List.getElem_mem this
  obtain ⟨h0, g, h1, h2⟩ := hm.thr _ hmem
  exact out_rel (h.rel th _ [] 2000 (c0 reads) (fun e => by cases e) rfl h0 ⟨g, h1, by rw [h2]; rfl⟩)
 ·rw [if_neg hc, if_neg hc]
  exact .inr rfl
theorem run_len {m : TModule} (th : Int) (reads : List Int) : (runP m th reads).1.length ≤ 3000 := by
 unfold runP
 split
 ·have hb := (callP_bd m th 17 (m.threads.getD th.toNat 0) [] 2000 (c0 reads)).1
  have h0 : (c0 reads).acts.length = 0 := rfl
  unfold outR
  split
  ·show (callP m th 17 (m.threads.getD th.toNat 0) [] 2000 (c0 reads)).2.2.acts.length ≤ 3000
   omega
  ·show (doC _ _ _ _ _).acts.length ≤ 3000
   rw [doC_len]
   omega
 ·simp
theorem cut_pre {a b : List TAct} (h : a <+: b) : cutL b 0 (a.length : Int) = some a := by
 have hl := h.length_le
 unfold cutL
 rw [if_pos (by omega)]
 have : b.take a.length = a := (List.prefix_iff_eq_take.1 h).symm
 simp [this]
theorem small_mod {m : TModule} (o : OK_TModule m) (h : Small m) : Mod m ∧ ∀ f ∈ m.funcs, f.code.length ≤ 40 := by
 have hf := h.funcs
 have ht := h.threads
 have ha : ∀ f ∈ m.funcs, ∀ x ∈ f.code, x.args.length ≤ 9223372036854775807 := fun f hf x hx => ((o.1.1 f hf).2.2.2.1.1 x hx).2.2.2.2.2.1.2
 exact ⟨.of h.whole ⟨by omega, by omega, fun f hf => by have := h.code f hf; omega, ha⟩ (fun f hf => by have := h.code f hf; omega) (fun f hf x hx => by have := small_args h hf (ha f hf) x hx; omega), fun f hf => (h.code f hf).1⟩
end
end Go.Vm.G11
