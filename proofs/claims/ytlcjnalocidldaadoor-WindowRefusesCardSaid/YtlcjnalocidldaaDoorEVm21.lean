/-
  Part of an evaluator for the model, proved sound: no condition.
-/
import Derived.Test.YtlcjnalocidldaaDoorEVm16
set_option linter.unusedSimpArgs false
set_option linter.unusedVariables false
namespace Go.Vm
open Go
abbrev Hist := List (Nat × Kind × AH × AH)
def okP (ops : Array Oper) (i : Nat) (k : Kind) (H H1 : AH) (x : Nat × Kind × AH × AH) : Prop :=
 match k, x with
 | .read r, (e, .eff, He, He1) => depB ops e i = true ∨ He1.look r = He.look r ∨ He.next ≤ r.b
 | .eff, (e, .read r, _, _) => depB ops e i = true ∨ H1.look r = H.look r
 | .eff, (e, .alloc b, _, _) => depB ops e i = true ∨ H1.get b = H.get b
 | .eff, (e, .eff, _, _) => depB ops e i = true
 | _, _ => True
def okH (ops : Array Oper) (i : Nat) (k : Kind) (H H1 : AH) (hist : Hist) : Prop := (∀ r, k = .read r → r.b < H.next) ∧ ∀ x ∈ hist, okP ops i k H H1 x
inductive DRun (P : Program) (C : CallRel) (ops : Array Oper) : Nat → Hist → T → AH → T → AH → Prop
 | done (i : Nat) (hist : Hist) (t : T) (H : AH) (h : ops.size ≤ i) : DRun P C ops i hist t H t H
 | pure (i : Nat) (o : Oper) (hist : Hist) (t : T) (H : AH) (v : Value) (H1 : AH) (t' : T) (H' : AH) (ho : ops[i]? = some o) (hs : StepG P C ops o t H .pure v H1)
   (h : DRun P C ops (i + 1) hist (put t o.dst v) H1 t' H') : DRun P C ops i hist t H t' H'
 | step (i : Nat) (o : Oper) (hist : Hist) (t : T) (H : AH) (k : Kind) (v : Value) (H1 : AH) (t' : T) (H' : AH) (ho : ops[i]? = some o) (hs : StepG P C ops o t H k v H1) (hk : okH ops i k H H1 hist)
   (h : DRun P C ops (i + 1) ((i, k, H, H1) :: hist) (put t o.dst v) H1 t' H') : DRun P C ops i hist t H t' H'
structure PT (P : Program) (C : CallRel) (ops : Array Oper) (t0 : T) (H0 : AH) (n : Nat) (Hf : Nat → AH) (tf : Nat → T) (kf : Nat → Kind) (vf : Nat → Value) : Prop where
 h0 : Hf 0 = H0
 t0 : tf 0 = t0
 step : ∀ i o, i < n → ops[i]? = some o → StepG P C ops o (tf i) (Hf i) (kf i) (vf i) (Hf (i + 1)) ∧ tf (i + 1) = put (tf i) o.dst (vf i)
 d1 : ∀ j r e, j < n → e < n → kf j = .read r → kf e = .eff → depB ops e j = false → depB ops j e = false → r.b < (Hf e).next → (Hf (e + 1)).look r = (Hf e).look r
 d2 : ∀ i b e, i < e → e < n → kf i = .alloc b → kf e = .eff → depB ops i e = false → (Hf (e + 1)).get b = (Hf e).get b
 rd : ∀ j r, j < n → kf j = .read r → r.b < (Hf j).next
 s2 : ∀ i j, i < j → j < n → kf i = .eff → kf j = .eff → depB ops i j = true
theorem PT.more {P : Program} {C : CallRel} {ops : Array Oper} {t0 : T} {H0 : AH} {n : Nat} {Hf : Nat → AH} {tf : Nat → T} {kf : Nat → Kind} {vf : Nat → Value} (h : PT P C ops t0 H0 n Hf tf kf vf) {o : Oper} {k : Kind} {v : Value} {H1 : AH} (ho : ops[n]? = some o) (hs : StepG P C ops o (tf n) (Hf n) k v H1)
  (hr : ∀ r, k = .read r → r.b < (Hf n).next) (hk : ∀ j, j < n → okP ops n k (Hf n) H1 (j, kf j, Hf j, Hf (j + 1))) :
  ∃ Hf' tf' kf' vf', PT P C ops t0 H0 (n + 1) Hf' tf' kf' vf' ∧ (∀ i, i ≤ n → Hf' i = Hf i ∧ tf' i = tf i) ∧ (∀ i, i < n → kf' i = kf i) ∧ kf' n = k ∧ Hf' (n + 1) = H1 ∧ tf' (n + 1) = put (tf n) o.dst v := by
 have hn : ∀ i, i ≤ n → i ≠ n + 1 := fun i hi => by omega
 refine ⟨fun i => if i = n + 1 then H1 else Hf i, fun i => if i = n + 1 then put (tf n) o.dst v else tf i, fun i => if i = n then k else kf i, fun i => if i = n then v else vf i,
  ⟨by simp [h.h0], by simp [h.t0], ?_, ?_, ?_, ?_, ?_⟩, fun i hi => by simp [hn i hi], fun i hi => by simp [show i ≠ n by omega], by simp, by simp, by simp⟩
 ·intro i o' hi ho'
  by_cases hin : i = n
  ·subst hin
   rw [ho] at ho'
   cases ho'
   simpa using hs
  ·have := h.step i o' (by omega) ho'
   simpa [hin, show i ≠ n + 1 by omega] using this
 ·intro j r e hj he h1 h2 h3 h4 hlt
  try simp only at h1 h2 hlt ⊢
  rw [if_neg (show e ≠ n + 1 by omega)] at hlt
  by_cases hen : e = n
  ·subst hen
   rw [if_pos rfl] at h2
   subst h2
   by_cases hje : j = e
   ·subst hje
    rw [if_pos rfl] at h1
    cases h1
   ·rw [if_neg hje] at h1
    have := hk j (by omega)
    rw [h1] at this
    rcases this with h5 | h5
    ·rw [h5] at h4; cases h4
    ·rw [if_pos rfl, if_neg (by omega)]; exact h5
  ·rw [if_neg hen] at h2
   rw [if_neg (by omega), if_neg (by omega)]
   by_cases hjn : j = n
   ·subst hjn
    rw [if_pos rfl] at h1
    subst h1
    have := hk e (by omega)
    rw [h2] at this
    rcases this with h5 | h5 | h5
    ·rw [h5] at h3; cases h3
    ·exact h5
    ·exact absurd hlt (Nat.not_lt_of_le h5)
   ·rw [if_neg hjn] at h1
    exact h.d1 j r e (by omega) (by omega) h1 h2 h3 h4 hlt
 ·intro i b e hie he h1 h2 h3
  try simp only at h1 h2 ⊢
  rw [if_neg (show i ≠ n by omega)] at h1
  by_cases hen : e = n
  ·subst hen
   rw [if_pos rfl] at h2
   subst h2
   have := hk i (by omega)
   rw [h1] at this
   rcases this with h5 | h5
   ·rw [h5] at h3; cases h3
   ·rw [if_pos rfl, if_neg (by omega)]; exact h5
  ·rw [if_neg hen] at h2
   rw [if_neg (by omega), if_neg (by omega)]
   exact h.d2 i b e hie (by omega) h1 h2 h3
 ·intro j r hj h1
  try simp only at h1 ⊢
  rw [if_neg (by omega)]
  by_cases hjn : j = n
  ·subst hjn
   rw [if_pos rfl] at h1
   exact hr r h1
  ·rw [if_neg hjn] at h1
   exact h.rd j r (by omega) h1
 ·intro i j hij hj h1 h2
  try simp only at h1 h2
  rw [if_neg (show i ≠ n by omega)] at h1
  by_cases hjn : j = n
  ·subst hjn
   rw [if_pos rfl] at h2
   subst h2
   have := hk i (by omega)
   rw [h1] at this
   exact this
  ·rw [if_neg hjn] at h2
   exact h.s2 i j hij (by omega) h1 h2
def HistOk (n : Nat) (Hf : Nat → AH) (kf : Nat → Kind) (hist : Hist) : Prop := ∀ j, j < n → kf j = .pure ∨ (j, kf j, Hf j, Hf (j + 1)) ∈ hist
theorem DRun.trace {P : Program} {C : CallRel} {ops : Array Oper} {i : Nat} {hist : Hist} {t : T} {H : AH} {t' : T} {H' : AH} (h : DRun P C ops i hist t H t' H') : ∀ {t0 : T} {H0 : AH} {Hf : Nat → AH} {tf : Nat → T} {kf : Nat → Kind} {vf : Nat → Value}, i ≤ ops.size → PT P C ops t0 H0 i Hf tf kf vf → HistOk i Hf kf hist → Hf i = H → tf i = t →
  ∃ Hf' tf' kf' vf', Trace P C ops t0 H0 Hf' tf' kf' vf' ∧ Hf' ops.size = H' ∧ tf' ops.size = t' := by
 have stepc : ∀ {i : Nat} {o : Oper} {hist hist' : Hist} {t : T} {H : AH} {k : Kind} {v : Value} {H1 : AH} {t' : T} {H' : AH}, ops[i]? = some o → StepG P C ops o t H k v H1 → okH ops i k H H1 hist → (k = .pure ∧ hist' = hist ∨ hist' = (i, k, H, H1) :: hist) →
   (∀ {t0 : T} {H0 : AH} {Hf : Nat → AH} {tf : Nat → T} {kf : Nat → Kind} {vf : Nat → Value}, i + 1 ≤ ops.size → PT P C ops t0 H0 (i + 1) Hf tf kf vf → HistOk (i + 1) Hf kf hist' → Hf (i + 1) = H1 → tf (i + 1) = put t o.dst v → ∃ Hf' tf' kf' vf', Trace P C ops t0 H0 Hf' tf' kf' vf' ∧ Hf' ops.size = H' ∧ tf' ops.size = t') →
   ∀ {t0 : T} {H0 : AH} {Hf : Nat → AH} {tf : Nat → T} {kf : Nat → Kind} {vf : Nat → Value}, i ≤ ops.size → PT P C ops t0 H0 i Hf tf kf vf → HistOk i Hf kf hist → Hf i = H → tf i = t → ∃ Hf' tf' kf' vf', Trace P C ops t0 H0 Hf' tf' kf' vf' ∧ Hf' ops.size = H' ∧ tf' ops.size = t' := by
  intro i o hist hist' t H k v H1 t' H' ho hs hk hh ih t0 H0 Hf tf kf vf hi hp hist0 h1 h2
  subst h1 h2
  obtain ⟨Hf', tf', kf', vf', q1, q2, q3, q4, q5, q6⟩ := hp.more ho hs hk.1 (fun j hj => by
   rcases hist0 j hj with h3 | h3
   ·rw [h3]
    unfold okP
    cases k <;> trivial
   ·exact hk.2 _ h3)
  refine ih ((Array.getElem?_eq_some_iff.1 ho).1) q1 (fun j hj => ?_) q5 q6
  by_cases hji : j = i
  ·subst hji
   rcases hh with ⟨hh, _⟩ | hh
   ·exact .inl (q4.trans hh)
   ·right
    rw [hh, q4, (q2 j (Nat.le_refl _)).1, q5]
    exact List.mem_cons_self
  ·rw [q3 j (by omega), (q2 j (by omega)).1, (q2 (j + 1) (by omega)).1]
   rcases hist0 j (by omega) with h3 | h3
   ·exact .inl h3
   ·right
    rcases hh with ⟨_, hh⟩ | hh
    ·rw [hh]; exact h3
    ·rw [hh]; exact List.mem_cons_of_mem _ h3
 induction h with
 | done i hist t H h =>
  intro t0 H0 Hf tf kf vf hi hp _ h1 h2
  have : i = ops.size := by omega
  subst this
  have lt : ∀ {i : Nat} {o : Oper}, ops[i]? = some o → i < ops.size := fun ho => (Array.getElem?_eq_some_iff.1 ho).1
  exact ⟨Hf, tf, kf, vf, ⟨hp.h0, hp.t0, fun i o ho => hp.step i o (lt ho) ho, hp.d1, hp.d2, hp.rd, hp.s2⟩, h1, h2⟩
 | pure i o hist t H v H1 t' H' ho hs h ih => exact stepc ho hs ⟨fun r h => by (cases h), fun x _ => by unfold okP; trivial⟩ (.inl ⟨rfl, rfl⟩) ih
 | step i o hist t H k v H1 t' H' ho hs hk h ih => exact stepc ho hs hk (.inr rfl) ih
section
variable {P : Program} {G N : Nat}
def WD (P : Program) (G : Nat) (ops : Array Oper) (i : Nat) (hist : Hist) (l : List (Nat × Value)) (H : AH) (Q : LQ) : Prop := ∃ l' H', DRun P (Cl P G) ops i hist (fr l) H (fr l') H' ∧ Q l' H'
theorem WP.dreg {id : Nat} {ops : Array Oper} {Q : XQ} {l : List (Nat × Value)} {H : AH} (hok : okOps G N ops = true) (hed : edgesOk ops = true) (hap : apartOk ops = true) (h : WD P G ops 0 [] l H (Q .normal)) : WP P G N (.region id ops true) Q l H := by
 obtain ⟨l', H', h1, h2⟩ := h
 obtain ⟨Hf, tf, kf, vf, h3, h4, h5⟩ := h1.trace (t0 := fr l) (H0 := H) (Hf := fun _ => H) (tf := fun _ => fr l) (kf := fun _ => .pure) (vf := fun _ => undef) (Nat.zero_le _)
  ⟨rfl, rfl, fun i o hi => by omega, fun j r e hj => by omega, fun i b e _ he => by omega, fun j r hj => by omega, fun i j _ hj => by omega⟩ (fun j hj => by omega) rfl rfl
 subst h4
 exact ⟨.normal, l', _, h5 ▸ .draw id ops _ H Hf tf kf vf hok hed hap h3, h2⟩
theorem WP.sdreg {id : Nat} {ops : Array Oper} {b : Code} {Q : XQ} {l : List (Nat × Value)} {H : AH} (hok : okOps G N ops = true) (hed : edgesOk ops = true) (hap : apartOk ops = true) (h : WD P G ops 0 [] l H (WP P G N b Q)) : WP P G N (.seq (.region id ops true) b) Q l H := WP.seq (WP.dreg hok hed hap h)
variable {ops : Array Oper} {i : Nat} {hist : Hist} {l : List (Nat × Value)} {H : AH} {Q : LQ} {o : Oper} {d : Tmp}
theorem WD.done (h : ops.size ≤ i) (hq : Q l H) : WD P G ops i hist l H Q := ⟨l, H, .done i hist _ H h, hq⟩
theorem WD.g {v : Value} {H1 : AH} (ho : ops[i]? = some o) (hd : o.dst = some d) (hs : StepG P (Cl P G) ops o (fr l) H .pure v H1) (h : WD P G ops (i + 1) hist ((d, v) :: l) H1 Q) : WD P G ops i hist l H Q := by
 obtain ⟨l', H', h1, h2⟩ := h
 exact ⟨l', H', .pure i o hist _ H v H1 _ H' ho hs (by rw [hd, fr_put]; exact h1), h2⟩
theorem WD.s {v : Value} {H1 : AH} (ho : ops[i]? = some o) (hd : o.dst = some d) (hg : o.guard = none) (hs : Step P (Cl P G) o (fr l) H .pure v H1) (h : WD P G ops (i + 1) hist ((d, v) :: l) H1 Q) : WD P G ops i hist l H Q := WD.g ho hd (.plain .pure v H1 hg hs) h
theorem WD.n {v : Value} {H1 : AH} (ho : ops[i]? = some o) (hd : o.dst = none) (hg : o.guard = none) (hs : Step P (Cl P G) o (fr l) H .pure v H1) (h : WD P G ops (i + 1) hist l H1 Q) : WD P G ops i hist l H Q := by
 obtain ⟨l', H', h1, h2⟩ := h
 exact ⟨l', H', .pure i o hist _ H v H1 _ H' ho (.plain .pure v H1 hg hs) (by rw [hd]; exact h1), h2⟩
theorem WD.k {k : Kind} {v : Value} {H1 : AH} (ho : ops[i]? = some o) (hd : o.dst = some d) (hg : o.guard = none) (hs : Step P (Cl P G) o (fr l) H k v H1) (hk : okH ops i k H H1 hist) (h : WD P G ops (i + 1) ((i, k, H, H1) :: hist) ((d, v) :: l) H1 Q) : WD P G ops i hist l H Q := by
 obtain ⟨l', H', h1, h2⟩ := h
 exact ⟨l', H', .step i o hist _ H k v H1 _ H' ho (.plain k v H1 hg hs) hk (by rw [hd, fr_put]; exact h1), h2⟩
theorem okH.nil {k : Kind} {H1 : AH} (h : ∀ r, k = .read r → r.b < H.next) : okH ops i k H H1 [] := ⟨h, fun x hx => nomatch hx⟩
theorem okH.cons {k : Kind} {H1 : AH} {x : Nat × Kind × AH × AH} (hx : okP ops i k H H1 x) (h : okH ops i k H H1 hist) : okH ops i k H H1 (x :: hist) := ⟨h.1, fun y hy => by
 cases hy with
 | head => exact hx
 | tail _ hy => exact h.2 y hy⟩
end
end Go.Vm
namespace Go.Vm
open Go
section
variable {P : Program} {G N : Nat} {dr : Bool} {ops : Array Oper} {i : Nat} {hist : Hist} {l : List (Nat × Value)} {H : AH} {V : Vw} {Q : LQ} {o : Oper} {d : Tmp}
def WU (dr : Bool) (P : Program) (G : Nat) (ops : Array Oper) (i : Nat) (hist : Hist) (l : List (Nat × Value)) (H : AH) (Q : LQ) : Prop := match dr with
 | true => WD P G ops i hist l H Q
 | false => WO P G ops i l H Q
def okU (dr : Bool) (ops : Array Oper) (i : Nat) (k : Kind) (H H1 : AH) (hist : Hist) : Prop := dr = true → okH ops i k H H1 hist
theorem nd {k : Kind} {H1 : AH} : okU false ops i k H H1 hist := fun h => nomatch h
def hadd (dr : Bool) (x : Nat × Kind × AH × AH) (hist : Hist) : Hist := match dr with
 | true => x :: hist
 | false => hist
def GOk (ops : Array Oper) (l : List (Nat × Value)) (o : Oper) : Prop := o.guard = none ∨ ∃ j b e, o.guard = some (j, b) ∧ (ops[j]?).bind (·.dst) = some e ∧ aev (fr l) (.tmp e) = .bool b
theorem GOk.st {C : CallRel} {k : Kind} {v : Value} {H1 : AH} (hg : GOk ops l o) (hs : Step P C o (fr l) H k v H1) : StepG P C ops o (fr l) H k v H1 := by
 rcases hg with h | ⟨j, b, e, h1, h2, h3⟩
 ·exact .plain k v H1 h hs
 ·exact .yes j b e k v H1 h1 h2 h3 hs
theorem WP.ureg {id : Nat} {Q : XQ} (hok : okOps G N ops = true) (h : WU false P G ops 0 [] l H (Q .normal)) : WP P G N (.region id ops false) Q l H := WP.reg hok h
theorem WP.usreg {id : Nat} {b : Code} {Q : XQ} (hok : okOps G N ops = true) (h : WU false P G ops 0 [] l H (WP P G N b Q)) : WP P G N (.seq (.region id ops false) b) Q l H := WP.sreg hok h
theorem WP.udreg {id : Nat} {Q : XQ} (hok : okOps G N ops = true) (hed : edgesOk ops = true) (hap : apartOk ops = true) (h : WU true P G ops 0 [] l H (Q .normal)) : WP P G N (.region id ops true) Q l H := WP.dreg hok hed hap h
theorem WP.usdreg {id : Nat} {b : Code} {Q : XQ} (hok : okOps G N ops = true) (hed : edgesOk ops = true) (hap : apartOk ops = true) (h : WU true P G ops 0 [] l H (WP P G N b Q)) : WP P G N (.seq (.region id ops true) b) Q l H := WP.sdreg hok hed hap h
theorem U.done (h : ops.size ≤ i) (hq : Q l H) : WU dr P G ops i hist l H Q := match dr with
 | true => WD.done h hq
 | false => WO.done h hq
theorem U.p {v : Value} (ho : ops[i]? = some o) (hd : o.dst = some d) (hg : GOk ops l o) (hs : Step P (Cl P G) o (fr l) H .pure v H) (h : WU dr P G ops (i + 1) hist ((d, v) :: l) H Q) : WU dr P G ops i hist l H Q := match dr, h with
 | true, h => WD.g ho hd (hg.st hs) h
 | false, h => WO.g ho hd (hg.st hs) h
theorem U.x {j : Nat} {b c : Bool} {e : Tmp} (ho : ops[i]? = some o) (hd : o.dst = some d) (hg : o.guard = some (j, b)) (he : (ops[j]?).bind (·.dst) = some e) (ht : aev (fr l) (.tmp e) = .bool c) (hc : c ≠ b) (h : WU dr P G ops (i + 1) hist ((d, undef) :: l) H Q) : WU dr P G ops i hist l H Q := match dr, h with
 | true, h => WD.g ho hd (.no j b c e hg he ht hc) h
 | false, h => WO.g ho hd (.no j b c e hg he ht hc) h
theorem U.z {j : Nat} {b : Bool} {e : Tmp} (ho : ops[i]? = some o) (hd : o.dst = some d) (hg : o.guard = some (j, b)) (he : (ops[j]?).bind (·.dst) = some e) (ht : aev (fr l) (.tmp e) = undef) (h : WU dr P G ops (i + 1) hist ((d, undef) :: l) H Q) : WU dr P G ops i hist l H Q := match dr, h with
 | true, h => WD.g ho hd (.nou j b e hg he ht) h
 | false, h => WO.g ho hd (.nou j b e hg he ht) h
theorem U.k {k : Kind} {v : Value} {H1 : AH} (ho : ops[i]? = some o) (hd : o.dst = some d) (hg : GOk ops l o) (hs : Step P (Cl P G) o (fr l) H k v H1) (hk : okU dr ops i k H H1 hist) (h : WU dr P G ops (i + 1) (hadd dr (i, k, H, H1) hist) ((d, v) :: l) H1 Q) : WU dr P G ops i hist l H Q := match dr, hk, h with
 | true, hk, h => by
  obtain ⟨l', H', h1, h2⟩ := h
  exact ⟨l', H', .step i o hist _ H k v H1 _ H' ho (hg.st hs) (hk rfl) (by rw [hd, fr_put]; exact h1), h2⟩
 | false, hk, h => WO.g ho hd (hg.st hs) h
theorem U.kn {k : Kind} {v : Value} {H1 : AH} (ho : ops[i]? = some o) (hd : o.dst = none) (hg : GOk ops l o) (hs : Step P (Cl P G) o (fr l) H k v H1) (hk : okU dr ops i k H H1 hist) (h : WU dr P G ops (i + 1) (hadd dr (i, k, H, H1) hist) l H1 Q) : WU dr P G ops i hist l H Q := match dr, hk, h with
 | true, hk, h => by
  obtain ⟨l', H', h1, h2⟩ := h
  exact ⟨l', H', .step i o hist _ H k v H1 _ H' ho (hg.st hs) (hk rfl) (by rw [hd]; exact h1), h2⟩
 | false, hk, h => by
  obtain ⟨l', H', h1, h2⟩ := h
  exact ⟨l', H', .step i o _ H k v H1 _ H' ho (hg.st hs) (by rw [hd]; exact h1), h2⟩
theorem U.box {e : TypeId} {x : Operand} {v : Value} {cs : List Value} (ho : ops[i]? = some o) (hd : o.dst = some d) (hg : GOk ops l o) (hop : o.op = .box e x) (hx : aev (fr l) x = v) (hv : v ≠ topV) (hc : v.cells.toList = cs)
  (hk : okU dr ops i (.alloc V.H.next) V.H (V.H.new (.cells 0 cs)) hist) (h : ∀ b V1, Nw V b V1 (.cells 0 cs) → WU dr P G ops (i + 1) (hadd dr (i, .alloc b, V.H, V1.H) hist) ((d, .pointer (some ⟨b, 0, none⟩)) :: l) V1.H Q) : WU dr P G ops i hist l V.H Q := U.k ho hd hg (S.box hop hx hv hc) hk (h _ (V.new _) ⟨rfl, rfl⟩)
theorem U.alloc {e : TypeId} {z : Value} {n m : Nat} {cs : List Value} (ho : ops[i]? = some o) (hd : o.dst = some d) (hg : GOk ops l o) (hop : o.op = .alloc e) (hi : tinfo P e z n m) (hz : constB z = true) (hc : z.cells.toList = cs)
  (hk : okU dr ops i (.alloc V.H.next) V.H (V.H.new (.cells n cs)) hist) (h : ∀ b V1, Nw V b V1 (.cells n cs) → WU dr P G ops (i + 1) (hadd dr (i, .alloc b, V.H, V1.H) hist) ((d, .pointer (some ⟨b, 0, none⟩)) :: l) V1.H Q) : WU dr P G ops i hist l V.H Q := U.k ho hd hg (S.alloc hop hi hz hc) hk (h _ (V.new _) ⟨rfl, rfl⟩)
theorem U.buildSlice {ty : TypeId} {len : Nat} {parts : Array (Nat × Operand)} {e : TypeId} {z : Value} {n m : Nat} {r : Array Value} {cs : List Value} (ho : ops[i]? = some o) (hd : o.dst = some d) (hg : GOk ops l o) (hop : o.op = .buildSlice ty len parts) (hu : P.underlying ty = some (.slice e)) (hi : tinfo P e z n m) (hz : constB z = true) (hs : z.cells.size = n) (hn : (n == 0) = false) (hlim : len * n ≤ 2 ^ 24)
  (ht : ∀ p ∈ parts.toList, aev (fr l) p.2 ≠ topV) (hr : Instr.fill (fun k => some (k * n, n)) ((Array.range (len * n)).map fun j => z.cells[j % z.cells.size]!) (parts.map fun (k, x) => (k, aev (fr l) x)).toList = some r) (hrs : r.size = len * n) (hc : r.toList = cs)
  (hk : okU dr ops i (.alloc V.H.next) V.H (V.H.new (.cells n cs)) hist) (h : ∀ b V1, Nw V b V1 (.cells n cs) → WU dr P G ops (i + 1) (hadd dr (i, .alloc b, V.H, V1.H) hist) ((d, .slice (some ⟨b, 0, none⟩) len n) :: l) V1.H Q) : WU dr P G ops i hist l V.H Q := U.k ho hd hg (S.buildSlice hop hu hi hz hs hn hlim ht hr hrs hc) hk (h _ (V.new _) ⟨rfl, rfl⟩)
theorem U.store {M : Nat → Prop} {ty : TypeId} {x y : Operand} {b off esz : Nat} {c cs : List Value} {v z : Value} {n m : Nat} (ho : ops[i]? = some o) (hd : o.dst = none) (hg : GOk ops l o) (hop : o.op = .store ty x y) (hx : aev (fr l) x = .pointer (some ⟨b, off, none⟩)) (hy : aev (fr l) y = v) (hi : tinfo P ty z n m)
  (ow : Own M V b (.cells esz c)) (hv : v ≠ topV) (hcs : v.cells.toList = cs) (hs : cs.length = n) (hb : off + n ≤ c.length) (h1 : cs.all One = true) {c' : List Value} (hc' : splice c off cs = c') (hk : okU dr ops i .eff V.H (V.H.upd b (some (.cells esz c'))) hist)
  (h : ∀ V1, St V b V1 (.cells esz c') → WU dr P G ops (i + 1) (hadd dr (i, .eff, V.H, V1.H) hist) l V1.H Q) : WU dr P G ops i hist l V.H Q := by
 subst hc'
 exact U.kn ho hd hg (S.store hop hx hy hi ow.get ow.lo hv hcs hs hb h1) hk (h (V.set b _) ⟨rfl⟩)
end
section
variable {α : Type} {M : Nat → Prop} {sz : Nat} {RE : Vw → List Value → α → Prop} {V V' : Vw} {ob : Option Nat} {v : Value} {xs : List α}
theorem OSl.cells (h : OSl M sz RE V ob v xs) : v.cells = #[v] := by
 rcases h with ⟨_, h1, _⟩ | ⟨b, cs, _, h1, _⟩ <;> subst h1 <;> rfl
end
theorem WP.loopV {P : Program} {G N : Nat} {σ : Type} (F : σ → List (Nat × Value)) (I : σ → Vw → Prop) (μ : σ → Nat) {c : Code} {Q : XQ}
  (round : ∀ s V, I s V → WP P G N c (sq (fun l H' => ∃ s' V', V'.H = H' ∧ I s' V' ∧ μ s' < μ s ∧ ∀ p ∈ F s', fr l p.1 = p.2) Q) (F s) V.H) (s : σ) (V : Vw) (h : I s V) (l : List (Nat × Value)) (hl : ∀ p ∈ F s, fr l p.1 = p.2) : WP P G N (.loop c) Q l V.H := by
 refine WP.loopI F (fun s H => ∃ V, V.H = H ∧ I s V) μ (fun s H ⟨V, hV, hI⟩ => ?_) s V.H ⟨V, rfl, h⟩ l hl
 subst hV
 refine (round s V hI).mono (fun e l H' hq => ?_)
 cases e with
 | normal => obtain ⟨s', V', h1, h2, h3, h4⟩ := hq; exact ⟨s', ⟨V', h1, h2⟩, h3, h4⟩
 | exit id => exact hq
 | ret => exact hq
theorem Cc.of {P : Program} {G : Nat} {g : FuncId} {args : Array Value} {V : Vw} {X : Nat → Prop} {fn : Func} {c : Code} {Post : Value → Vw → Prop} (hG : G ≤ V.H.lo) (h1 : P.funcs[g]? = some fn) (h2 : fn.body = some c) (h3 : args.size ≤ fn.ntmps)
  (h : WP P G fn.ntmps c (fin P fn (fun v H' => ∃ V', V'.H = H' ∧ Nx (fun b => V.H.next ≤ b ∨ X b) V V' ∧ Post v V')) (initL args) V.H) : Cc P G g args V X Post := by
 obtain ⟨v, H', h4, V', rfl, h5, h6⟩ := Cl.of (Post := fun v H' => ∃ V', V'.H = H' ∧ Nx (fun b => V.H.next ≤ b ∨ X b) V V' ∧ Post v V') hG h1 h2 h3 h
 exact ⟨v, V', h4, h5, h6⟩
theorem Nx.start {V : Vw} {X : Nat → Prop} : Nx (fun b => V.H.next ≤ b ∨ X b) V V := ⟨.refl V, fun _ _ h => h, fun _ _ _ => rfl, fun _ h => .inl h⟩
theorem fin.slot {P : Program} {fn : Func} {Post : Value → AH → Prop} {e : VX} {l : List (Nat × Value)} {H : AH} {s : Tmp} {v : Value} (he : e = .normal ∨ e = .ret) (hr : fn.results.toList = [.tmp s]) (hv : aev (fr l) (.tmp s) = v) (h : Post v H) : fin P fn Post e l H := by
 refine ⟨he, [v], ?_, h⟩
 rw [hr]
 subst hv
 exact .cons _ _ _ _ (.tmp s) .nil
theorem fin.cell {P : Program} {fn : Func} {Post : Value → AH → Prop} {e : VX} {l : List (Nat × Value)} {H : AH} {s : Tmp} {ty : TypeId} {b off : Nat} {d : TypeDesc} {v : Value} (he : e = .normal ∨ e = .ret) (hr : fn.results.toList = [.cell s ty]) (hx : aev (fr l) (.tmp s) = .pointer (some ⟨b, off, none⟩)) (hu : P.underlying ty = some d) (ha : isAggD d = false) (hc : H.cell b off = some v) (h : Post v H) : fin P fn Post e l H := by
 refine ⟨he, [v], ?_, h⟩
 rw [hr]
 exact .cons _ _ _ _ (.cell s ty b v (.load1 ty (.tmp s) b off d v rfl hx hu ha hc)) .nil
theorem fin.cellN {P : Program} {fn : Func} {Post : Value → AH → Prop} {e : VX} {l : List (Nat × Value)} {H : AH} {s : Tmp} {ty : TypeId} {b ez : Nat} {d : TypeDesc} {cs : List Value} {z : Value} {n m : Nat} (he : e = .normal ∨ e = .ret) (hr : fn.results.toList = [.cell s ty]) (hx : aev (fr l) (.tmp s) = .pointer (some ⟨b, 0, none⟩)) (hu : P.underlying ty = some d) (ha : isAggD d = true)
  (hi : tinfo P ty z n m) (hg : H.get b = some (.cells ez cs)) (hl : cs.length = n) (h : Post (.agg cs.toArray) H) : fin P fn Post e l H := by
 obtain ⟨i, h1, h2, h3, h4⟩ := tinfo_get hi
 refine ⟨he, [.agg cs.toArray], ?_, h⟩
 rw [hr]
 exact .cons _ _ _ _ (.cell s ty b _ (.loadN ty (.tmp s) b 0 d cs i rfl hx hu ha h1 (by omega) (fun j v hj => by rw [Nat.zero_add]; exact S.cellB hg hj))) .nil
theorem fin.slots {P : Program} {fn : Func} {Post : Value → AH → Prop} {e : VX} {l : List (Nat × Value)} {H : AH} {ss : List Tmp} {vs : List Value} (he : e = .normal ∨ e = .ret) (hr : fn.results.toList = ss.map .tmp) (hv : ss.map (fr l) = vs) (h : Post (resV vs) H) : fin P fn Post e l H := by
 refine ⟨he, vs, ?_, h⟩
 rw [hr]
 subst hv
 clear h hr
 induction ss with
 | nil => exact .nil
 | cons s ss ih => exact .cons _ _ _ _ (.tmp s) ih
end Go.Vm
namespace Go.Vm
open Go
theorem Vw.le.cell {V V' : Vw} (h : V.le V') {b o : Nat} {u : Value} (hf : V.F b) (hc : V.H.cell b o = some u) : V'.H.cell b o = some u := (cell_congr (h.get b hf)).trans hc
section
variable {P : Program} {G N : Nat} {dr : Bool} {ops : Array Oper} {i : Nat} {hist : Hist} {l : List (Nat × Value)} {V : Vw} {Q : LQ} {o : Oper} {d : Tmp}
theorem aN : ([] : List Operand).map (aev (fr l)) = [] := rfl
theorem aC {x : Operand} {v : Value} {xs : List Operand} {vs : List Value} (h : aev (fr l) x = v) (hr : xs.map (aev (fr l)) = vs) : (x :: xs).map (aev (fr l)) = v :: vs := by rw [List.map_cons, h, hr]
end
theorem WP.loopE {P : Program} {G N : Nat} (I : Nat → List (Nat × Value) → Vw → Prop) {c : Code} {Q : XQ}
  (round : ∀ n l V, I n l V → WP P G N c (sq (fun l' H' => ∃ n' l2 V', V'.H = H' ∧ I n' l2 V' ∧ n' < n ∧ ∀ p ∈ l2, fr l' p.1 = p.2) Q) l V.H) (n : Nat) (l0 : List (Nat × Value)) (V : Vw) (h : I n l0 V) (l : List (Nat × Value)) (hl : ∀ p ∈ l0, fr l p.1 = p.2) : WP P G N (.loop c) Q l V.H := by
 refine WP.loopV (σ := Nat × List (Nat × Value)) (fun s => s.2) (fun s V => I s.1 s.2 V) (fun s => s.1) (fun s V hI => ?_) (n, l0) V h l hl
 refine (round s.1 s.2 V hI).mono (fun e l H' hq => ?_)
 cases e with
 | normal => obtain ⟨n', l2, V', h1, h2, h3, h4⟩ := hq; exact ⟨(n', l2), V', h1, h2, h3, h4⟩
 | exit id => exact hq
 | ret => exact hq
end Go.Vm
namespace Go.Vm
open Go
def placesAre (P : Program) (ty : TypeId) (pl : Array (Nat × Nat)) : Prop := ∃ fields, P.underlying ty = some (.struct fields) ∧ placesOf P fields = some pl
theorem S.build {P : Program} {C : CallRel} {o : Oper} {t : T} {H : AH} {ty : TypeId} {parts : Array (Nat × Operand)} {z : Value} {n m : Nat} {pl : Array (Nat × Nat)} {vs : List Value} {r : Array Value} (ho : o.op = .build ty parts) (hi : tinfo P ty z n m) (hz : constB z = true) (hp : placesAre P ty pl)
  (hv : (parts.toList.map (·.2)).map (aev t) = vs) (ht : ∀ v ∈ vs, v ≠ topV) (hr : Instr.fill (pl[·]?) z.cells ((parts.toList.map (·.1)).zip vs) = some r) : Step P C o t H .pure (.agg r) H := by
 obtain ⟨fields, hu, hp⟩ := hp
 obtain ⟨i, h1, h2, h3, h4⟩ := tinfo_get hi
 refine .b _ (.buildS ty parts fields i z pl r ho hu h1 h2 hz hp (fun p hp' => ?_) ?_)
 ·refine ht _ ?_
  rw [← hv, List.map_map]
  exact List.mem_map_of_mem (f := (aev t) ∘ (·.2)) (Array.mem_toList_iff.2 hp')
 ·rw [← hr, ← hv]
  congr 1
  rw [Array.toList_map]
  generalize parts.toList = l
  induction l with
  | nil => rfl
  | cons p l ih => simp only [List.map_cons, List.zip_cons_cons, ih]
theorem allN {p : Value → Prop} : ∀ v ∈ ([] : List Value), p v := fun v h => by cases h
theorem allC {p : Value → Prop} {v : Value} {vs : List Value} (h : p v) (hr : ∀ v ∈ vs, p v) : ∀ u ∈ v :: vs, p u := fun u hu => by
 cases hu with
 | head => exact h
 | tail _ hu => exact hr u hu
end Go.Vm
namespace Go.Vm
open Go
theorem S.buildA {P : Program} {C : CallRel} {o : Oper} {t : T} {H : AH} {ty : TypeId} {parts : Array (Nat × Operand)} {z ze : Value} {n m k q me : Nat} {e : TypeId} {vs : List Value} {r : Array Value} (ho : o.op = .build ty parts) (hi : tinfo P ty z n m) (hz : constB z = true) (hu : P.underlying ty = some (.array k e)) (he : tinfo P e ze q me)
  (hv : (parts.toList.map (·.2)).map (aev t) = vs) (ht : ∀ v ∈ vs, v ≠ topV) (hr : Instr.fill (fun k => some (k * q, q)) z.cells ((parts.toList.map (·.1)).zip vs) = some r) : Step P C o t H .pure (.agg r) H := by
 obtain ⟨i, h1, h2, h3, h4⟩ := tinfo_get hi
 obtain ⟨ie, h5, h6, h7, h8⟩ := tinfo_get he
 subst h7
 refine .b _ (.buildA ty parts k e i ie z r ho hu h1 h2 hz h5 (fun p hp' => ?_) ?_)
 ·refine ht _ ?_
  rw [← hv, List.map_map]
  exact List.mem_map_of_mem (f := (aev t) ∘ (·.2)) (Array.mem_toList_iff.2 hp')
 ·rw [← hr, ← hv]
  congr 1
  rw [Array.toList_map]
  generalize parts.toList = l
  induction l with
  | nil => rfl
  | cons p l ih => simp only [List.map_cons, List.zip_cons_cons, ih]
theorem fill1 {place : Nat → Option (Nat × Nat)} {cells : Array Value} {i off : Nat} {v : Value} {rest : List (Nat × Value)} {r : Option (Array Value)} (hp : place i = some (off, 1)) (hc : v.cells = #[v]) (hs : off < cells.size) (h : Instr.fill place (cells.setIfInBounds off v) rest = r) : Instr.fill place cells ((i, v) :: rest) = r := by
 unfold Instr.fill
 rw [hp]
 simp only [hc]
 rw [if_neg (by simp; omega)]
 simpa using h
end Go.Vm
namespace Go.Vm
open Go
theorem fsN {l : List (Nat × Value)} : ([] : List Tmp).map (fr l) = [] := rfl
theorem fsC {l : List (Nat × Value)} {s : Tmp} {ss : List Tmp} {v : Value} {vs : List Value} (h : aev (fr l) (.tmp s) = v) (hr : ss.map (fr l) = vs) : (s :: ss).map (fr l) = v :: vs := by
 rw [List.map_cons, hr]
 exact congrArg (· :: vs) h
theorem fin.slots' {P : Program} {fn : Func} {Post : Value → AH → Prop} {e : VX} {l : List (Nat × Value)} {H : AH} {ss : List Tmp} {vs : List Value} (he : e = .normal ∨ e = .ret) (hv : ss.map (fr l) = vs) (hr : fn.results.toList = ss.map .tmp) (h : Post (resV vs) H) : fin P fn Post e l H := fin.slots he hr hv h
end Go.Vm
namespace Go.Vm
open Go
section
variable {K : LQ} {Q : XQ} {l : List (Nat × Value)} {H : AH} {i j : Nat}
theorem sqN (h : K l H) : sq K Q .normal l H := h
theorem sqR (h : Q .ret l H) : sq K Q .ret l H := h
theorem sqE (h : Q (.exit i) l H) : sq K Q (.exit i) l H := h
theorem blkN (h : Q .normal l H) : blk i Q .normal l H := h
theorem blkR (h : Q .ret l H) : blk i Q .ret l H := h
theorem blkE (h : Q .normal l H) : blk i Q (.exit i) l H := by unfold blk; rw [if_pos rfl]; exact h
theorem blkO (hn : (j == i) = false) (h : Q (.exit j) l H) : blk i Q (.exit j) l H := by
 unfold blk
 rw [if_neg (fun e => by cases e; simp at hn)]
 exact h
end
end Go.Vm
namespace Go.Vm
open Go
end Go.Vm
namespace Go.Vm
open Go
namespace S
variable {P : Program} {C : CallRel} {o : Oper} {t : T} {H : AH}
theorem minI {x y : Operand} {ty ty' : TypeId} {a b : Int} {k : IntKind} (ho : o.op = .call { callee := .builtin .min, args := #[x, y], argTypes := #[ty, ty'] }) (hx : aev t x = .int k a) (hy : aev t y = .int k b) : Step P C o t H .pure (.int k (min a b)) H := by
 refine .p _ (.flat _ (fun z hz => ?_) (fun cs b => by rw [ho]; simp) (.atom _ (.int _ _)) (fun w => ?_))
 ·rw [ho] at hz
  simp [Op.operands, Call.operands] at hz
  rcases hz with rfl | rfl
  ·rw [hx]; exact .atom _ (.int _ _)
  ·rw [hy]; exact .atom _ (.int _ _)
 ·simp [execOp, ho, hx, hy, resolve, invoke, builtin, Builtin.min_, Builtin.min2]
  split <;> omega
theorem eqIn_nil {ty e : TypeId} (hu : P.underlying ty = some (.slice e)) (d : Nat) (w : World) : (Op.equalIn (d + 1) ty (.slice none 0 0) (.slice none 0 0)).run P w = .ok true w := by
 simp [Op.equalIn, run_und hu]
theorem nilNil {x y : Operand} {ty u e : TypeId} (ho : o.op = .binOp .eql ty x y u) (hx : aev t x = .slice none 0 0) (hy : aev t y = .slice none 0 0) (hu : P.underlying ty = some (.slice e)) : Step P C o t H .pure (.bool true) H := by
 refine flat2 ho hx hy (.atom _ .nilSlice) (.atom _ .nilSlice) (.atom _ (.bool _)) (fun w => ?_) (fun w => ?_)
 ·simp only [binOp]; simp [Op.equal, Op.maxDepth, eqIn_nil hu 9999]
 ·simp [eqGuard]
end S
def isNil : Value → Bool
 | .slice none _ _ => true
 | _ => false
end Go.Vm
namespace Go.Vm
open Go
section
variable {α : Type} {M : Nat → Prop} {sz : Nat} {RE : Vw → List Value → α → Prop} {V : Vw} {ob : Option Nat} {v : Value} {xs : List α}
theorem OSl.at (hm : Ty sz RE) (h : OSl M sz RE V ob v xs) {i : Nat} {x : α} (hx : xs[i]? = some x) :
  ∃ b r, v = .slice (some ⟨b, 0, none⟩) xs.length sz ∧ ob = some b ∧ b < V.H.next ∧ RE V r x ∧ ∀ (j : Nat) (u : Value), r[j]? = some u → V.H.cell b (0 + i * sz + j) = some u := by
 rcases h with ⟨_, h1, h2⟩ | ⟨b, cs, h0, h1, h2, h3, h4⟩
 ·subst h2; simp at hx
 ·obtain ⟨r, h5, h6⟩ := h3.at hm hx
  exact ⟨b, r, h1, h0, h2.lt, h5, fun j u hj => by rw [Nat.zero_add]; exact h2.cell (h6 j u hj)⟩
theorem Rows.set (hm : Ty sz RE) {cs : List Value} (h : Rows RE V cs xs) : ∀ {i k : Nat} {x y : α} {new : List Value}, xs[i]? = some x → (∀ r, RE V r x → k + new.length ≤ r.length ∧ RE V (splice r k new) y) → Rows RE V (splice cs (i * sz + k) new) (xs.set i y) := by
 induction h with
 | nil => intro i k x y new hx; simp at hx
 | cons r cs z zs h h' ih =>
  intro i k x y new hx hn
  have hl := hm.len _ _ _ h
  cases i with
  | zero =>
   simp at hx
   subst hx
   obtain ⟨h1, h2⟩ := hn r h
   have : splice (r ++ cs) (0 * sz + k) new = splice r k new ++ cs := by
    unfold splice
    rw [Nat.zero_mul, Nat.zero_add, List.take_append_of_le_length (by omega), List.drop_append_of_le_length (by omega)]
    simp
   rw [this]
   exact .cons _ _ _ _ h2 h'
  | succ i =>
   have : splice (r ++ cs) ((i + 1) * sz + k) new = r ++ splice cs (i * sz + k) new := by
    unfold splice
    have e1 : (i + 1) * sz + k = r.length + (i * sz + k) := by rw [hl, Nat.add_mul]; omega
    rw [e1, List.take_length_add_append, Nat.add_assoc, List.drop_length_add_append]
    simp
   rw [this]
   exact .cons _ _ _ _ h (ih (by simpa using hx) hn)
end
end Go.Vm
namespace Go.Vm
open Go
end Go.Vm
namespace Go.Vm
open Go
end Go.Vm
namespace Go.Vm
open Go
end Go.Vm
namespace Go.Vm
open Go
theorem upd_same {H : AH} {b r : Nat} {x : Option AObj} (h : r ≠ b) : (H.upd b x).get r = H.get r := by simp [AH.upd, h]
end Go.Vm
