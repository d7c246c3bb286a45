/-
  Part of an evaluator for the model, proved sound: no condition.
-/
import Derived.Test.YtngmbcedamphmaaEVm17
set_option linter.unusedSimpArgs false
set_option linter.unusedVariables false
namespace Go.Vm
open Go
abbrev Hist := List (Nat × Kind × AH × AH)
def okP (ops : Array Oper) (i : Nat) (k : Kind) (H H1 : AH) (x : Nat × Kind × AH × AH) : Prop :=
 match k, x with
 | .read r, (e, .eff, He, He1) => depB ops e i = true ∨ He1.look r = He.look r ∨ He.next ≤ r.b
 | .eff, (e, .read r, _, _) => depB ops e i = true ∨ H1.look r = H.look r
 | .eff, (e, .alloc b, _, _) => depB ops e i = true ∨ H1.get b = H.get b
 | .eff, (e, .eff, _, _) => depB ops e i = true
 | _, _ => True
def okH (ops : Array Oper) (i : Nat) (k : Kind) (H H1 : AH) (hist : Hist) : Prop := (∀ r, k = .read r → r.b < H.next) ∧ ∀ x ∈ hist, okP ops i k H H1 x
inductive DRun (P : Program) (C : CallRel) (ops : Array Oper) : Nat → Hist → T → AH → T → AH → Prop
 | done (i : Nat) (hist : Hist) (t : T) (H : AH) (h : ops.size ≤ i) : DRun P C ops i hist t H t H
 | pure (i : Nat) (o : Oper) (hist : Hist) (t : T) (H : AH) (v : Value) (H1 : AH) (t' : T) (H' : AH) (ho : ops[i]? = some o) (hs : StepG P C ops o t H .pure v H1)
   (h : DRun P C ops (i + 1) hist (put t o.dst v) H1 t' H') : DRun P C ops i hist t H t' H'
 | step (i : Nat) (o : Oper) (hist : Hist) (t : T) (H : AH) (k : Kind) (v : Value) (H1 : AH) (t' : T) (H' : AH) (ho : ops[i]? = some o) (hs : StepG P C ops o t H k v H1) (hk : okH ops i k H H1 hist)
   (h : DRun P C ops (i + 1) ((i, k, H, H1) :: hist) (put t o.dst v) H1 t' H') : DRun P C ops i hist t H t' H'
structure PT (P : Program) (C : CallRel) (ops : Array Oper) (t0 : T) (H0 : AH) (n : Nat) (Hf : Nat → AH) (tf : Nat → T) (kf : Nat → Kind) (vf : Nat → Value) : Prop where
 h0 : Hf 0 = H0
 t0 : tf 0 = t0
 step : ∀ i o, i < n → ops[i]? = some o → StepG P C ops o (tf i) (Hf i) (kf i) (vf i) (Hf (i + 1)) ∧ tf (i + 1) = put (tf i) o.dst (vf i)
 d1 : ∀ j r e, j < n → e < n → kf j = .read r → kf e = .eff → depB ops e j = false → depB ops j e = false → r.b < (Hf e).next → (Hf (e + 1)).look r = (Hf e).look r
 d2 : ∀ i b e, i < e → e < n → kf i = .alloc b → kf e = .eff → depB ops i e = false → (Hf (e + 1)).get b = (Hf e).get b
 rd : ∀ j r, j < n → kf j = .read r → r.b < (Hf j).next
 s2 : ∀ i j, i < j → j < n → kf i = .eff → kf j = .eff → depB ops i j = true
theorem PT.more {P : Program} {C : CallRel} {ops : Array Oper} {t0 : T} {H0 : AH} {n : Nat} {Hf : Nat → AH} {tf : Nat → T} {kf : Nat → Kind} {vf : Nat → Value} (h : PT P C ops t0 H0 n Hf tf kf vf) {o : Oper} {k : Kind} {v : Value} {H1 : AH} (ho : ops[n]? = some o) (hs : StepG P C ops o (tf n) (Hf n) k v H1)
  (hr : ∀ r, k = .read r → r.b < (Hf n).next) (hk : ∀ j, j < n → okP ops n k (Hf n) H1 (j, kf j, Hf j, Hf (j + 1))) :
  ∃ Hf' tf' kf' vf', PT P C ops t0 H0 (n + 1) Hf' tf' kf' vf' ∧ (∀ i, i ≤ n → Hf' i = Hf i ∧ tf' i = tf i) ∧ (∀ i, i < n → kf' i = kf i) ∧ kf' n = k ∧ Hf' (n + 1) = H1 ∧ tf' (n + 1) = put (tf n) o.dst v := by
 have hn : ∀ i, i ≤ n → i ≠ n + 1 := fun i hi => by omega
 refine ⟨fun i => if i = n + 1 then H1 else Hf i, fun i => if i = n + 1 then put (tf n) o.dst v else tf i, fun i => if i = n then k else kf i, fun i => if i = n then v else vf i,
  ⟨by simp [h.h0], by simp [h.t0], ?_, ?_, ?_, ?_, ?_⟩, fun i hi => by simp [hn i hi], fun i hi => by simp [show i ≠ n by omega], by simp, by simp, by simp⟩
 ·intro i o' hi ho'
  by_cases hin : i = n
  ·subst hin
   rw [ho] at ho'
   cases ho'
   simpa using hs
  ·have := h.step i o' (by omega) ho'
   simpa [hin, show i ≠ n + 1 by omega] using this
 ·intro j r e hj he h1 h2 h3 h4 hlt
  try simp only at h1 h2 hlt ⊢
  rw [if_neg (show e ≠ n + 1 by omega)] at hlt
  by_cases hen : e = n
  ·subst hen
   rw [if_pos rfl] at h2
   subst h2
   by_cases hje : j = e
   ·subst hje
    rw [if_pos rfl] at h1
    cases h1
   ·rw [if_neg hje] at h1
    have := hk j (by omega)
    rw [h1] at this
    rcases this with h5 | h5
    ·rw [h5] at h4; cases h4
    ·rw [if_pos rfl, if_neg (by omega)]; exact h5
  ·rw [if_neg hen] at h2
   rw [if_neg (by omega), if_neg (by omega)]
   by_cases hjn : j = n
   ·subst hjn
    rw [if_pos rfl] at h1
    subst h1
    have := hk e (by omega)
    rw [h2] at this
    rcases this with h5 | h5 | h5
    ·rw [h5] at h3; cases h3
    ·exact h5
    ·exact absurd hlt (Nat.not_lt_of_le h5)
   ·rw [if_neg hjn] at h1
    exact h.d1 j r e (by omega) (by omega) h1 h2 h3 h4 hlt
 ·intro i b e hie he h1 h2 h3
  try simp only at h1 h2 ⊢
  rw [if_neg (show i ≠ n by omega)] at h1
  by_cases hen : e = n
  ·subst hen
   rw [if_pos rfl] at h2
   subst h2
   have := hk i (by omega)
   rw [h1] at this
   rcases this with h5 | h5
   ·rw [h5] at h3; cases h3
   ·rw [if_pos rfl, if_neg (by omega)]; exact h5
  ·rw [if_neg hen] at h2
   rw [if_neg (by omega), if_neg (by omega)]
   exact h.d2 i b e hie (by omega) h1 h2 h3
 ·intro j r hj h1
  try simp only at h1 ⊢
  rw [if_neg (by omega)]
  by_cases hjn : j = n
  ·subst hjn
   rw [if_pos rfl] at h1
   exact hr r h1
  ·rw [if_neg hjn] at h1
   exact h.rd j r (by omega) h1
 ·intro i j hij hj h1 h2
  try simp only at h1 h2
  rw [if_neg (show i ≠ n by omega)] at h1
  by_cases hjn : j = n
  ·subst hjn
   rw [if_pos rfl] at h2
   subst h2
   have := hk i (by omega)
   rw [h1] at this
   exact this
  ·rw [if_neg hjn] at h2
   exact h.s2 i j hij (by omega) h1 h2
def HistOk (n : Nat) (Hf : Nat → AH) (kf : Nat → Kind) (hist : Hist) : Prop := ∀ j, j < n → kf j = .pure ∨ (j, kf j, Hf j, Hf (j + 1)) ∈ hist
theorem DRun.trace {P : Program} {C : CallRel} {ops : Array Oper} {i : Nat} {hist : Hist} {t : T} {H : AH} {t' : T} {H' : AH} (h : DRun P C ops i hist t H t' H') : ∀ {t0 : T} {H0 : AH} {Hf : Nat → AH} {tf : Nat → T} {kf : Nat → Kind} {vf : Nat → Value}, i ≤ ops.size → PT P C ops t0 H0 i Hf tf kf vf → HistOk i Hf kf hist → Hf i = H → tf i = t →
  ∃ Hf' tf' kf' vf', Trace P C ops t0 H0 Hf' tf' kf' vf' ∧ Hf' ops.size = H' ∧ tf' ops.size = t' := by
 have stepc : ∀ {i : Nat} {o : Oper} {hist hist' : Hist} {t : T} {H : AH} {k : Kind} {v : Value} {H1 : AH} {t' : T} {H' : AH}, ops[i]? = some o → StepG P C ops o t H k v H1 → okH ops i k H H1 hist → (k = .pure ∧ hist' = hist ∨ hist' = (i, k, H, H1) :: hist) →
   (∀ {t0 : T} {H0 : AH} {Hf : Nat → AH} {tf : Nat → T} {kf : Nat → Kind} {vf : Nat → Value}, i + 1 ≤ ops.size → PT P C ops t0 H0 (i + 1) Hf tf kf vf → HistOk (i + 1) Hf kf hist' → Hf (i + 1) = H1 → tf (i + 1) = put t o.dst v → ∃ Hf' tf' kf' vf', Trace P C ops t0 H0 Hf' tf' kf' vf' ∧ Hf' ops.size = H' ∧ tf' ops.size = t') →
   ∀ {t0 : T} {H0 : AH} {Hf : Nat → AH} {tf : Nat → T} {kf : Nat → Kind} {vf : Nat → Value}, i ≤ ops.size → PT P C ops t0 H0 i Hf tf kf vf → HistOk i Hf kf hist → Hf i = H → tf i = t → ∃ Hf' tf' kf' vf', Trace P C ops t0 H0 Hf' tf' kf' vf' ∧ Hf' ops.size = H' ∧ tf' ops.size = t' := by
  intro i o hist hist' t H k v H1 t' H' ho hs hk hh ih t0 H0 Hf tf kf vf hi hp hist0 h1 h2
  subst h1 h2
  obtain ⟨Hf', tf', kf', vf', q1, q2, q3, q4, q5, q6⟩ := hp.more ho hs hk.1 (fun j hj => by
   rcases hist0 j hj with h3 | h3
   ·rw [h3]
    unfold okP
    cases k <;> trivial
   ·exact hk.2 _ h3)
  refine ih ((Array.getElem?_eq_some_iff.1 ho).1) q1 (fun j hj => ?_) q5 q6
  by_cases hji : j = i
  ·subst hji
   rcases hh with ⟨hh, _⟩ | hh
   ·exact .inl (q4.trans hh)
   ·right
    rw [hh, q4, (q2 j (Nat.le_refl _)).1, q5]
    exact List.mem_cons_self
  ·rw [q3 j (by omega), (q2 j (by omega)).1, (q2 (j + 1) (by omega)).1]
   rcases hist0 j (by omega) with h3 | h3
   ·exact .inl h3
   ·right
    rcases hh with ⟨_, hh⟩ | hh
    ·rw [hh]; exact h3
    ·rw [hh]; exact List.mem_cons_of_mem _ h3
 induction h with
 | done i hist t H h =>
  intro t0 H0 Hf tf kf vf hi hp _ h1 h2
  have : i = ops.size := by omega
  subst this
  have lt : ∀ {i : Nat} {o : Oper}, ops[i]? = some o → i < ops.size := fun ho => (Array.getElem?_eq_some_iff.1 ho).1
  exact ⟨Hf, tf, kf, vf, ⟨hp.h0, hp.t0, fun i o ho => hp.step i o (lt ho) ho, hp.d1, hp.d2, hp.rd, hp.s2⟩, h1, h2⟩
 | pure i o hist t H v H1 t' H' ho hs h ih => exact stepc ho hs ⟨fun r h => by (cases h), fun x _ => by unfold okP; trivial⟩ (.inl ⟨rfl, rfl⟩) ih
 | step i o hist t H k v H1 t' H' ho hs hk h ih => exact stepc ho hs hk (.inr rfl) ih
section
variable {P : Program} {G N : Nat}
def WD (P : Program) (G : Nat) (ops : Array Oper) (i : Nat) (hist : Hist) (l : List (Nat × Value)) (H : AH) (Q : LQ) : Prop := ∃ l' H', DRun P (Cl P G) ops i hist (fr l) H (fr l') H' ∧ Q l' H'
theorem WP.dreg {id : Nat} {ops : Array Oper} {Q : XQ} {l : List (Nat × Value)} {H : AH} (hok : okOps G N ops = true) (hed : edgesOk ops = true) (hap : apartOk ops = true) (h : WD P G ops 0 [] l H (Q .normal)) : WP P G N (.region id ops true) Q l H := by
 obtain ⟨l', H', h1, h2⟩ := h
 obtain ⟨Hf, tf, kf, vf, h3, h4, h5⟩ := h1.trace (t0 := fr l) (H0 := H) (Hf := fun _ => H) (tf := fun _ => fr l) (kf := fun _ => .pure) (vf := fun _ => undef) (Nat.zero_le _)
  ⟨rfl, rfl, fun i o hi => by omega, fun j r e hj => by omega, fun i b e _ he => by omega, fun j r hj => by omega, fun i j _ hj => by omega⟩ (fun j hj => by omega) rfl rfl
 subst h4
 exact ⟨.normal, l', _, h5 ▸ .draw id ops _ H Hf tf kf vf hok hed hap h3, h2⟩
theorem WP.sdreg {id : Nat} {ops : Array Oper} {b : Code} {Q : XQ} {l : List (Nat × Value)} {H : AH} (hok : okOps G N ops = true) (hed : edgesOk ops = true) (hap : apartOk ops = true) (h : WD P G ops 0 [] l H (WP P G N b Q)) : WP P G N (.seq (.region id ops true) b) Q l H := WP.seq (WP.dreg hok hed hap h)
variable {ops : Array Oper} {i : Nat} {hist : Hist} {l : List (Nat × Value)} {H : AH} {Q : LQ} {o : Oper} {d : Tmp}
theorem WD.done (h : ops.size ≤ i) (hq : Q l H) : WD P G ops i hist l H Q := ⟨l, H, .done i hist _ H h, hq⟩
theorem WD.g {v : Value} {H1 : AH} (ho : ops[i]? = some o) (hd : o.dst = some d) (hs : StepG P (Cl P G) ops o (fr l) H .pure v H1) (h : WD P G ops (i + 1) hist ((d, v) :: l) H1 Q) : WD P G ops i hist l H Q := by
 obtain ⟨l', H', h1, h2⟩ := h
 exact ⟨l', H', .pure i o hist _ H v H1 _ H' ho hs (by rw [hd, fr_put]; exact h1), h2⟩
theorem WD.s {v : Value} {H1 : AH} (ho : ops[i]? = some o) (hd : o.dst = some d) (hg : o.guard = none) (hs : Step P (Cl P G) o (fr l) H .pure v H1) (h : WD P G ops (i + 1) hist ((d, v) :: l) H1 Q) : WD P G ops i hist l H Q := WD.g ho hd (.plain .pure v H1 hg hs) h
theorem WD.n {v : Value} {H1 : AH} (ho : ops[i]? = some o) (hd : o.dst = none) (hg : o.guard = none) (hs : Step P (Cl P G) o (fr l) H .pure v H1) (h : WD P G ops (i + 1) hist l H1 Q) : WD P G ops i hist l H Q := by
 obtain ⟨l', H', h1, h2⟩ := h
 exact ⟨l', H', .pure i o hist _ H v H1 _ H' ho (.plain .pure v H1 hg hs) (by rw [hd]; exact h1), h2⟩
theorem WD.k {k : Kind} {v : Value} {H1 : AH} (ho : ops[i]? = some o) (hd : o.dst = some d) (hg : o.guard = none) (hs : Step P (Cl P G) o (fr l) H k v H1) (hk : okH ops i k H H1 hist) (h : WD P G ops (i + 1) ((i, k, H, H1) :: hist) ((d, v) :: l) H1 Q) : WD P G ops i hist l H Q := by
 obtain ⟨l', H', h1, h2⟩ := h
 exact ⟨l', H', .step i o hist _ H k v H1 _ H' ho (.plain k v H1 hg hs) hk (by rw [hd, fr_put]; exact h1), h2⟩
theorem okH.nil {k : Kind} {H1 : AH} (h : ∀ r, k = .read r → r.b < H.next) : okH ops i k H H1 [] := ⟨h, fun x hx => nomatch hx⟩
theorem okH.cons {k : Kind} {H1 : AH} {x : Nat × Kind × AH × AH} (hx : okP ops i k H H1 x) (h : okH ops i k H H1 hist) : okH ops i k H H1 (x :: hist) := ⟨h.1, fun y hy => by
 cases hy with
 | head => exact hx
 | tail _ hy => exact h.2 y hy⟩
end
end Go.Vm
