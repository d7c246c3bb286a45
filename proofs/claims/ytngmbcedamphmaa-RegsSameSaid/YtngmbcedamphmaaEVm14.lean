/-
  Part of an evaluator for the model, proved sound: no condition.
-/
import Derived.Test.YtngmbcedamphmaaEVm13
set_option linter.unusedSimpArgs false
set_option linter.unusedVariables false
namespace Go.Vm
open Go
def initT (args : Array Value) : T := fun i => args.getD i undef
inductive ResOne (P : Program) (t : T) (H : AH) : ResultVar → Value → Prop
 | tmp (s : Tmp) : ResOne P t H (.tmp s) (t s)
 | cell (s : Tmp) (ty : TypeId) (b : Nat) (v : Value) (h : LOp P (aev t) H { (default : Oper) with op := .load ty (.tmp s) } b v) : ResOne P t H (.cell s ty) v
inductive ResAll (P : Program) (t : T) (H : AH) : List ResultVar → List Value → Prop
 | nil : ResAll P t H [] []
 | cons (r : ResultVar) (v : Value) (rs : List ResultVar) (vs : List Value) (h : ResOne P t H r v) (h' : ResAll P t H rs vs) : ResAll P t H (r :: rs) (v :: vs)
def resV : List Value → Value
 | [v] => v
 | vs => .tuple vs.toArray
def resSem (tmps : Array Value) : ResultVar → Sem Value
 | .tmp t => pure (tmps.getD t undef)
 | .cell s ty => do loadVar ty (← asAddr (tmps.getD s undef))
theorem results_eq (fn : Func) (tmps : Array Value) : results fn tmps = (do let vs ← fn.results.mapM (resSem tmps); pure (if h : vs.size = 1 then vs[0] else .tuple vs)) := by
 unfold results
 congr 1
theorem ResOne.sim {P : Program} {t : T} {H : AH} {r : ResultVar} {v : Value} {ι : Inj} {a : Act} {w : World} (h : ResOne P t H r v) (hr : R ι H w) (hf : FR H.lo ι t a) :
  ∃ u, VR H.lo ι v u ∧ (resSem a.tmps r).run P w = .ok u w := by
 cases h with
 | tmp s => exact ⟨_, hf s, rfl⟩
 | cell s ty b v h =>
  obtain ⟨u, h1, h2⟩ := h.sim (σ := a.eval) hr (fun x hx => by
   simp [Op.operands] at hx
   subst hx
   exact hf s)
  refine ⟨u, h1, ?_⟩
  have h3 : ∃ a', a.tmps.getD s undef = .pointer (some a') := by
   cases h with
   | load1 t' x b' off d v' ho hx hu ha hc =>
    cases ho
    have := hf s
    simp only [aev] at hx
    rw [hx] at this
    exact this.ptr_some
   | loadN t' x b' off d cs i ho hx hu ha hi hl hc =>
    cases ho
    have := hf s
    simp only [aev] at hx
    rw [hx] at this
    exact this.ptr_some
   | lookup t kt e x y b es k i z ok ho => cases ho
   | lenM t kt e x b es ho => cases ho
   | str t t' e x b off c bs ho => cases ho
  obtain ⟨a', h3⟩ := h3
  simp only [execOp, Act.eval, h3, Instr.loadAt, Instr.sureAddr, Sem.run_bind, Sem.run_pure, Result.andThen_ok] at h2
  simp only [resSem, h3, asAddr, Sem.run_bind, Sem.run_pure, Result.andThen_ok]
  cases hl : (loadVar ty a').run P w with
  | ok x w' =>
   rw [hl] at h2
   simp only [Result.andThen_ok] at h2
   injection h2 with h4 h5
   injection h4 with h4
   rw [h4, h5]
  | halt x w' =>
   rw [hl] at h2
   simp at h2
theorem ResAll.sim {P : Program} {t : T} {H : AH} {rs : List ResultVar} {vs : List Value} {ι : Inj} {a : Act} {w : World} (h : ResAll P t H rs vs) (hr : R ι H w) (hf : FR H.lo ι t a) :
  ∃ us : List Value, us.length = vs.length ∧ (∀ (i : Nat) (x y : Value), vs[i]? = some x → us[i]? = some y → VR H.lo ι x y) ∧ (rs.mapM (resSem a.tmps)).run P w = .ok us w := by
 induction h with
 | nil => exact ⟨[], rfl, fun i x y h => by simp at h, rfl⟩
 | cons r v rs vs h h' ih =>
  obtain ⟨us, h1, h2, h3⟩ := ih
  obtain ⟨u, h4, h5⟩ := h.sim hr hf
  refine ⟨u :: us, by simp [h1], fun i x y hx hy => ?_, ?_⟩
  ·cases i with
   | zero => simp at hx hy; subst hx; subst hy; exact h4
   | succ i => simp at hx hy; exact h2 i x y hx hy
  ·simp only [List.mapM_cons, Sem.run_bind, h5, Result.andThen_ok, h3, Sem.run_pure]
theorem ResAll.run {P : Program} {t : T} {H : AH} {fn : Func} {vs : List Value} {ι : Inj} {a : Act} {w : World} (h : ResAll P t H fn.results.toList vs) (hr : R ι H w) (hf : FR H.lo ι t a) :
  ∃ u, VR H.lo ι (resV vs) u ∧ (results fn a.tmps).run P w = .ok u w := by
 obtain ⟨us, h1, h2, h3⟩ := h.sim hr hf
 refine ⟨resV us, ?_, ?_⟩
 ·match vs, us, h1, h2 with
  | [], [], _, _ => exact .tuple _ _ rfl (fun i h1 _ => by simp at h1)
  | [v], [u], _, h2 => exact h2 0 v u rfl rfl
  | v :: v' :: vs, u :: u' :: us, h1, h2 =>
   refine .tuple _ _ (by simpa using h1.symm) (fun i h3 h4 => ?_)
   exact h2 i _ _ (by rw [List.getElem?_eq_getElem (by simpa using h3)]; rfl) (by rw [List.getElem?_eq_getElem (by simpa using h4)]; rfl)
 ·rw [results_eq, Array.mapM_eq_mapM_toList]
  simp only [Sem.run_bind, Sem.run_map, h3, Result.andThen_ok]
  match us with
  | [] => rfl
  | [u] => rfl
  | u :: u' :: us => simp [resV]
def Sd (P : Program) : CallRel := fun g args H v H' => (H.next ≤ H'.next ∧ H'.lo = H.lo) ∧ ∀ ι w cargs, R ι H w → VRs H.lo ι args cargs →
 Calls P g cargs w fun e w' => ∃ u ι', e = .returned u ∧ VR H.lo ι' v u ∧ After ι H H' w w' ι'
def ClN (P : Program) (G : Nat) : Nat → CallRel
 | 0 => Sd P
 | n + 1 => fun g args H v H' => Sd P g args H v H' ∨ G ≤ H.lo ∧ ∃ fn c e t vs, P.funcs[g]? = some fn ∧ fn.body = some c ∧ args.size ≤ fn.ntmps ∧ Ev P (ClN P G n) G fn.ntmps (.code c) (initT args) H e t H' ∧ (e = .normal ∨ e = .ret) ∧ ResAll P t H' fn.results.toList vs ∧ v = resV vs
theorem ClN.mono' (P : Program) (G : Nat) : ∀ n, CMono (ClN P G n)
 | 0 => fun g args H v H' h => h.1
 | n + 1 => fun g args H v H' h => by
  rcases h with h | h
  ·exact h.1
  obtain ⟨_, fn, c, e, t, vs, h1, h2, h3, h4, h5, h6, h7⟩ := h
  exact h4.mono (ClN.mono' P G n)
theorem ClN.snd (P : Program) (G : Nat) (hm : P.follows .mixedOrders = true) : ∀ n, Snd P (ClN P G n)
 | 0 => fun g args H v H' h => h.2
 | n + 1 => fun g args H v H' h ι w cargs hr ha => by
  rcases h with h | h
  ·exact h.2 ι w cargs hr ha
  obtain ⟨hG, fn, c, e, t, vs, h1, h2, h3, h4, h5, h6, h7⟩ := h
  have hl := (h4.mono (ClN.mono' P G n)).2
  have hf : FR H.lo ι (initT args) { tmps := cargs ++ Array.replicate (fn.ntmps - cargs.size) undef, defers := [] } := fun i => by
   unfold initT
   simp only [Array.getD_eq_getD_getElem?]
   by_cases hi : i < args.size
   ·rw [Array.getElem?_append_left (by have := ha.1; omega), Array.getElem?_eq_getElem hi, Array.getElem?_eq_getElem (by have := ha.1; omega)]
    exact ha.2 i hi _
   ·rw [Array.getElem?_eq_none (by omega)]
    have hu : VR H.lo ι undef undef := .tuple _ _ rfl (fun i h1 _ => by simp at h1)
    by_cases hi2 : i < fn.ntmps
    ·rw [Array.getElem?_append_right (by have := ha.1; omega)]
     rw [Array.getElem?_replicate]
     split <;> exact hu
    ·rw [Array.getElem?_eq_none (by simp; have := ha.1; omega)]
     exact hu
  refine calls_of_wp h1 h2 (h4.sim (ClN.snd P G hm n) (ClN.mono' P G n) hm hG hr hf (by simp; have := ha.1; omega) _ (fun a' w' ι' haf hf' hN' hd' => ?_))
  obtain ⟨u, h8, h9⟩ := h6.run (fn := fn) haf.2.1 (by rw [hl]; exact hf')
  rw [hl] at h8
  have hpost : a'.defers = [] ∧ ∃ v', (results fn a'.tmps).run P w' = .ok v' w' ∧ ∃ u ι', Ending.returned v' = .returned u ∧ VR H.lo ι' v u ∧ After ι H H' w w' ι' := ⟨hd', u, h9, u, ι', rfl, h7 ▸ h8, haf⟩
  rcases h5 with rfl | rfl <;> exact hpost
def Cl (P : Program) (G : Nat) : CallRel := fun g args H v H' => ∃ n, ClN P G n g args H v H'
theorem Cl.snd {P : Program} {G : Nat} (hm : P.follows .mixedOrders = true) : Snd P (Cl P G) := fun g args H v H' ⟨n, h⟩ => ClN.snd P G hm n g args H v H' h
theorem Cl.mono {P : Program} {G : Nat} : CMono (Cl P G) := fun g args H v H' ⟨n, h⟩ => ClN.mono' P G n g args H v H' h
def CLe (C C' : CallRel) : Prop := ∀ g args H v H', C g args H v H' → C' g args H v H'
theorem Step.le {P : Program} {C C' : CallRel} (hC : CLe C C') {o : Oper} {t : T} {H H' : AH} {k : Kind} {v : Value} (h : Step P C o t H k v H') : Step P C' o t H k v H' := by
 cases h with
 | p v h => exact .p v h
 | b v h => exact .b v h
 | l r v h => exact .l r v h
 | lc b off v h => exact .lc b off v h
 | a v x h => exact .a v x h
 | m r H' h => exact .m r H' h
 | app r H' h => exact .app r H' h
 | call f xs ts g us vs v H' ho hf he hc => exact .call f xs ts g us vs v H' ho hf he (hC _ _ _ _ _ hc)
theorem StepG.le {P : Program} {C C' : CallRel} (hC : CLe C C') {ops : Array Oper} {o : Oper} {t : T} {H H' : AH} {k : Kind} {v : Value} (h : StepG P C ops o t H k v H') : StepG P C' ops o t H k v H' := by
 cases h with
 | plain k v H' hg h => exact .plain k v H' hg (h.le hC)
 | yes j b d k v H' hg hd ht h => exact .yes j b d k v H' hg hd ht (h.le hC)
 | no j b c d hg hd ht hc => exact .no j b c d hg hd ht hc
 | nou j b d hg hd ht => exact .nou j b d hg hd ht
theorem ORun.le {P : Program} {C C' : CallRel} (hC : CLe C C') {ops : Array Oper} {i : Nat} {t t' : T} {H H' : AH} (h : ORun P C ops i t H t' H') : ORun P C' ops i t H t' H' := by
 induction h with
 | done i t H h => exact .done i t H h
 | step i o t H k v H1 t' H' ho hs h ih => exact .step i o t H k v H1 t' H' ho (hs.le hC) ih
theorem Trace.leC {P : Program} {C C' : CallRel} (hC : CLe C C') {ops : Array Oper} {t0 : T} {H0 : AH} {Hf : Nat → AH} {tf : Nat → T} {kf : Nat → Kind} {vf : Nat → Value} (h : Trace P C ops t0 H0 Hf tf kf vf) : Trace P C' ops t0 H0 Hf tf kf vf :=
 ⟨h.h0, h.t0, fun i o ho => ⟨(h.step i o ho).1.le hC, (h.step i o ho).2⟩, h.d1, h.d2, h.rd, h.s2⟩
theorem Ev.le {P : Program} {C C' : CallRel} (hC : CLe C C') {G N : Nat} {c : Cd} {t t' : T} {H H' : AH} {e : VX} (h : Ev P C G N c t H e t' H') : Ev P C' G N c t H e t' H' := by
 induction h with
 | skip t H => exact .skip t H
 | exit id t H => exact .exit id t H
 | ret t H => exact .ret t H
 | region id ops t H t' H' hok h => exact .region id ops t H t' H' hok (h.le hC)
 | draw id ops t H Hf tf kf vf hok hed hap h => exact .draw id ops t H Hf tf kf vf hok hed hap (h.leC hC)
 | seqN a b t H t1 H1 e t' H' h h' ih ih' => exact .seqN a b t H t1 H1 e t' H' ih ih'
 | seqX a b t H e t' H' h he ih => exact .seqX a b t H e t' H' ih he
 | cond c x y b t H e t' H' hc ho h ih => exact .cond c x y b t H e t' H' hc ho ih
 | block id c t H e t' H' h ih => exact .block id c t H e t' H' ih
 | loop c n t H e t' H' h ih => exact .loop c n t H e t' H' ih
 | next c n t H t1 H1 e t' H' h h' ih ih' => exact .next c n t H t1 H1 e t' H' ih ih'
 | last c t H e t' H' h he ih => exact .last c t H e t' H' ih he
 | weak c t H t1 e t' H' hw h ih => exact .weak c t H t1 e t' H' hw ih
theorem ClN.le {P : Program} {G : Nat} : ∀ {n m : Nat}, n ≤ m → CLe (ClN P G n) (ClN P G m)
 | 0, 0, _ => fun g args H v H' h => h
 | 0, m + 1, _ => fun g args H v H' h => .inl h
 | n + 1, 0, h => by omega
 | n + 1, m + 1, hnm => fun g args H v H' h => by
  rcases h with h | h
  ·exact .inl h
  refine .inr ?_
  obtain ⟨hG, fn, c, e, t, vs, h1, h2, h3, h4, h5, h6, h7⟩ := h
  exact ⟨hG, fn, c, e, t, vs, h1, h2, h3, h4.le (ClN.le (by omega)), h5, h6, h7⟩
theorem StepG.fin {P : Program} {G : Nat} {ops : Array Oper} {o : Oper} {t : T} {H H' : AH} {k : Kind} {v : Value} (h : StepG P (Cl P G) ops o t H k v H') : ∃ n, StepG P (ClN P G n) ops o t H k v H' := by
 have key : ∀ {k v H'}, Step P (Cl P G) o t H k v H' → ∃ n, Step P (ClN P G n) o t H k v H' := by
  intro k v H' h
  cases h with
  | p v h => exact ⟨0, .p v h⟩
  | b v h => exact ⟨0, .b v h⟩
  | l r v h => exact ⟨0, .l r v h⟩
  | lc b off v h => exact ⟨0, .lc b off v h⟩
  | a v x h => exact ⟨0, .a v x h⟩
  | m r H' h => exact ⟨0, .m r H' h⟩
  | app r H' h => exact ⟨0, .app r H' h⟩
  | call f xs ts g us vs v H' ho hf he hc => obtain ⟨n, hn⟩ := hc; exact ⟨n, .call f xs ts g us vs v H' ho hf he hn⟩
 cases h with
 | plain k v H' hg h => obtain ⟨n, hn⟩ := key h; exact ⟨n, .plain k v H' hg hn⟩
 | yes j b d k v H' hg hd ht h => obtain ⟨n, hn⟩ := key h; exact ⟨n, .yes j b d k v H' hg hd ht hn⟩
 | no j b c d hg hd ht hc => exact ⟨0, .no j b c d hg hd ht hc⟩
 | nou j b d hg hd ht => exact ⟨0, .nou j b d hg hd ht⟩
theorem ORun.fin {P : Program} {G : Nat} {ops : Array Oper} {i : Nat} {t t' : T} {H H' : AH} (h : ORun P (Cl P G) ops i t H t' H') : ∃ n, ORun P (ClN P G n) ops i t H t' H' := by
 induction h with
 | done i t H h => exact ⟨0, .done i t H h⟩
 | step i o t H k v H1 t' H' ho hs h ih =>
  obtain ⟨n, hn⟩ := hs.fin
  obtain ⟨m, hm⟩ := ih
  exact ⟨max n m, .step i o t H k v H1 t' H' ho (hn.le (ClN.le (Nat.le_max_left n m))) (hm.le (ClN.le (Nat.le_max_right n m)))⟩
theorem Trace.fin {P : Program} {G : Nat} {ops : Array Oper} {t0 : T} {H0 : AH} {Hf : Nat → AH} {tf : Nat → T} {kf : Nat → Kind} {vf : Nat → Value} (h : Trace P (Cl P G) ops t0 H0 Hf tf kf vf) : ∃ n, Trace P (ClN P G n) ops t0 H0 Hf tf kf vf := by
 have key : ∀ k, ∃ n, ∀ i o, i < k → ops[i]? = some o → StepG P (ClN P G n) ops o (tf i) (Hf i) (kf i) (vf i) (Hf (i + 1)) := by
  intro k
  induction k with
  | zero => exact ⟨0, fun i o hi => by omega⟩
  | succ k ih =>
   obtain ⟨n, hn⟩ := ih
   cases ho : ops[k]? with
   | none =>
    refine ⟨n, fun i o hi hio => ?_⟩
    by_cases hik : i = k
    ·subst hik; rw [ho] at hio; cases hio
    ·exact hn i o (by omega) hio
   | some o =>
    obtain ⟨m, hm⟩ := (h.step k o ho).1.fin
    refine ⟨max n m, fun i o' hi hio => ?_⟩
    by_cases hik : i = k
    ·subst hik
     rw [ho] at hio
     cases hio
     exact hm.le (ClN.le (Nat.le_max_right n m))
    ·exact (hn i o' (by omega) hio).le (ClN.le (Nat.le_max_left n m))
 obtain ⟨n, hn⟩ := key ops.size
 exact ⟨n, h.h0, h.t0, fun i o ho => ⟨hn i o (Array.getElem?_eq_some_iff.1 ho).1 ho, (h.step i o ho).2⟩, h.d1, h.d2, h.rd, h.s2⟩
theorem Ev.fin {P : Program} {G N : Nat} {c : Cd} {t t' : T} {H H' : AH} {e : VX} (h : Ev P (Cl P G) G N c t H e t' H') : ∃ n, Ev P (ClN P G n) G N c t H e t' H' := by
 induction h with
 | skip t H => exact ⟨0, .skip t H⟩
 | exit id t H => exact ⟨0, .exit id t H⟩
 | ret t H => exact ⟨0, .ret t H⟩
 | region id ops t H t' H' hok h => obtain ⟨n, hn⟩ := h.fin; exact ⟨n, .region id ops t H t' H' hok hn⟩
 | draw id ops t H Hf tf kf vf hok hed hap h => obtain ⟨n, hn⟩ := h.fin; exact ⟨n, .draw id ops t H Hf tf kf vf hok hed hap hn⟩
 | seqN a b t H t1 H1 e t' H' h h' ih ih' =>
  obtain ⟨n, hn⟩ := ih
  obtain ⟨m, hm⟩ := ih'
  exact ⟨max n m, .seqN a b t H t1 H1 e t' H' (hn.le (ClN.le (Nat.le_max_left n m))) (hm.le (ClN.le (Nat.le_max_right n m)))⟩
 | seqX a b t H e t' H' h he ih => obtain ⟨n, hn⟩ := ih; exact ⟨n, .seqX a b t H e t' H' hn he⟩
 | cond c x y b t H e t' H' hc ho h ih => obtain ⟨n, hn⟩ := ih; exact ⟨n, .cond c x y b t H e t' H' hc ho hn⟩
 | block id c t H e t' H' h ih => obtain ⟨n, hn⟩ := ih; exact ⟨n, .block id c t H e t' H' hn⟩
 | loop c k t H e t' H' h ih => obtain ⟨n, hn⟩ := ih; exact ⟨n, .loop c k t H e t' H' hn⟩
 | next c k t H t1 H1 e t' H' h h' ih ih' =>
  obtain ⟨n, hn⟩ := ih
  obtain ⟨m, hm⟩ := ih'
  exact ⟨max n m, .next c k t H t1 H1 e t' H' (hn.le (ClN.le (Nat.le_max_left n m))) (hm.le (ClN.le (Nat.le_max_right n m)))⟩
 | last c t H e t' H' h he ih => obtain ⟨n, hn⟩ := ih; exact ⟨n, .last c t H e t' H' hn he⟩
 | weak c t H t1 e t' H' hw h ih => obtain ⟨n, hn⟩ := ih; exact ⟨n, .weak c t H t1 e t' H' hw hn⟩
theorem Cl.mk {P : Program} {G : Nat} {g : FuncId} {args : Array Value} {H H' : AH} {fn : Func} {c : Code} {e : VX} {t : T} {vs : List Value} (hG : G ≤ H.lo) (h1 : P.funcs[g]? = some fn) (h2 : fn.body = some c) (h3 : args.size ≤ fn.ntmps)
  (h4 : Ev P (Cl P G) G fn.ntmps (.code c) (initT args) H e t H') (h5 : e = .normal ∨ e = .ret) (h6 : ResAll P t H' fn.results.toList vs) : Cl P G g args H (resV vs) H' := by
 obtain ⟨n, hn⟩ := h4.fin
 exact ⟨n + 1, .inr ⟨hG, fn, c, e, t, vs, h1, h2, h3, hn, h5, h6, rfl⟩⟩
end Go.Vm
