/-
  Part of an evaluator for the model, proved sound: no condition.
-/
import Derived.Test.YtlcjnalocidldaaDoorEVm10
import Derived.LoopN
set_option linter.unusedSimpArgs false
set_option linter.unusedVariables false
namespace Go.Vm
open Go
inductive VX where
 | normal
 | exit (id : Nat)
 | ret
 deriving DecidableEq
def VX.conv : VX → Exit
 | .normal => .normal
 | .exit id => .exit id
 | .ret => .ret
inductive Cd where
 | code (c : Code)
 | lp (c : Code) (n : Nat)
inductive Ev (P : Program) (C : CallRel) (G N : Nat) : Cd → T → AH → VX → T → AH → Prop
 | skip (t : T) (H : AH) : Ev P C G N (.code .skip) t H .normal t H
 | exit (id : Nat) (t : T) (H : AH) : Ev P C G N (.code (.exit id)) t H (.exit id) t H
 | ret (t : T) (H : AH) : Ev P C G N (.code .ret) t H .ret t H
 | region (id : Nat) (ops : Array Oper) (t : T) (H : AH) (t' : T) (H' : AH) (hok : okOps G N ops = true) (h : ORun P C ops 0 t H t' H') : Ev P C G N (.code (.region id ops false)) t H .normal t' H'
 | draw (id : Nat) (ops : Array Oper) (t : T) (H : AH) (Hf : Nat → AH) (tf : Nat → T) (kf : Nat → Kind) (vf : Nat → Value) (hok : okOps G N ops = true) (hed : edgesOk ops = true) (hap : apartOk ops = true)
   (h : Trace P C ops t H Hf tf kf vf) : Ev P C G N (.code (.region id ops true)) t H .normal (tf ops.size) (Hf ops.size)
 | seqN (a b : Code) (t : T) (H : AH) (t1 : T) (H1 : AH) (e : VX) (t' : T) (H' : AH) (h : Ev P C G N (.code a) t H .normal t1 H1) (h' : Ev P C G N (.code b) t1 H1 e t' H') : Ev P C G N (.code (.seq a b)) t H e t' H'
 | seqX (a b : Code) (t : T) (H : AH) (e : VX) (t' : T) (H' : AH) (h : Ev P C G N (.code a) t H e t' H') (he : e ≠ .normal) : Ev P C G N (.code (.seq a b)) t H e t' H'
 | cond (c : Operand) (x y : Code) (b : Bool) (t : T) (H : AH) (e : VX) (t' : T) (H' : AH) (hc : aev t c = .bool b) (ho : okOpB G c = true) (h : Ev P C G N (.code (if b then x else y)) t H e t' H') : Ev P C G N (.code (.cond c x y)) t H e t' H'
 | block (id : Nat) (c : Code) (t : T) (H : AH) (e : VX) (t' : T) (H' : AH) (h : Ev P C G N (.code c) t H e t' H') : Ev P C G N (.code (.block id c)) t H (if e = .exit id then .normal else e) t' H'
 | loop (c : Code) (n : Nat) (t : T) (H : AH) (e : VX) (t' : T) (H' : AH) (h : Ev P C G N (.lp c n) t H e t' H') : Ev P C G N (.code (.loop c)) t H e t' H'
 | next (c : Code) (n : Nat) (t : T) (H : AH) (t1 : T) (H1 : AH) (e : VX) (t' : T) (H' : AH) (h : Ev P C G N (.code c) t H .normal t1 H1) (h' : Ev P C G N (.lp c n) t1 H1 e t' H') : Ev P C G N (.lp c (n + 1)) t H e t' H'
 | last (c : Code) (t : T) (H : AH) (e : VX) (t' : T) (H' : AH) (h : Ev P C G N (.code c) t H e t' H') (he : e ≠ .normal) : Ev P C G N (.lp c 1) t H e t' H'
 | weak (c : Cd) (t : T) (H : AH) (t1 : T) (e : VX) (t' : T) (H' : AH) (hw : ∀ i, t1 i = t i ∨ t1 i = topV) (h : Ev P C G N c t1 H e t' H') : Ev P C G N c t H e t' H'
def CMono (C : CallRel) : Prop := ∀ g args H v H', C g args H v H' → H.next ≤ H'.next ∧ H'.lo = H.lo
theorem ORun.mono {P : Program} {C : CallRel} (hC : CMono C) {ops : Array Oper} {i : Nat} {t t' : T} {H H' : AH} (h : ORun P C ops i t H t' H') : H.next ≤ H'.next ∧ H'.lo = H.lo := by
 induction h with
 | done i t H h => exact ⟨Nat.le_refl _, rfl⟩
 | step i o t H k v H1 t' H' ho hs h ih =>
  have := hs.next hC
  exact ⟨Nat.le_trans this.1 ih.1, ih.2.trans this.2.1⟩
theorem Ev.mono {P : Program} {C : CallRel} (hC : CMono C) {G N : Nat} {c : Cd} {t t' : T} {H H' : AH} {e : VX} (h : Ev P C G N c t H e t' H') : H.next ≤ H'.next ∧ H'.lo = H.lo := by
 induction h with
 | skip | exit | ret => exact ⟨Nat.le_refl _, rfl⟩
 | region id ops t H t' H' hok h => exact h.mono hC
 | draw id ops t H Hf tf kf vf hok hed hap h => have := h.le hC (Nat.zero_le _) (Nat.le_refl _); rw [h.h0] at this; exact this
 | seqN a b t H t1 H1 e t' H' h h' ih ih' => exact ⟨Nat.le_trans ih.1 ih'.1, ih'.2.trans ih.2⟩
 | seqX a b t H e t' H' h he ih => exact ih
 | cond c x y b t H e t' H' hc ho h ih => exact ih
 | block id c t H e t' H' h ih => exact ih
 | loop c n t H e t' H' h ih => exact ih
 | next c n t H t1 H1 e t' H' h h' ih ih' => exact ⟨Nat.le_trans ih.1 ih'.1, ih'.2.trans ih.2⟩
 | last c t H e t' H' h he ih => exact ih
 | weak c t H t1 e t' H' hw h ih => exact ih
theorem okOpB_ok {G lo : Nat} (hG : G ≤ lo) {x : Operand} (h : okOpB G x = true) : okOp lo x := by
 cases x with
 | const v => exact h
 | global g => exact Nat.lt_of_lt_of_le (of_decide_eq_true h) hG
 | _ => trivial
def SimC (P : Program) (N : Nat) (e : VX) (t' : T) (H H' : AH) (ι : Inj) (a : Act) (w : World) : Cd → Prop
 | .code c => ∀ Q : Exit → Act → World → Prop, (∀ a' w' ι', After ι H H' w w' ι' → FR H.lo ι' t' a' → a'.tmps.size = N → a'.defers = a.defers → Q e.conv a' w') → c.wp P Q a w
 | .lp c n => ∀ Q : Exit → Act → World → Prop, (∀ a' w' ι', After ι H H' w w' ι' → FR H.lo ι' t' a' → a'.tmps.size = N → a'.defers = a.defers → Q e.conv a' w') → Code.rounds P c Q n a w
theorem RInv.init {P : Program} {C : CallRel} {ops : Array Oper} {t0 : T} {H0 : AH} {Hf : Nat → AH} {tf : Nat → T} {kf : Nat → Kind} {vf : Nat → Value} {N : Nat} (hC : CMono C) (h : Trace P C ops t0 H0 Hf tf kf vf) {ι : Inj} {a : Act} {w : World} (hr : R ι H0 w)
  (hf : FR H0.lo ι t0 a) (hN : a.tmps.size = N) : RInv P ops N t0 H0 Hf kf vf ι a w (fun _ => false) 0 ι a w := by
 have hbeta : ∀ b, b < H0.next → beta (fun i => (Hf i).next) b ops.size = 0 := fun b hb => by
  have h1 := (h.le hC (Nat.zero_le _) (Nat.le_refl _)).1
  rw [h.h0] at h1
  have := (beta_spec (nx := fun i => (Hf i).next) (b := b) ops.size (fun i hi => (h.mono hC hi).1) (by show b < (Hf ops.size).next; omega)).2.2 0 (Nat.zero_le _) (by show b < (Hf 0).next; rw [h.h0]; exact hb)
  omega
 have hg : ∀ b l, ι b = some l → (Gh ops.size Hf H0.lo 0).get b = H0.get b := fun b l hb => by
  show (Hf (max 0 (beta (fun i => (Hf i).next) b ops.size))).get b = _
  rw [hbeta b (hr.dom b l hb).1]
  show (Hf 0).get b = _
  rw [h.h0]
 have h1 : ∀ s k, (svp ops vf t0 (fun _ => false) s k).1 = t0 s := by
  intro s k
  induction k with
  | zero => rfl
  | succ k ih => unfold svp; rw [if_neg (by simp)]; exact ih
 refine { closed := (fun i j _ hs _ => by cases hs), mle := Nat.zero_le _, meff := (fun e he hk => by simp), ext := Inj.le_refl _, new := fun b l h => .inl h, born := (fun b l hb => .inl (by rw [h.h0]; exact (hr.dom b l hb).1)), r := ?_, fr := Fr.refl _ _ _, dead := (fun b hb hd => by rw [h.h0]; exact hd), size := hN, defers := rfl, cov := (fun i hi hs => by cases hs), slots := (fun s => by rw [h1]; exact hf s) }
 refine ⟨fun b l o hb hg' => ?_, fun b b' l l' hb hb' hg1 hg2 he => ?_, fun b l hb => ?_, fun b hb => by
  obtain ⟨l, h1, h2, h3, h4⟩ := hr.low b hb
  exact ⟨l, h1, h2, h3, fun e c hg' => h4 e c (by rw [← hg b l h1]; exact hg')⟩⟩
 ·rw [hg b l hb] at hg'
  exact hr.obj b l o hb hg'
 ·rw [hg b l hb] at hg1
  rw [hg b' l' hb'] at hg2
  exact hr.inj b b' l l' hb hb' hg1 hg2 he
 ·have h2 := (h.le hC (Nat.zero_le _) (Nat.le_refl _)).1
  rw [h.h0] at h2
  have := hr.dom b l hb
  exact ⟨by show b < (Hf ops.size).next; omega, this.2⟩
theorem Ev.sim {P : Program} {C : CallRel} (hS : Snd P C) (hC : CMono C) (hm : P.follows .mixedOrders = true) {G N : Nat} {c : Cd} {t t' : T} {H H' : AH} {e : VX} (h : Ev P C G N c t H e t' H') :
  ∀ {ι : Inj} {a : Act} {w : World}, G ≤ H.lo → R ι H w → FR H.lo ι t a → a.tmps.size = N → SimC P N e t' H H' ι a w c := by
 induction h with
 | skip t H => exact fun hG hr hf hN Q hQ => wp_skip (hQ _ _ _ (After.refl hr) hf hN rfl)
 | exit id t H => exact fun hG hr hf hN Q hQ => wp_exit (hQ _ _ _ (After.refl hr) hf hN rfl)
 | ret t H => exact fun hG hr hf hN Q hQ => wp_ret (hQ _ _ _ (After.refl hr) hf hN rfl)
 | region id ops t H t' H' hok h =>
  intro ι a w hG hr hf hN Q hQ
  have := h.sim hS hok hG hr hf hN Q hQ
  rw [Nat.sub_zero, ← List.range_eq_range'] at this
  exact wp_region this
 | draw id ops t H Hf tf kf vf hok hed hap h =>
  intro ι a w hG hr hf hN Q hQ
  have hr' : R ι H { w with drawn := w.drawn + 1 } := R.heap_congr (w := w) rfl hr
  refine wp_region_any hm (draw_sim hS hC hok hed hap h hr' hf hN hG Q (fun a' w' ι' ha hf' hN' hd' => hQ a' w' ι' ?_ hf' hN' hd') ops.size _ (fun _ => false) 0 ι a _ (by simp) (fun i hi => by simp [hi]) (cnt_all _ (fun _ _ => rfl)) (RInv.init hC h hr' hf hN))
  obtain ⟨h1, h2, h3⟩ := ha
  exact ⟨⟨h1.ext, h1.new, h1.next, h1.lo, h1.dead, h1.cov⟩, h2, h3⟩
 | seqN x y t H t1 H1 e t' H' h h' ih ih' =>
  intro ι a w hG hr hf hN Q hQ
  have hl := (h.mono hC).2
  refine wp_seq (ih hG hr hf hN _ (fun a1 w1 ι1 ha1 hf1 hN1 hd1 => ?_))
  refine ih' (by rw [hl]; exact hG) ha1.2.1 (by rw [hl]; exact hf1) hN1 Q (fun a' w' ι' ha hf' hN' hd' => ?_)
  exact hQ a' w' ι' (ha1.trans hr ha) (hl ▸ hf') hN' (hd'.trans hd1)
 | seqX x y t H e t' H' h he ih =>
  intro ι a w hG hr hf hN Q hQ
  refine wp_seq (ih hG hr hf hN _ (fun a1 w1 ι1 ha1 hf1 hN1 hd1 => ?_))
  have := hQ a1 w1 ι1 ha1 hf1 hN1 hd1
  cases e <;> first | exact absurd rfl he | exact this
 | cond c x y b t H e t' H' hc ho h ih =>
  intro ι a w hG hr hf hN Q hQ
  have h1 := aev_VR hr hf (okOpB_ok hG ho)
  rw [hc] at h1
  exact wp_cond h1.bool_eq (by cases b <;> exact ih hG hr hf hN Q hQ)
 | block id c t H e t' H' h ih =>
  intro ι a w hG hr hf hN Q hQ
  refine wp_block (ih hG hr hf hN _ (fun a1 w1 ι1 ha1 hf1 hN1 hd1 => ?_))
  have := hQ a1 w1 ι1 ha1 hf1 hN1 hd1
  cases e with
  | normal => exact this
  | ret => exact this
  | exit id' =>
   simp only [VX.conv, Exit.inBlock]
   by_cases hid : id' = id
   ·subst hid; simpa [VX.conv] using this
   ·simpa [hid, VX.conv] using this
 | loop c n t H e t' H' h ih =>
  intro ι a w hG hr hf hN Q hQ
  exact wp_loop_rounds n (ih hG hr hf hN Q hQ)
 | next c n t H t1 H1 e t' H' h h' ih ih' =>
  intro ι a w hG hr hf hN Q hQ
  have hl := (h.mono hC).2
  rw [rounds_succ]
  refine ih hG hr hf hN _ (fun a1 w1 ι1 ha1 hf1 hN1 hd1 => ?_)
  refine ih' (by rw [hl]; exact hG) ha1.2.1 (by rw [hl]; exact hf1) hN1 Q (fun a' w' ι' ha hf' hN' hd' => ?_)
  exact hQ a' w' ι' (ha1.trans hr ha) (hl ▸ hf') hN' (hd'.trans hd1)
 | last c t H e t' H' h he ih =>
  intro ι a w hG hr hf hN Q hQ
  rw [rounds_succ]
  refine ih hG hr hf hN _ (fun a1 w1 ι1 ha1 hf1 hN1 hd1 => ?_)
  have := hQ a1 w1 ι1 ha1 hf1 hN1 hd1
  cases e <;> first | exact absurd rfl he | exact this
 | weak c t H t1 e t' H' hw h ih =>
  intro ι a w hG hr hf hN
  refine ih hG hr (fun i => ?_) hN
  rcases hw i with h1 | h1
  ·rw [h1]; exact hf i
  ·rw [h1]; exact .top _
end Go.Vm
namespace Go.Vm
open Go
def initT (args : Array Value) : T := fun i => args.getD i undef
inductive ResOne (P : Program) (t : T) (H : AH) : ResultVar → Value → Prop
 | tmp (s : Tmp) : ResOne P t H (.tmp s) (t s)
 | cell (s : Tmp) (ty : TypeId) (b : Nat) (v : Value) (h : LOp P (aev t) H { (default : Oper) with op := .load ty (.tmp s) } b v) : ResOne P t H (.cell s ty) v
inductive ResAll (P : Program) (t : T) (H : AH) : List ResultVar → List Value → Prop
 | nil : ResAll P t H [] []
 | cons (r : ResultVar) (v : Value) (rs : List ResultVar) (vs : List Value) (h : ResOne P t H r v) (h' : ResAll P t H rs vs) : ResAll P t H (r :: rs) (v :: vs)
def resV : List Value → Value
 | [v] => v
 | vs => .tuple vs.toArray
def resSem (tmps : Array Value) : ResultVar → Sem Value
 | .tmp t => pure (tmps.getD t undef)
 | .cell s ty => do loadVar ty (← asAddr (tmps.getD s undef))
theorem results_eq (fn : Func) (tmps : Array Value) : results fn tmps = (do let vs ← fn.results.mapM (resSem tmps); pure (if h : vs.size = 1 then vs[0] else .tuple vs)) := by
 unfold results
 congr 1
theorem ResOne.sim {P : Program} {t : T} {H : AH} {r : ResultVar} {v : Value} {ι : Inj} {a : Act} {w : World} (h : ResOne P t H r v) (hr : R ι H w) (hf : FR H.lo ι t a) :
  ∃ u, VR H.lo ι v u ∧ (resSem a.tmps r).run P w = .ok u w := by
 cases h with
 | tmp s => exact ⟨_, hf s, rfl⟩
 | cell s ty b v h =>
  obtain ⟨u, h1, h2⟩ := h.sim (σ := a.eval) hr (fun x hx => by
   simp [Op.operands] at hx
   subst hx
   exact hf s)
  refine ⟨u, h1, ?_⟩
  have h3 : ∃ a', a.tmps.getD s undef = .pointer (some a') := by
   cases h with
   | load1 t' x b' off d v' ho hx hu ha hc =>
    cases ho
    have := hf s
    simp only [aev] at hx
    rw [hx] at this
    exact this.ptr_some
   | loadN t' x b' off d cs i ho hx hu ha hi hl hc =>
    cases ho
    have := hf s
    simp only [aev] at hx
    rw [hx] at this
    exact this.ptr_some
   | lookup t kt e x y b es k i z ok ho => cases ho
   | lenM t kt e x b es ho => cases ho
   | str t t' e x b off c bs ho => cases ho
  obtain ⟨a', h3⟩ := h3
  simp only [execOp, Act.eval, h3, Instr.loadAt, Instr.sureAddr, Sem.run_bind, Sem.run_pure, Result.andThen_ok] at h2
  simp only [resSem, h3, asAddr, Sem.run_bind, Sem.run_pure, Result.andThen_ok]
  cases hl : (loadVar ty a').run P w with
  | ok x w' =>
   rw [hl] at h2
   simp only [Result.andThen_ok] at h2
   injection h2 with h4 h5
   injection h4 with h4
   rw [h4, h5]
  | halt x w' =>
   rw [hl] at h2
   simp at h2
theorem ResAll.sim {P : Program} {t : T} {H : AH} {rs : List ResultVar} {vs : List Value} {ι : Inj} {a : Act} {w : World} (h : ResAll P t H rs vs) (hr : R ι H w) (hf : FR H.lo ι t a) :
  ∃ us : List Value, us.length = vs.length ∧ (∀ (i : Nat) (x y : Value), vs[i]? = some x → us[i]? = some y → VR H.lo ι x y) ∧ (rs.mapM (resSem a.tmps)).run P w = .ok us w := by
 induction h with
 | nil => exact ⟨[], rfl, fun i x y h => by simp at h, rfl⟩
 | cons r v rs vs h h' ih =>
  obtain ⟨us, h1, h2, h3⟩ := ih
  obtain ⟨u, h4, h5⟩ := h.sim hr hf
  refine ⟨u :: us, by simp [h1], fun i x y hx hy => ?_, ?_⟩
  ·cases i with
   | zero => simp at hx hy; subst hx; subst hy; exact h4
   | succ i => simp at hx hy; exact h2 i x y hx hy
  ·simp only [List.mapM_cons, Sem.run_bind, h5, Result.andThen_ok, h3, Sem.run_pure]
theorem ResAll.run {P : Program} {t : T} {H : AH} {fn : Func} {vs : List Value} {ι : Inj} {a : Act} {w : World} (h : ResAll P t H fn.results.toList vs) (hr : R ι H w) (hf : FR H.lo ι t a) :
  ∃ u, VR H.lo ι (resV vs) u ∧ (results fn a.tmps).run P w = .ok u w := by
 obtain ⟨us, h1, h2, h3⟩ := h.sim hr hf
 refine ⟨resV us, ?_, ?_⟩
 ·match vs, us, h1, h2 with
  | [], [], _, _ => exact .tuple _ _ rfl (fun i h1 _ => by simp at h1)
  | [v], [u], _, h2 => exact h2 0 v u rfl rfl
  | v :: v' :: vs, u :: u' :: us, h1, h2 =>
   refine .tuple _ _ (by simpa using h1.symm) (fun i h3 h4 => ?_)
   exact h2 i _ _ (by rw [List.getElem?_eq_getElem (by simpa using h3)]; rfl) (by rw [List.getElem?_eq_getElem (by simpa using h4)]; rfl)
 ·rw [results_eq, Array.mapM_eq_mapM_toList]
  simp only [Sem.run_bind, Sem.run_map, h3, Result.andThen_ok]
  match us with
  | [] => rfl
  | [u] => rfl
  | u :: u' :: us => simp [resV]
def Sd (P : Program) : CallRel := fun g args H v H' => (H.next ≤ H'.next ∧ H'.lo = H.lo) ∧ ∀ ι w cargs, R ι H w → VRs H.lo ι args cargs →
 Calls P g cargs w fun e w' => ∃ u ι', e = .returned u ∧ VR H.lo ι' v u ∧ After ι H H' w w' ι'
def ClN (P : Program) (G : Nat) : Nat → CallRel
 | 0 => Sd P
 | n + 1 => fun g args H v H' => Sd P g args H v H' ∨ G ≤ H.lo ∧ ∃ fn c e t vs, P.funcs[g]? = some fn ∧ fn.body = some c ∧ args.size ≤ fn.ntmps ∧ Ev P (ClN P G n) G fn.ntmps (.code c) (initT args) H e t H' ∧ (e = .normal ∨ e = .ret) ∧ ResAll P t H' fn.results.toList vs ∧ v = resV vs
theorem ClN.mono' (P : Program) (G : Nat) : ∀ n, CMono (ClN P G n)
 | 0 => fun g args H v H' h => h.1
 | n + 1 => fun g args H v H' h => by
  rcases h with h | h
  ·exact h.1
  obtain ⟨_, fn, c, e, t, vs, h1, h2, h3, h4, h5, h6, h7⟩ := h
  exact h4.mono (ClN.mono' P G n)
theorem ClN.snd (P : Program) (G : Nat) (hm : P.follows .mixedOrders = true) : ∀ n, Snd P (ClN P G n)
 | 0 => fun g args H v H' h => h.2
 | n + 1 => fun g args H v H' h ι w cargs hr ha => by
  rcases h with h | h
  ·exact h.2 ι w cargs hr ha
  obtain ⟨hG, fn, c, e, t, vs, h1, h2, h3, h4, h5, h6, h7⟩ := h
  have hl := (h4.mono (ClN.mono' P G n)).2
  have hf : FR H.lo ι (initT args) { tmps := cargs ++ Array.replicate (fn.ntmps - cargs.size) undef, defers := [] } := fun i => by
   unfold initT
   simp only [Array.getD_eq_getD_getElem?]
   by_cases hi : i < args.size
   ·rw [Array.getElem?_append_left (by have := ha.1; omega), Array.getElem?_eq_getElem hi, Array.getElem?_eq_getElem (by have := ha.1; omega)]
    exact ha.2 i hi _
   ·rw [Array.getElem?_eq_none (by omega)]
    have hu : VR H.lo ι undef undef := .tuple _ _ rfl (fun i h1 _ => by simp at h1)
    by_cases hi2 : i < fn.ntmps
    ·rw [Array.getElem?_append_right (by have := ha.1; omega)]
     rw [Array.getElem?_replicate]
     split <;> exact hu
    ·rw [Array.getElem?_eq_none (by simp; have := ha.1; omega)]
     exact hu
  refine calls_of_wp h1 h2 (h4.sim (ClN.snd P G hm n) (ClN.mono' P G n) hm hG hr hf (by simp; have := ha.1; omega) _ (fun a' w' ι' haf hf' hN' hd' => ?_))
  obtain ⟨u, h8, h9⟩ := h6.run (fn := fn) haf.2.1 (by rw [hl]; exact hf')
  rw [hl] at h8
  have hpost : a'.defers = [] ∧ ∃ v', (results fn a'.tmps).run P w' = .ok v' w' ∧ ∃ u ι', Ending.returned v' = .returned u ∧ VR H.lo ι' v u ∧ After ι H H' w w' ι' := ⟨hd', u, h9, u, ι', rfl, h7 ▸ h8, haf⟩
  rcases h5 with rfl | rfl <;> exact hpost
def Cl (P : Program) (G : Nat) : CallRel := fun g args H v H' => ∃ n, ClN P G n g args H v H'
theorem Cl.snd {P : Program} {G : Nat} (hm : P.follows .mixedOrders = true) : Snd P (Cl P G) := fun g args H v H' ⟨n, h⟩ => ClN.snd P G hm n g args H v H' h
theorem Cl.mono {P : Program} {G : Nat} : CMono (Cl P G) := fun g args H v H' ⟨n, h⟩ => ClN.mono' P G n g args H v H' h
def CLe (C C' : CallRel) : Prop := ∀ g args H v H', C g args H v H' → C' g args H v H'
theorem Step.le {P : Program} {C C' : CallRel} (hC : CLe C C') {o : Oper} {t : T} {H H' : AH} {k : Kind} {v : Value} (h : Step P C o t H k v H') : Step P C' o t H k v H' := by
 cases h with
 | p v h => exact .p v h
 | b v h => exact .b v h
 | l r v h => exact .l r v h
 | lc b off v h => exact .lc b off v h
 | a v x h => exact .a v x h
 | m r H' h => exact .m r H' h
 | app r H' h => exact .app r H' h
 | call f xs ts g us vs v H' ho hf he hc => exact .call f xs ts g us vs v H' ho hf he (hC _ _ _ _ _ hc)
theorem StepG.le {P : Program} {C C' : CallRel} (hC : CLe C C') {ops : Array Oper} {o : Oper} {t : T} {H H' : AH} {k : Kind} {v : Value} (h : StepG P C ops o t H k v H') : StepG P C' ops o t H k v H' := by
 cases h with
 | plain k v H' hg h => exact .plain k v H' hg (h.le hC)
 | yes j b d k v H' hg hd ht h => exact .yes j b d k v H' hg hd ht (h.le hC)
 | no j b c d hg hd ht hc => exact .no j b c d hg hd ht hc
 | nou j b d hg hd ht => exact .nou j b d hg hd ht
theorem ORun.le {P : Program} {C C' : CallRel} (hC : CLe C C') {ops : Array Oper} {i : Nat} {t t' : T} {H H' : AH} (h : ORun P C ops i t H t' H') : ORun P C' ops i t H t' H' := by
 induction h with
 | done i t H h => exact .done i t H h
 | step i o t H k v H1 t' H' ho hs h ih => exact .step i o t H k v H1 t' H' ho (hs.le hC) ih
theorem Trace.leC {P : Program} {C C' : CallRel} (hC : CLe C C') {ops : Array Oper} {t0 : T} {H0 : AH} {Hf : Nat → AH} {tf : Nat → T} {kf : Nat → Kind} {vf : Nat → Value} (h : Trace P C ops t0 H0 Hf tf kf vf) : Trace P C' ops t0 H0 Hf tf kf vf :=
 ⟨h.h0, h.t0, fun i o ho => ⟨(h.step i o ho).1.le hC, (h.step i o ho).2⟩, h.d1, h.d2, h.rd, h.s2⟩
theorem Ev.le {P : Program} {C C' : CallRel} (hC : CLe C C') {G N : Nat} {c : Cd} {t t' : T} {H H' : AH} {e : VX} (h : Ev P C G N c t H e t' H') : Ev P C' G N c t H e t' H' := by
 induction h with
 | skip t H => exact .skip t H
 | exit id t H => exact .exit id t H
 | ret t H => exact .ret t H
 | region id ops t H t' H' hok h => exact .region id ops t H t' H' hok (h.le hC)
 | draw id ops t H Hf tf kf vf hok hed hap h => exact .draw id ops t H Hf tf kf vf hok hed hap (h.leC hC)
 | seqN a b t H t1 H1 e t' H' h h' ih ih' => exact .seqN a b t H t1 H1 e t' H' ih ih'
 | seqX a b t H e t' H' h he ih => exact .seqX a b t H e t' H' ih he
 | cond c x y b t H e t' H' hc ho h ih => exact .cond c x y b t H e t' H' hc ho ih
 | block id c t H e t' H' h ih => exact .block id c t H e t' H' ih
 | loop c n t H e t' H' h ih => exact .loop c n t H e t' H' ih
 | next c n t H t1 H1 e t' H' h h' ih ih' => exact .next c n t H t1 H1 e t' H' ih ih'
 | last c t H e t' H' h he ih => exact .last c t H e t' H' ih he
 | weak c t H t1 e t' H' hw h ih => exact .weak c t H t1 e t' H' hw ih
theorem ClN.le {P : Program} {G : Nat} : ∀ {n m : Nat}, n ≤ m → CLe (ClN P G n) (ClN P G m)
 | 0, 0, _ => fun g args H v H' h => h
 | 0, m + 1, _ => fun g args H v H' h => .inl h
 | n + 1, 0, h => by omega
 | n + 1, m + 1, hnm => fun g args H v H' h => by
  rcases h with h | h
  ·exact .inl h
  refine .inr ?_
  obtain ⟨hG, fn, c, e, t, vs, h1, h2, h3, h4, h5, h6, h7⟩ := h
  exact ⟨hG, fn, c, e, t, vs, h1, h2, h3, h4.le (ClN.le (by omega)), h5, h6, h7⟩
theorem StepG.fin {P : Program} {G : Nat} {ops : Array Oper} {o : Oper} {t : T} {H H' : AH} {k : Kind} {v : Value} (h : StepG P (Cl P G) ops o t H k v H') : ∃ n, StepG P (ClN P G n) ops o t H k v H' := by
 have key : ∀ {k v H'}, Step P (Cl P G) o t H k v H' → ∃ n, Step P (ClN P G n) o t H k v H' := by
  intro k v H' h
  cases h with
  | p v h => exact ⟨0, .p v h⟩
  | b v h => exact ⟨0, .b v h⟩
  | l r v h => exact ⟨0, .l r v h⟩
  | lc b off v h => exact ⟨0, .lc b off v h⟩
  | a v x h => exact ⟨0, .a v x h⟩
  | m r H' h => exact ⟨0, .m r H' h⟩
  | app r H' h => exact ⟨0, .app r H' h⟩
  | call f xs ts g us vs v H' ho hf he hc => obtain ⟨n, hn⟩ := hc; exact ⟨n, .call f xs ts g us vs v H' ho hf he hn⟩
 cases h with
 | plain k v H' hg h => obtain ⟨n, hn⟩ := key h; exact ⟨n, .plain k v H' hg hn⟩
 | yes j b d k v H' hg hd ht h => obtain ⟨n, hn⟩ := key h; exact ⟨n, .yes j b d k v H' hg hd ht hn⟩
 | no j b c d hg hd ht hc => exact ⟨0, .no j b c d hg hd ht hc⟩
 | nou j b d hg hd ht => exact ⟨0, .nou j b d hg hd ht⟩
theorem ORun.fin {P : Program} {G : Nat} {ops : Array Oper} {i : Nat} {t t' : T} {H H' : AH} (h : ORun P (Cl P G) ops i t H t' H') : ∃ n, ORun P (ClN P G n) ops i t H t' H' := by
 induction h with
 | done i t H h => exact ⟨0, .done i t H h⟩
 | step i o t H k v H1 t' H' ho hs h ih =>
  obtain ⟨n, hn⟩ := hs.fin
  obtain ⟨m, hm⟩ := ih
  exact ⟨max n m, .step i o t H k v H1 t' H' ho (hn.le (ClN.le (Nat.le_max_left n m))) (hm.le (ClN.le (Nat.le_max_right n m)))⟩
theorem Trace.fin {P : Program} {G : Nat} {ops : Array Oper} {t0 : T} {H0 : AH} {Hf : Nat → AH} {tf : Nat → T} {kf : Nat → Kind} {vf : Nat → Value} (h : Trace P (Cl P G) ops t0 H0 Hf tf kf vf) : ∃ n, Trace P (ClN P G n) ops t0 H0 Hf tf kf vf := by
 have key : ∀ k, ∃ n, ∀ i o, i < k → ops[i]? = some o → StepG P (ClN P G n) ops o (tf i) (Hf i) (kf i) (vf i) (Hf (i + 1)) := by
  intro k
  induction k with
  | zero => exact ⟨0, fun i o hi => by omega⟩
  | succ k ih =>
   obtain ⟨n, hn⟩ := ih
   cases ho : ops[k]? with
   | none =>
    refine ⟨n, fun i o hi hio => ?_⟩
    by_cases hik : i = k
    ·subst hik; rw [ho] at hio; cases hio
    ·exact hn i o (by omega) hio
   | some o =>
    obtain ⟨m, hm⟩ := (h.step k o ho).1.fin
    refine ⟨max n m, fun i o' hi hio => ?_⟩
    by_cases hik : i = k
    ·subst hik
     rw [ho] at hio
     cases hio
     exact hm.le (ClN.le (Nat.le_max_right n m))
    ·exact (hn i o' (by omega) hio).le (ClN.le (Nat.le_max_left n m))
 obtain ⟨n, hn⟩ := key ops.size
 exact ⟨n, h.h0, h.t0, fun i o ho => ⟨hn i o (Array.getElem?_eq_some_iff.1 ho).1 ho, (h.step i o ho).2⟩, h.d1, h.d2, h.rd, h.s2⟩
theorem Ev.fin {P : Program} {G N : Nat} {c : Cd} {t t' : T} {H H' : AH} {e : VX} (h : Ev P (Cl P G) G N c t H e t' H') : ∃ n, Ev P (ClN P G n) G N c t H e t' H' := by
 induction h with
 | skip t H => exact ⟨0, .skip t H⟩
 | exit id t H => exact ⟨0, .exit id t H⟩
 | ret t H => exact ⟨0, .ret t H⟩
 | region id ops t H t' H' hok h => obtain ⟨n, hn⟩ := h.fin; exact ⟨n, .region id ops t H t' H' hok hn⟩
 | draw id ops t H Hf tf kf vf hok hed hap h => obtain ⟨n, hn⟩ := h.fin; exact ⟨n, .draw id ops t H Hf tf kf vf hok hed hap hn⟩
 | seqN a b t H t1 H1 e t' H' h h' ih ih' =>
  obtain ⟨n, hn⟩ := ih
  obtain ⟨m, hm⟩ := ih'
  exact ⟨max n m, .seqN a b t H t1 H1 e t' H' (hn.le (ClN.le (Nat.le_max_left n m))) (hm.le (ClN.le (Nat.le_max_right n m)))⟩
 | seqX a b t H e t' H' h he ih => obtain ⟨n, hn⟩ := ih; exact ⟨n, .seqX a b t H e t' H' hn he⟩
 | cond c x y b t H e t' H' hc ho h ih => obtain ⟨n, hn⟩ := ih; exact ⟨n, .cond c x y b t H e t' H' hc ho hn⟩
 | block id c t H e t' H' h ih => obtain ⟨n, hn⟩ := ih; exact ⟨n, .block id c t H e t' H' hn⟩
 | loop c k t H e t' H' h ih => obtain ⟨n, hn⟩ := ih; exact ⟨n, .loop c k t H e t' H' hn⟩
 | next c k t H t1 H1 e t' H' h h' ih ih' =>
  obtain ⟨n, hn⟩ := ih
  obtain ⟨m, hm⟩ := ih'
  exact ⟨max n m, .next c k t H t1 H1 e t' H' (hn.le (ClN.le (Nat.le_max_left n m))) (hm.le (ClN.le (Nat.le_max_right n m)))⟩
 | last c t H e t' H' h he ih => obtain ⟨n, hn⟩ := ih; exact ⟨n, .last c t H e t' H' hn he⟩
 | weak c t H t1 e t' H' hw h ih => obtain ⟨n, hn⟩ := ih; exact ⟨n, .weak c t H t1 e t' H' hw hn⟩
theorem Cl.mk {P : Program} {G : Nat} {g : FuncId} {args : Array Value} {H H' : AH} {fn : Func} {c : Code} {e : VX} {t : T} {vs : List Value} (hG : G ≤ H.lo) (h1 : P.funcs[g]? = some fn) (h2 : fn.body = some c) (h3 : args.size ≤ fn.ntmps)
  (h4 : Ev P (Cl P G) G fn.ntmps (.code c) (initT args) H e t H') (h5 : e = .normal ∨ e = .ret) (h6 : ResAll P t H' fn.results.toList vs) : Cl P G g args H (resV vs) H' := by
 obtain ⟨n, hn⟩ := h4.fin
 exact ⟨n + 1, .inr ⟨hG, fn, c, e, t, vs, h1, h2, h3, hn, h5, h6, rfl⟩⟩
end Go.Vm
namespace Go.Vm
open Go
def fr (l : List (Nat × Value)) : T := fun i => ((l.find? fun p => p.1 == i).map (·.2)).getD topV
theorem fr_put (l : List (Nat × Value)) (d : Tmp) (v : Value) : put (fr l) (some d) v = fr ((d, v) :: l) := by
 funext i
 simp only [put, fr, List.find?_cons]
 by_cases hi : i = d
 ·subst hi; simp
 ·rw [if_neg hi]
  have : (d == i) = false := by simpa using Ne.symm hi
  rw [this]
theorem fr_weak {l l' : List (Nat × Value)} (h : ∀ p ∈ l', fr l p.1 = p.2) (i : Nat) : fr l' i = fr l i ∨ fr l' i = topV := by
 cases hf : l'.find? fun p => p.1 == i with
 | none => right; simp [fr, hf]
 | some p =>
  left
  have h1 := List.mem_of_find?_eq_some hf
  have h2 := List.find?_some hf
  have h3 := h p h1
  simp at h2
  simp only [fr, hf, Option.map_some, Option.getD_some]
  rw [← h3, ← h2]
  rfl
section
variable {P : Program} {G N : Nat}
abbrev LQ := List (Nat × Value) → AH → Prop
def WO (P : Program) (G : Nat) (ops : Array Oper) (i : Nat) (l : List (Nat × Value)) (H : AH) (Q : LQ) : Prop := ∃ l' H', ORun P (Cl P G) ops i (fr l) H (fr l') H' ∧ Q l' H'
theorem WO.done {ops : Array Oper} {i : Nat} {l : List (Nat × Value)} {H : AH} {Q : LQ} (h : ops.size ≤ i) (hq : Q l H) : WO P G ops i l H Q := ⟨l, H, .done i _ H h, hq⟩
theorem WO.g {ops : Array Oper} {i : Nat} {l : List (Nat × Value)} {H : AH} {Q : LQ} {o : Oper} {d : Tmp} {k : Kind} {v : Value} {H1 : AH} (ho : ops[i]? = some o) (hd : o.dst = some d) (hs : StepG P (Cl P G) ops o (fr l) H k v H1)
  (h : WO P G ops (i + 1) ((d, v) :: l) H1 Q) : WO P G ops i l H Q := by
 obtain ⟨l', H', h1, h2⟩ := h
 exact ⟨l', H', .step i o _ H k v H1 _ H' ho hs (by rw [hd, fr_put]; exact h1), h2⟩
theorem WO.s {ops : Array Oper} {i : Nat} {l : List (Nat × Value)} {H : AH} {Q : LQ} {o : Oper} {d : Tmp} {k : Kind} {v : Value} {H1 : AH} (ho : ops[i]? = some o) (hd : o.dst = some d) (hg : o.guard = none) (hs : Step P (Cl P G) o (fr l) H k v H1)
  (h : WO P G ops (i + 1) ((d, v) :: l) H1 Q) : WO P G ops i l H Q := WO.g ho hd (.plain k v H1 hg hs) h
theorem WO.n {ops : Array Oper} {i : Nat} {l : List (Nat × Value)} {H : AH} {Q : LQ} {o : Oper} {k : Kind} {v : Value} {H1 : AH} (ho : ops[i]? = some o) (hd : o.dst = none) (hg : o.guard = none) (hs : Step P (Cl P G) o (fr l) H k v H1)
  (h : WO P G ops (i + 1) l H1 Q) : WO P G ops i l H Q := by
 obtain ⟨l', H', h1, h2⟩ := h
 exact ⟨l', H', .step i o _ H k v H1 _ H' ho (.plain k v H1 hg hs) (by rw [hd]; exact h1), h2⟩
theorem WO.y {ops : Array Oper} {i : Nat} {l : List (Nat × Value)} {H : AH} {Q : LQ} {o : Oper} {d : Tmp} {k : Kind} {v : Value} {H1 : AH} {j : Nat} {b : Bool} {e : Tmp} (ho : ops[i]? = some o) (hd : o.dst = some d) (hg : o.guard = some (j, b))
  (he : (ops[j]?).bind (·.dst) = some e) (ht : fr l e = .bool b) (hs : Step P (Cl P G) o (fr l) H k v H1) (h : WO P G ops (i + 1) ((d, v) :: l) H1 Q) : WO P G ops i l H Q := WO.g ho hd (.yes j b e k v H1 hg he ht hs) h
theorem WO.x {ops : Array Oper} {i : Nat} {l : List (Nat × Value)} {H : AH} {Q : LQ} {o : Oper} {d : Tmp} {j : Nat} {b c : Bool} {e : Tmp} (ho : ops[i]? = some o) (hd : o.dst = some d) (hg : o.guard = some (j, b))
  (he : (ops[j]?).bind (·.dst) = some e) (ht : fr l e = .bool c) (hc : c ≠ b) (h : WO P G ops (i + 1) ((d, undef) :: l) H Q) : WO P G ops i l H Q := WO.g ho hd (.no j b c e hg he ht hc) h
abbrev XQ := VX → List (Nat × Value) → AH → Prop
def WP (P : Program) (G N : Nat) (c : Code) (Q : XQ) (l : List (Nat × Value)) (H : AH) : Prop := ∃ e l' H', Ev P (Cl P G) G N (.code c) (fr l) H e (fr l') H' ∧ Q e l' H'
def sq (K : LQ) (Q : XQ) : XQ := fun e l H => match e with
 | .normal => K l H
 | e => Q e l H
def blk (id : Nat) (Q : XQ) : XQ := fun e l H => Q (if e = .exit id then .normal else e) l H
theorem WP.skip {Q : XQ} {l : List (Nat × Value)} {H : AH} (h : Q .normal l H) : WP P G N .skip Q l H := ⟨_, _, _, .skip _ H, h⟩
theorem WP.exit {id : Nat} {Q : XQ} {l : List (Nat × Value)} {H : AH} (h : Q (.exit id) l H) : WP P G N (.exit id) Q l H := ⟨_, _, _, .exit id _ H, h⟩
theorem WP.ret {Q : XQ} {l : List (Nat × Value)} {H : AH} (h : Q .ret l H) : WP P G N .ret Q l H := ⟨_, _, _, .ret _ H, h⟩
theorem WP.seq {a b : Code} {Q : XQ} {l : List (Nat × Value)} {H : AH} (h : WP P G N a (sq (WP P G N b Q) Q) l H) : WP P G N (.seq a b) Q l H := by
 obtain ⟨e, l', H', h1, h2⟩ := h
 cases e with
 | normal =>
  obtain ⟨e2, l2, H2, h3, h4⟩ := h2
  exact ⟨e2, l2, H2, .seqN a b _ H _ H' e2 _ H2 h1 h3, h4⟩
 | exit id => exact ⟨_, l', H', .seqX a b _ H _ _ H' h1 (by simp), h2⟩
 | ret => exact ⟨_, l', H', .seqX a b _ H _ _ H' h1 (by simp), h2⟩
theorem WP.reg {id : Nat} {ops : Array Oper} {Q : XQ} {l : List (Nat × Value)} {H : AH} (hok : okOps G N ops = true) (h : WO P G ops 0 l H (Q .normal)) : WP P G N (.region id ops false) Q l H := by
 obtain ⟨l', H', h1, h2⟩ := h
 exact ⟨_, l', H', .region id ops _ H _ H' hok h1, h2⟩
theorem WP.sreg {id : Nat} {ops : Array Oper} {b : Code} {Q : XQ} {l : List (Nat × Value)} {H : AH} (hok : okOps G N ops = true) (h : WO P G ops 0 l H (WP P G N b Q)) : WP P G N (.seq (.region id ops false) b) Q l H := WP.seq (WP.reg hok h)
theorem WP.cond {c : Operand} {x y : Code} (b : Bool) {Q : XQ} {l : List (Nat × Value)} {H : AH} (hc : aev (fr l) c = .bool b) (ho : okOpB G c = true) (ht : b = true → WP P G N x Q l H) (hf : b = false → WP P G N y Q l H) : WP P G N (.cond c x y) Q l H := by
 cases b
 ·obtain ⟨e, l', H', h1, h2⟩ := hf rfl
  exact ⟨e, l', H', .cond c x y false _ H e _ H' hc ho h1, h2⟩
 ·obtain ⟨e, l', H', h1, h2⟩ := ht rfl
  exact ⟨e, l', H', .cond c x y true _ H e _ H' hc ho h1, h2⟩
theorem WP.blk {id : Nat} {c : Code} {Q : XQ} {l : List (Nat × Value)} {H : AH} (h : WP P G N c (blk id Q) l H) : WP P G N (.block id c) Q l H := by
 obtain ⟨e, l', H', h1, h2⟩ := h
 exact ⟨_, l', H', .block id c _ H e _ H' h1, h2⟩
theorem Ev.unloop {C : CallRel} {cd : Cd} {t t' : T} {H H' : AH} {e : VX} (h : Ev P C G N cd t H e t' H') : ∀ c, cd = .code (.loop c) → ∃ n, Ev P C G N (.lp c n) t H e t' H' := by
 induction h with
 | loop c n t H e t' H' h ih => intro c' hc; cases hc; exact ⟨n, h⟩
 | weak c t H t1 e t' H' hw h ih => intro c' hc; obtain ⟨n, hn⟩ := ih c' hc; exact ⟨n, .weak _ t H t1 e t' H' hw hn⟩
 | _ => intro c' hc; cases hc
theorem WP.loop {c : Code} {Q : XQ} {l : List (Nat × Value)} {H : AH} (h : WP P G N c (sq (WP P G N (.loop c) Q) Q) l H) : WP P G N (.loop c) Q l H := by
 obtain ⟨e, l', H', h1, h2⟩ := h
 cases e with
 | normal =>
  obtain ⟨e2, l2, H2, h3, h4⟩ := h2
  obtain ⟨n, hn⟩ := h3.unloop c rfl
  exact ⟨e2, l2, H2, .loop c (n + 1) _ H e2 _ H2 (.next c n _ H _ H' e2 _ H2 h1 hn), h4⟩
 | exit id => exact ⟨_, l', H', .loop c 1 _ H _ _ H' (.last c _ H _ _ H' h1 (by simp)), h2⟩
 | ret => exact ⟨_, l', H', .loop c 1 _ H _ _ H' (.last c _ H _ _ H' h1 (by simp)), h2⟩
theorem WP.weak {c : Code} {Q : XQ} {l : List (Nat × Value)} (l' : List (Nat × Value)) {H : AH} (hw : ∀ p ∈ l', fr l p.1 = p.2) (h : WP P G N c Q l' H) : WP P G N c Q l H := by
 obtain ⟨e, l2, H', h1, h2⟩ := h
 exact ⟨e, l2, H', .weak _ _ H _ e _ H' (fr_weak hw) h1, h2⟩
theorem WP.mono {c : Code} {Q Q' : XQ} {l : List (Nat × Value)} {H : AH} (h : WP P G N c Q l H) (hq : ∀ e l H, Q e l H → Q' e l H) : WP P G N c Q' l H := by
 obtain ⟨e, l', H', h1, h2⟩ := h
 exact ⟨e, l', H', h1, hq _ _ _ h2⟩
def fin (P : Program) (fn : Func) (Post : Value → AH → Prop) : XQ := fun e l H => (e = .normal ∨ e = .ret) ∧ ∃ vs, ResAll P (fr l) H fn.results.toList vs ∧ Post (resV vs) H
def initL (args : Array Value) : List (Nat × Value) := args.toList.zipIdx.map fun p => (p.2, p.1)
theorem Cl.of {g : FuncId} {args : Array Value} {H : AH} {fn : Func} {c : Code} {Post : Value → AH → Prop} (hG : G ≤ H.lo) (h1 : P.funcs[g]? = some fn) (h2 : fn.body = some c) (h3 : args.size ≤ fn.ntmps)
  (h : WP P G fn.ntmps c (fin P fn Post) (initL args) H) : ∃ v H', Cl P G g args H v H' ∧ Post v H' := by
 obtain ⟨e, l', H', h4, h5, vs, h6, h7⟩ := h
 refine ⟨_, H', Cl.mk hG h1 h2 h3 (.weak _ _ H _ e _ H' (fun i => ?_) h4) h5 h6, h7⟩
 cases hf : (initL args).find? fun p => p.1 == i with
 | none => right; simp [fr, hf]
 | some p =>
  left
  have h8 := List.mem_of_find?_eq_some hf
  have h9 := List.find?_some hf
  simp only [fr, hf, Option.map_some, Option.getD_some]
  unfold initL at h8
  obtain ⟨q, hq, rfl⟩ := List.mem_map.1 h8
  rw [List.mem_zipIdx_iff_getElem?] at hq
  simp at h9
  rw [h9, Array.getElem?_toList] at hq
  simp [initT, hq]
end
end Go.Vm
