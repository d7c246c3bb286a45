/-
  Part of an evaluator for the model, proved sound: no condition.
-/
import Derived.Test.YtngmbcedamphmaaEVm12
import Derived.LoopN
set_option linter.unusedSimpArgs false
set_option linter.unusedVariables false
namespace Go.Vm
open Go
inductive VX where
 | normal
 | exit (id : Nat)
 | ret
 deriving DecidableEq
def VX.conv : VX → Exit
 | .normal => .normal
 | .exit id => .exit id
 | .ret => .ret
inductive Cd where
 | code (c : Code)
 | lp (c : Code) (n : Nat)
inductive Ev (P : Program) (C : CallRel) (G N : Nat) : Cd → T → AH → VX → T → AH → Prop
 | skip (t : T) (H : AH) : Ev P C G N (.code .skip) t H .normal t H
 | exit (id : Nat) (t : T) (H : AH) : Ev P C G N (.code (.exit id)) t H (.exit id) t H
 | ret (t : T) (H : AH) : Ev P C G N (.code .ret) t H .ret t H
 | region (id : Nat) (ops : Array Oper) (t : T) (H : AH) (t' : T) (H' : AH) (hok : okOps G N ops = true) (h : ORun P C ops 0 t H t' H') : Ev P C G N (.code (.region id ops false)) t H .normal t' H'
 | draw (id : Nat) (ops : Array Oper) (t : T) (H : AH) (Hf : Nat → AH) (tf : Nat → T) (kf : Nat → Kind) (vf : Nat → Value) (hok : okOps G N ops = true) (hed : edgesOk ops = true) (hap : apartOk ops = true)
   (h : Trace P C ops t H Hf tf kf vf) : Ev P C G N (.code (.region id ops true)) t H .normal (tf ops.size) (Hf ops.size)
 | seqN (a b : Code) (t : T) (H : AH) (t1 : T) (H1 : AH) (e : VX) (t' : T) (H' : AH) (h : Ev P C G N (.code a) t H .normal t1 H1) (h' : Ev P C G N (.code b) t1 H1 e t' H') : Ev P C G N (.code (.seq a b)) t H e t' H'
 | seqX (a b : Code) (t : T) (H : AH) (e : VX) (t' : T) (H' : AH) (h : Ev P C G N (.code a) t H e t' H') (he : e ≠ .normal) : Ev P C G N (.code (.seq a b)) t H e t' H'
 | cond (c : Operand) (x y : Code) (b : Bool) (t : T) (H : AH) (e : VX) (t' : T) (H' : AH) (hc : aev t c = .bool b) (ho : okOpB G c = true) (h : Ev P C G N (.code (if b then x else y)) t H e t' H') : Ev P C G N (.code (.cond c x y)) t H e t' H'
 | block (id : Nat) (c : Code) (t : T) (H : AH) (e : VX) (t' : T) (H' : AH) (h : Ev P C G N (.code c) t H e t' H') : Ev P C G N (.code (.block id c)) t H (if e = .exit id then .normal else e) t' H'
 | loop (c : Code) (n : Nat) (t : T) (H : AH) (e : VX) (t' : T) (H' : AH) (h : Ev P C G N (.lp c n) t H e t' H') : Ev P C G N (.code (.loop c)) t H e t' H'
 | next (c : Code) (n : Nat) (t : T) (H : AH) (t1 : T) (H1 : AH) (e : VX) (t' : T) (H' : AH) (h : Ev P C G N (.code c) t H .normal t1 H1) (h' : Ev P C G N (.lp c n) t1 H1 e t' H') : Ev P C G N (.lp c (n + 1)) t H e t' H'
 | last (c : Code) (t : T) (H : AH) (e : VX) (t' : T) (H' : AH) (h : Ev P C G N (.code c) t H e t' H') (he : e ≠ .normal) : Ev P C G N (.lp c 1) t H e t' H'
 | weak (c : Cd) (t : T) (H : AH) (t1 : T) (e : VX) (t' : T) (H' : AH) (hw : ∀ i, t1 i = t i ∨ t1 i = topV) (h : Ev P C G N c t1 H e t' H') : Ev P C G N c t H e t' H'
def CMono (C : CallRel) : Prop := ∀ g args H v H', C g args H v H' → H.next ≤ H'.next ∧ H'.lo = H.lo
theorem ORun.mono {P : Program} {C : CallRel} (hC : CMono C) {ops : Array Oper} {i : Nat} {t t' : T} {H H' : AH} (h : ORun P C ops i t H t' H') : H.next ≤ H'.next ∧ H'.lo = H.lo := by
 induction h with
 | done i t H h => exact ⟨Nat.le_refl _, rfl⟩
 | step i o t H k v H1 t' H' ho hs h ih =>
  have := hs.next hC
  exact ⟨Nat.le_trans this.1 ih.1, ih.2.trans this.2.1⟩
theorem Ev.mono {P : Program} {C : CallRel} (hC : CMono C) {G N : Nat} {c : Cd} {t t' : T} {H H' : AH} {e : VX} (h : Ev P C G N c t H e t' H') : H.next ≤ H'.next ∧ H'.lo = H.lo := by
 induction h with
 | skip | exit | ret => exact ⟨Nat.le_refl _, rfl⟩
 | region id ops t H t' H' hok h => exact h.mono hC
 | draw id ops t H Hf tf kf vf hok hed hap h => have := h.le hC (Nat.zero_le _) (Nat.le_refl _); rw [h.h0] at this; exact this
 | seqN a b t H t1 H1 e t' H' h h' ih ih' => exact ⟨Nat.le_trans ih.1 ih'.1, ih'.2.trans ih.2⟩
 | seqX a b t H e t' H' h he ih => exact ih
 | cond c x y b t H e t' H' hc ho h ih => exact ih
 | block id c t H e t' H' h ih => exact ih
 | loop c n t H e t' H' h ih => exact ih
 | next c n t H t1 H1 e t' H' h h' ih ih' => exact ⟨Nat.le_trans ih.1 ih'.1, ih'.2.trans ih.2⟩
 | last c t H e t' H' h he ih => exact ih
 | weak c t H t1 e t' H' hw h ih => exact ih
theorem okOpB_ok {G lo : Nat} (hG : G ≤ lo) {x : Operand} (h : okOpB G x = true) : okOp lo x := by
 cases x with
 | const v => exact h
 | global g => exact Nat.lt_of_lt_of_le (of_decide_eq_true h) hG
 | _ => trivial
def SimC (P : Program) (N : Nat) (e : VX) (t' : T) (H H' : AH) (ι : Inj) (a : Act) (w : World) : Cd → Prop
 | .code c => ∀ Q : Exit → Act → World → Prop, (∀ a' w' ι', After ι H H' w w' ι' → FR H.lo ι' t' a' → a'.tmps.size = N → a'.defers = a.defers → Q e.conv a' w') → c.wp P Q a w
 | .lp c n => ∀ Q : Exit → Act → World → Prop, (∀ a' w' ι', After ι H H' w w' ι' → FR H.lo ι' t' a' → a'.tmps.size = N → a'.defers = a.defers → Q e.conv a' w') → Code.rounds P c Q n a w
theorem RInv.init {P : Program} {C : CallRel} {ops : Array Oper} {t0 : T} {H0 : AH} {Hf : Nat → AH} {tf : Nat → T} {kf : Nat → Kind} {vf : Nat → Value} {N : Nat} (hC : CMono C) (h : Trace P C ops t0 H0 Hf tf kf vf) {ι : Inj} {a : Act} {w : World} (hr : R ι H0 w)
  (hf : FR H0.lo ι t0 a) (hN : a.tmps.size = N) : RInv P ops N t0 H0 Hf kf vf ι a w (fun _ => false) 0 ι a w := by
 have hbeta : ∀ b, b < H0.next → beta (fun i => (Hf i).next) b ops.size = 0 := fun b hb => by
  have h1 := (h.le hC (Nat.zero_le _) (Nat.le_refl _)).1
  rw [h.h0] at h1
  have := (beta_spec (nx := fun i => (Hf i).next) (b := b) ops.size (fun i hi => (h.mono hC hi).1) (by show b < (Hf ops.size).next; omega)).2.2 0 (Nat.zero_le _) (by show b < (Hf 0).next; rw [h.h0]; exact hb)
  omega
 have hg : ∀ b l, ι b = some l → (Gh ops.size Hf H0.lo 0).get b = H0.get b := fun b l hb => by
  show (Hf (max 0 (beta (fun i => (Hf i).next) b ops.size))).get b = _
  rw [hbeta b (hr.dom b l hb).1]
  show (Hf 0).get b = _
  rw [h.h0]
 have h1 : ∀ s k, (svp ops vf t0 (fun _ => false) s k).1 = t0 s := by
  intro s k
  induction k with
  | zero => rfl
  | succ k ih => unfold svp; rw [if_neg (by simp)]; exact ih
 refine { closed := (fun i j _ hs _ => by cases hs), mle := Nat.zero_le _, meff := (fun e he hk => by simp), ext := Inj.le_refl _, new := fun b l h => .inl h, born := (fun b l hb => .inl (by rw [h.h0]; exact (hr.dom b l hb).1)), r := ?_, fr := Fr.refl _ _ _, dead := (fun b hb hd => by rw [h.h0]; exact hd), size := hN, defers := rfl, cov := (fun i hi hs => by cases hs), slots := (fun s => by rw [h1]; exact hf s) }
 refine ⟨fun b l o hb hg' => ?_, fun b b' l l' hb hb' hg1 hg2 he => ?_, fun b l hb => ?_, fun b hb => by
  obtain ⟨l, h1, h2, h3, h4⟩ := hr.low b hb
  exact ⟨l, h1, h2, h3, fun e c hg' => h4 e c (by rw [← hg b l h1]; exact hg')⟩⟩
 ·rw [hg b l hb] at hg'
  exact hr.obj b l o hb hg'
 ·rw [hg b l hb] at hg1
  rw [hg b' l' hb'] at hg2
  exact hr.inj b b' l l' hb hb' hg1 hg2 he
 ·have h2 := (h.le hC (Nat.zero_le _) (Nat.le_refl _)).1
  rw [h.h0] at h2
  have := hr.dom b l hb
  exact ⟨by show b < (Hf ops.size).next; omega, this.2⟩
theorem Ev.sim {P : Program} {C : CallRel} (hS : Snd P C) (hC : CMono C) (hm : P.follows .mixedOrders = true) {G N : Nat} {c : Cd} {t t' : T} {H H' : AH} {e : VX} (h : Ev P C G N c t H e t' H') :
  ∀ {ι : Inj} {a : Act} {w : World}, G ≤ H.lo → R ι H w → FR H.lo ι t a → a.tmps.size = N → SimC P N e t' H H' ι a w c := by
 induction h with
 | skip t H => exact fun hG hr hf hN Q hQ => wp_skip (hQ _ _ _ (After.refl hr) hf hN rfl)
 | exit id t H => exact fun hG hr hf hN Q hQ => wp_exit (hQ _ _ _ (After.refl hr) hf hN rfl)
 | ret t H => exact fun hG hr hf hN Q hQ => wp_ret (hQ _ _ _ (After.refl hr) hf hN rfl)
 | region id ops t H t' H' hok h =>
  intro ι a w hG hr hf hN Q hQ
  have := h.sim hS hok hG hr hf hN Q hQ
  rw [Nat.sub_zero, ← List.range_eq_range'] at this
  exact wp_region this
 | draw id ops t H Hf tf kf vf hok hed hap h =>
  intro ι a w hG hr hf hN Q hQ
  have hr' : R ι H { w with drawn := w.drawn + 1 } := R.heap_congr (w := w) rfl hr
  refine wp_region_any hm (draw_sim hS hC hok hed hap h hr' hf hN hG Q (fun a' w' ι' ha hf' hN' hd' => hQ a' w' ι' ?_ hf' hN' hd') ops.size _ (fun _ => false) 0 ι a _ (by simp) (fun i hi => by simp [hi]) (cnt_all _ (fun _ _ => rfl)) (RInv.init hC h hr' hf hN))
  obtain ⟨h1, h2, h3⟩ := ha
  exact ⟨⟨h1.ext, h1.new, h1.next, h1.lo, h1.dead, h1.cov⟩, h2, h3⟩
 | seqN x y t H t1 H1 e t' H' h h' ih ih' =>
  intro ι a w hG hr hf hN Q hQ
  have hl := (h.mono hC).2
  refine wp_seq (ih hG hr hf hN _ (fun a1 w1 ι1 ha1 hf1 hN1 hd1 => ?_))
  refine ih' (by rw [hl]; exact hG) ha1.2.1 (by rw [hl]; exact hf1) hN1 Q (fun a' w' ι' ha hf' hN' hd' => ?_)
  exact hQ a' w' ι' (ha1.trans hr ha) (hl ▸ hf') hN' (hd'.trans hd1)
 | seqX x y t H e t' H' h he ih =>
  intro ι a w hG hr hf hN Q hQ
  refine wp_seq (ih hG hr hf hN _ (fun a1 w1 ι1 ha1 hf1 hN1 hd1 => ?_))
  have := hQ a1 w1 ι1 ha1 hf1 hN1 hd1
  cases e <;> first | exact absurd rfl he | exact this
 | cond c x y b t H e t' H' hc ho h ih =>
  intro ι a w hG hr hf hN Q hQ
  have h1 := aev_VR hr hf (okOpB_ok hG ho)
  rw [hc] at h1
  exact wp_cond h1.bool_eq (by cases b <;> exact ih hG hr hf hN Q hQ)
 | block id c t H e t' H' h ih =>
  intro ι a w hG hr hf hN Q hQ
  refine wp_block (ih hG hr hf hN _ (fun a1 w1 ι1 ha1 hf1 hN1 hd1 => ?_))
  have := hQ a1 w1 ι1 ha1 hf1 hN1 hd1
  cases e with
  | normal => exact this
  | ret => exact this
  | exit id' =>
   simp only [VX.conv, Exit.inBlock]
   by_cases hid : id' = id
   ·subst hid; simpa [VX.conv] using this
   ·simpa [hid, VX.conv] using this
 | loop c n t H e t' H' h ih =>
  intro ι a w hG hr hf hN Q hQ
  exact wp_loop_rounds n (ih hG hr hf hN Q hQ)
 | next c n t H t1 H1 e t' H' h h' ih ih' =>
  intro ι a w hG hr hf hN Q hQ
  have hl := (h.mono hC).2
  rw [rounds_succ]
  refine ih hG hr hf hN _ (fun a1 w1 ι1 ha1 hf1 hN1 hd1 => ?_)
  refine ih' (by rw [hl]; exact hG) ha1.2.1 (by rw [hl]; exact hf1) hN1 Q (fun a' w' ι' ha hf' hN' hd' => ?_)
  exact hQ a' w' ι' (ha1.trans hr ha) (hl ▸ hf') hN' (hd'.trans hd1)
 | last c t H e t' H' h he ih =>
  intro ι a w hG hr hf hN Q hQ
  rw [rounds_succ]
  refine ih hG hr hf hN _ (fun a1 w1 ι1 ha1 hf1 hN1 hd1 => ?_)
  have := hQ a1 w1 ι1 ha1 hf1 hN1 hd1
  cases e <;> first | exact absurd rfl he | exact this
 | weak c t H t1 e t' H' hw h ih =>
  intro ι a w hG hr hf hN
  refine ih hG hr (fun i => ?_) hN
  rcases hw i with h1 | h1
  ·rw [h1]; exact hf i
  ·rw [h1]; exact .top _
end Go.Vm
