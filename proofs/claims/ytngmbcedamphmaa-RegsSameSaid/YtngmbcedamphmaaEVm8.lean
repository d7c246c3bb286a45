/-
  Part of an evaluator for the model, proved sound: no condition.
-/
import Derived.Test.YtngmbcedamphmaaEVm7
set_option linter.unusedSimpArgs false
set_option linter.unusedVariables false
namespace Go.Vm
open Go
inductive StepG (P : Program) (C : CallRel) (ops : Array Oper) (o : Oper) (t : T) (H : AH) : Kind → Value → AH → Prop
 | plain (k : Kind) (v : Value) (H' : AH) (hg : o.guard = none) (h : Step P C o t H k v H') : StepG P C ops o t H k v H'
 | yes (j : Nat) (b : Bool) (d : Tmp) (k : Kind) (v : Value) (H' : AH) (hg : o.guard = some (j, b)) (hd : (ops[j]?).bind (·.dst) = some d) (ht : t d = .bool b) (h : Step P C o t H k v H') : StepG P C ops o t H k v H'
 | no (j : Nat) (b c : Bool) (d : Tmp) (hg : o.guard = some (j, b)) (hd : (ops[j]?).bind (·.dst) = some d) (ht : t d = .bool c) (hc : c ≠ b) : StepG P C ops o t H .pure undef H
 | nou (j : Nat) (b : Bool) (d : Tmp) (hg : o.guard = some (j, b)) (hd : (ops[j]?).bind (·.dst) = some d) (ht : t d = undef) : StepG P C ops o t H .pure undef H
def okOpB (G : Nat) : Operand → Bool
 | .const v => constB v
 | .global g => decide (g < G)
 | _ => true
def okOps (G N : Nat) (ops : Array Oper) : Bool := ops.toList.all fun o => o.op.operands.toList.all (okOpB G) && (match o.dst with | some d => decide (d < N) | none => true)
theorem okOps_op {G N : Nat} {ops : Array Oper} (h : okOps G N ops = true) {i : Nat} {o : Oper} (ho : ops[i]? = some o) {lo : Nat} (hG : G ≤ lo) : ∀ x ∈ o.op.operands, okOp lo x := by
 have h1 := List.all_eq_true.1 h o (Array.mem_toList_iff.2 (Array.mem_of_getElem? ho))
 rw [Bool.and_eq_true] at h1
 intro x hx
 have h2 := List.all_eq_true.1 h1.1 x (Array.mem_toList_iff.2 hx)
 cases x with
 | const v => exact h2
 | global g => have := of_decide_eq_true h2; exact Nat.lt_of_lt_of_le this hG
 | _ => trivial
theorem okOps_dst {G N : Nat} {ops : Array Oper} (h : okOps G N ops = true) {i : Nat} {o : Oper} (ho : ops[i]? = some o) {d : Tmp} (hd : o.dst = some d) : d < N := by
 have h1 := List.all_eq_true.1 h o (Array.mem_toList_iff.2 (Array.mem_of_getElem? ho))
 rw [Bool.and_eq_true, hd] at h1
 exact of_decide_eq_true h1.2
theorem wanted_of {P : Program} {ops : Array Oper} {o : Oper} {a : Act} {j d : Nat} {b c : Bool} (hg : o.guard = some (j, b)) (hd : (ops[j]?).bind (·.dst) = some d) (ht : a.tmps.getD d undef = .bool c) :
  Region.wanted o (yielded ops a.tmps) = (c == b) := by
 have : a.tmps[d]? = some (.bool c) := by
  rw [Array.getD_eq_getD_getElem?] at ht
  cases hx : a.tmps[d]? with
  | none => rw [hx] at ht; simp [undef] at ht
  | some v => rw [hx] at ht; simp at ht; rw [ht]
 simp only [Region.wanted, hg, yielded, hd, Option.bind_some, this]
 cases c <;> cases b <;> rfl
theorem VR.undef_eq {lo : Nat} {ι : Inj} {u : Value} (h : VR lo ι undef u) : u = undef := by
 generalize hx : undef = x at h
 cases h with
 | top => simp [undef, topV] at hx
 | tuple xs ys hs h' =>
  have : xs = #[] := by simpa [undef] using hx.symm
  subst this
  have : ys = #[] := Array.eq_empty_of_size_eq_zero (by simpa using hs.symm)
  subst this
  rfl
 | atom _ ha => subst hx; cases ha
 | _ => cases hx
theorem wanted_undef {ops : Array Oper} {o : Oper} {a : Act} {j d : Nat} {b : Bool} (hg : o.guard = some (j, b)) (hd : (ops[j]?).bind (·.dst) = some d) (ht : a.tmps.getD d undef = undef) : Region.wanted o (yielded ops a.tmps) = false := by
 have h : yielded ops a.tmps j = none := by
  unfold yielded
  rw [hd]
  rw [Array.getD_eq_getD_getElem?] at ht
  cases hx : a.tmps[d]? with
  | none => simp [hx]
  | some v => rw [hx] at ht; simp at ht; simp [hx, ht, undef]
 simp [Region.wanted, hg, h]
theorem StepG.sim {P : Program} {C : CallRel} (hC : Snd P C) {ops : Array Oper} {o : Oper} {t : T} {H H' : AH} {k : Kind} {v : Value} {ι : Inj} {a : Act} {w : World} (h : StepG P C ops o t H k v H') (hr : R ι H w)
  (hv : ∀ x ∈ o.op.operands, VR H.lo ι (aev t x) (a.eval x)) (hgd : ∀ d, (∃ j b, o.guard = some (j, b) ∧ (ops[j]?).bind (·.dst) = some d) → VR H.lo ι (t d) (a.tmps.getD d undef)) (K : Act → World → Prop) (Q : Exit → Act → World → Prop)
  (hK : ∀ u w' ι', After ι H H' w w' ι' → VR H.lo ι' v u → K (a.put o.dst u) w') :
  if Region.wanted o (yielded ops a.tmps) then o.wp P a w K Q ∨ (o.asks P a w ∧ LetsOut Q) else K (a.put o.dst undef) w := by
 cases h with
 | plain k v H' hg h =>
  rw [if_pos (by simp [Region.wanted, hg])]
  exact .inl (h.sim hC hr hv K Q hK)
 | yes j b d k v H' hg hd ht h =>
  have h1 := hgd d ⟨j, b, hg, hd⟩
  rw [ht] at h1
  rw [wanted_of (P := P) hg hd h1.bool_eq, if_pos (by simp)]
  exact .inl (h.sim hC hr hv K Q hK)
 | no j b c d hg hd ht hc =>
  have h1 := hgd d ⟨j, b, hg, hd⟩
  rw [ht] at h1
  rw [wanted_of (P := P) hg hd h1.bool_eq, if_neg (by simpa using hc)]
  exact hK undef w ι (After.refl hr) (.tuple _ _ rfl (fun i h1 _ => by simp at h1))
 | nou j b d hg hd ht =>
  have h1 := hgd d ⟨j, b, hg, hd⟩
  rw [ht] at h1
  rw [wanted_undef hg hd h1.undef_eq, if_neg (by simp)]
  exact hK undef w ι (After.refl hr) (.tuple _ _ rfl (fun i h1 _ => by simp at h1))
inductive ORun (P : Program) (C : CallRel) (ops : Array Oper) : Nat → T → AH → T → AH → Prop
 | done (i : Nat) (t : T) (H : AH) (h : ops.size ≤ i) : ORun P C ops i t H t H
 | step (i : Nat) (o : Oper) (t : T) (H : AH) (k : Kind) (v : Value) (H1 : AH) (t' : T) (H' : AH) (ho : ops[i]? = some o) (hs : StepG P C ops o t H k v H1) (h : ORun P C ops (i + 1) (put t o.dst v) H1 t' H') : ORun P C ops i t H t' H'
theorem ORun.sim {P : Program} {C : CallRel} (hC : Snd P C) {G N : Nat} {ops : Array Oper} (hok : okOps G N ops = true) {i : Nat} {t t' : T} {H H' : AH} (h : ORun P C ops i t H t' H') :
  ∀ {ι : Inj} {a : Act} {w : World}, G ≤ H.lo → R ι H w → FR H.lo ι t a → a.tmps.size = N → ∀ (Q : Exit → Act → World → Prop),
   (∀ a' w' ι', After ι H H' w w' ι' → FR H.lo ι' t' a' → a'.tmps.size = N → a'.defers = a.defers → Q .normal a' w') → wpOps P ops Q (List.range' i (ops.size - i)) a w := by
 induction h with
 | done i t H h =>
  intro ι a w hG hr hf hN Q hQ
  rw [Nat.sub_eq_zero_of_le h]
  exact hQ a w ι (After.refl hr) hf hN rfl
 | step i o t H k v H1 t' H' ho hs h ih =>
  intro ι a w hG hr hf hN Q hQ
  have hi : i < ops.size := (Array.getElem?_eq_some_iff.1 ho).1
  rw [show ops.size - i = (ops.size - (i + 1)) + 1 by omega, List.range'_succ]
  unfold wpOps
  rw [ho]
  simp only
  refine hs.sim hC hr (fun x hx => aev_VR hr hf (okOps_op hok ho hG x hx)) (fun d _ => hf d) _ Q (fun u w' ι' ha hu => ?_)
  have hl := ha.1.lo
  refine ih (by rw [hl]; exact hG) ha.2.1 (by rw [hl]; exact (hf.mono ha.1.ext).put hu (fun d hd => hN ▸ okOps_dst hok ho hd)) (by cases o.dst <;> simp [Act.put, hN]) Q (fun a' w'' ι'' ha' hf' hN' hd' => ?_)
  exact hQ a' w'' ι'' (ha.trans hr ha') (hl ▸ hf') hN' (hd'.trans (by cases o.dst <;> rfl))
end Go.Vm
