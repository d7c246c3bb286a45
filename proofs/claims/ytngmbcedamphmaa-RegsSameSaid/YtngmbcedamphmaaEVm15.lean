/-
  Part of an evaluator for the model, proved sound: no condition.
-/
import Derived.Test.YtngmbcedamphmaaEVm14
set_option linter.unusedSimpArgs false
set_option linter.unusedVariables false
namespace Go.Vm
open Go
def fr (l : List (Nat × Value)) : T := fun i => ((l.find? fun p => p.1 == i).map (·.2)).getD topV
theorem fr_put (l : List (Nat × Value)) (d : Tmp) (v : Value) : put (fr l) (some d) v = fr ((d, v) :: l) := by
 funext i
 simp only [put, fr, List.find?_cons]
 by_cases hi : i = d
 ·subst hi; simp
 ·rw [if_neg hi]
  have : (d == i) = false := by simpa using Ne.symm hi
  rw [this]
theorem fr_weak {l l' : List (Nat × Value)} (h : ∀ p ∈ l', fr l p.1 = p.2) (i : Nat) : fr l' i = fr l i ∨ fr l' i = topV := by
 cases hf : l'.find? fun p => p.1 == i with
 | none => right; simp [fr, hf]
 | some p =>
  left
  have h1 := List.mem_of_find?_eq_some hf
  have h2 := List.find?_some hf
  have h3 := h p h1
  simp at h2
  simp only [fr, hf, Option.map_some, Option.getD_some]
  rw [← h3, ← h2]
  rfl
section
variable {P : Program} {G N : Nat}
abbrev LQ := List (Nat × Value) → AH → Prop
def WO (P : Program) (G : Nat) (ops : Array Oper) (i : Nat) (l : List (Nat × Value)) (H : AH) (Q : LQ) : Prop := ∃ l' H', ORun P (Cl P G) ops i (fr l) H (fr l') H' ∧ Q l' H'
theorem WO.done {ops : Array Oper} {i : Nat} {l : List (Nat × Value)} {H : AH} {Q : LQ} (h : ops.size ≤ i) (hq : Q l H) : WO P G ops i l H Q := ⟨l, H, .done i _ H h, hq⟩
theorem WO.g {ops : Array Oper} {i : Nat} {l : List (Nat × Value)} {H : AH} {Q : LQ} {o : Oper} {d : Tmp} {k : Kind} {v : Value} {H1 : AH} (ho : ops[i]? = some o) (hd : o.dst = some d) (hs : StepG P (Cl P G) ops o (fr l) H k v H1)
  (h : WO P G ops (i + 1) ((d, v) :: l) H1 Q) : WO P G ops i l H Q := by
 obtain ⟨l', H', h1, h2⟩ := h
 exact ⟨l', H', .step i o _ H k v H1 _ H' ho hs (by rw [hd, fr_put]; exact h1), h2⟩
theorem WO.s {ops : Array Oper} {i : Nat} {l : List (Nat × Value)} {H : AH} {Q : LQ} {o : Oper} {d : Tmp} {k : Kind} {v : Value} {H1 : AH} (ho : ops[i]? = some o) (hd : o.dst = some d) (hg : o.guard = none) (hs : Step P (Cl P G) o (fr l) H k v H1)
  (h : WO P G ops (i + 1) ((d, v) :: l) H1 Q) : WO P G ops i l H Q := WO.g ho hd (.plain k v H1 hg hs) h
theorem WO.n {ops : Array Oper} {i : Nat} {l : List (Nat × Value)} {H : AH} {Q : LQ} {o : Oper} {k : Kind} {v : Value} {H1 : AH} (ho : ops[i]? = some o) (hd : o.dst = none) (hg : o.guard = none) (hs : Step P (Cl P G) o (fr l) H k v H1)
  (h : WO P G ops (i + 1) l H1 Q) : WO P G ops i l H Q := by
 obtain ⟨l', H', h1, h2⟩ := h
 exact ⟨l', H', .step i o _ H k v H1 _ H' ho (.plain k v H1 hg hs) (by rw [hd]; exact h1), h2⟩
theorem WO.y {ops : Array Oper} {i : Nat} {l : List (Nat × Value)} {H : AH} {Q : LQ} {o : Oper} {d : Tmp} {k : Kind} {v : Value} {H1 : AH} {j : Nat} {b : Bool} {e : Tmp} (ho : ops[i]? = some o) (hd : o.dst = some d) (hg : o.guard = some (j, b))
  (he : (ops[j]?).bind (·.dst) = some e) (ht : fr l e = .bool b) (hs : Step P (Cl P G) o (fr l) H k v H1) (h : WO P G ops (i + 1) ((d, v) :: l) H1 Q) : WO P G ops i l H Q := WO.g ho hd (.yes j b e k v H1 hg he ht hs) h
theorem WO.x {ops : Array Oper} {i : Nat} {l : List (Nat × Value)} {H : AH} {Q : LQ} {o : Oper} {d : Tmp} {j : Nat} {b c : Bool} {e : Tmp} (ho : ops[i]? = some o) (hd : o.dst = some d) (hg : o.guard = some (j, b))
  (he : (ops[j]?).bind (·.dst) = some e) (ht : fr l e = .bool c) (hc : c ≠ b) (h : WO P G ops (i + 1) ((d, undef) :: l) H Q) : WO P G ops i l H Q := WO.g ho hd (.no j b c e hg he ht hc) h
abbrev XQ := VX → List (Nat × Value) → AH → Prop
def WP (P : Program) (G N : Nat) (c : Code) (Q : XQ) (l : List (Nat × Value)) (H : AH) : Prop := ∃ e l' H', Ev P (Cl P G) G N (.code c) (fr l) H e (fr l') H' ∧ Q e l' H'
def sq (K : LQ) (Q : XQ) : XQ := fun e l H => match e with
 | .normal => K l H
 | e => Q e l H
def blk (id : Nat) (Q : XQ) : XQ := fun e l H => Q (if e = .exit id then .normal else e) l H
theorem WP.skip {Q : XQ} {l : List (Nat × Value)} {H : AH} (h : Q .normal l H) : WP P G N .skip Q l H := ⟨_, _, _, .skip _ H, h⟩
theorem WP.exit {id : Nat} {Q : XQ} {l : List (Nat × Value)} {H : AH} (h : Q (.exit id) l H) : WP P G N (.exit id) Q l H := ⟨_, _, _, .exit id _ H, h⟩
theorem WP.ret {Q : XQ} {l : List (Nat × Value)} {H : AH} (h : Q .ret l H) : WP P G N .ret Q l H := ⟨_, _, _, .ret _ H, h⟩
theorem WP.seq {a b : Code} {Q : XQ} {l : List (Nat × Value)} {H : AH} (h : WP P G N a (sq (WP P G N b Q) Q) l H) : WP P G N (.seq a b) Q l H := by
 obtain ⟨e, l', H', h1, h2⟩ := h
 cases e with
 | normal =>
  obtain ⟨e2, l2, H2, h3, h4⟩ := h2
  exact ⟨e2, l2, H2, .seqN a b _ H _ H' e2 _ H2 h1 h3, h4⟩
 | exit id => exact ⟨_, l', H', .seqX a b _ H _ _ H' h1 (by simp), h2⟩
 | ret => exact ⟨_, l', H', .seqX a b _ H _ _ H' h1 (by simp), h2⟩
theorem WP.reg {id : Nat} {ops : Array Oper} {Q : XQ} {l : List (Nat × Value)} {H : AH} (hok : okOps G N ops = true) (h : WO P G ops 0 l H (Q .normal)) : WP P G N (.region id ops false) Q l H := by
 obtain ⟨l', H', h1, h2⟩ := h
 exact ⟨_, l', H', .region id ops _ H _ H' hok h1, h2⟩
theorem WP.sreg {id : Nat} {ops : Array Oper} {b : Code} {Q : XQ} {l : List (Nat × Value)} {H : AH} (hok : okOps G N ops = true) (h : WO P G ops 0 l H (WP P G N b Q)) : WP P G N (.seq (.region id ops false) b) Q l H := WP.seq (WP.reg hok h)
theorem WP.cond {c : Operand} {x y : Code} (b : Bool) {Q : XQ} {l : List (Nat × Value)} {H : AH} (hc : aev (fr l) c = .bool b) (ho : okOpB G c = true) (ht : b = true → WP P G N x Q l H) (hf : b = false → WP P G N y Q l H) : WP P G N (.cond c x y) Q l H := by
 cases b
 ·obtain ⟨e, l', H', h1, h2⟩ := hf rfl
  exact ⟨e, l', H', .cond c x y false _ H e _ H' hc ho h1, h2⟩
 ·obtain ⟨e, l', H', h1, h2⟩ := ht rfl
  exact ⟨e, l', H', .cond c x y true _ H e _ H' hc ho h1, h2⟩
theorem WP.blk {id : Nat} {c : Code} {Q : XQ} {l : List (Nat × Value)} {H : AH} (h : WP P G N c (blk id Q) l H) : WP P G N (.block id c) Q l H := by
 obtain ⟨e, l', H', h1, h2⟩ := h
 exact ⟨_, l', H', .block id c _ H e _ H' h1, h2⟩
theorem Ev.unloop {C : CallRel} {cd : Cd} {t t' : T} {H H' : AH} {e : VX} (h : Ev P C G N cd t H e t' H') : ∀ c, cd = .code (.loop c) → ∃ n, Ev P C G N (.lp c n) t H e t' H' := by
 induction h with
 | loop c n t H e t' H' h ih => intro c' hc; cases hc; exact ⟨n, h⟩
 | weak c t H t1 e t' H' hw h ih => intro c' hc; obtain ⟨n, hn⟩ := ih c' hc; exact ⟨n, .weak _ t H t1 e t' H' hw hn⟩
 | _ => intro c' hc; cases hc
theorem WP.loop {c : Code} {Q : XQ} {l : List (Nat × Value)} {H : AH} (h : WP P G N c (sq (WP P G N (.loop c) Q) Q) l H) : WP P G N (.loop c) Q l H := by
 obtain ⟨e, l', H', h1, h2⟩ := h
 cases e with
 | normal =>
  obtain ⟨e2, l2, H2, h3, h4⟩ := h2
  obtain ⟨n, hn⟩ := h3.unloop c rfl
  exact ⟨e2, l2, H2, .loop c (n + 1) _ H e2 _ H2 (.next c n _ H _ H' e2 _ H2 h1 hn), h4⟩
 | exit id => exact ⟨_, l', H', .loop c 1 _ H _ _ H' (.last c _ H _ _ H' h1 (by simp)), h2⟩
 | ret => exact ⟨_, l', H', .loop c 1 _ H _ _ H' (.last c _ H _ _ H' h1 (by simp)), h2⟩
theorem WP.weak {c : Code} {Q : XQ} {l : List (Nat × Value)} (l' : List (Nat × Value)) {H : AH} (hw : ∀ p ∈ l', fr l p.1 = p.2) (h : WP P G N c Q l' H) : WP P G N c Q l H := by
 obtain ⟨e, l2, H', h1, h2⟩ := h
 exact ⟨e, l2, H', .weak _ _ H _ e _ H' (fr_weak hw) h1, h2⟩
theorem WP.mono {c : Code} {Q Q' : XQ} {l : List (Nat × Value)} {H : AH} (h : WP P G N c Q l H) (hq : ∀ e l H, Q e l H → Q' e l H) : WP P G N c Q' l H := by
 obtain ⟨e, l', H', h1, h2⟩ := h
 exact ⟨e, l', H', h1, hq _ _ _ h2⟩
def fin (P : Program) (fn : Func) (Post : Value → AH → Prop) : XQ := fun e l H => (e = .normal ∨ e = .ret) ∧ ∃ vs, ResAll P (fr l) H fn.results.toList vs ∧ Post (resV vs) H
def initL (args : Array Value) : List (Nat × Value) := args.toList.zipIdx.map fun p => (p.2, p.1)
theorem Cl.of {g : FuncId} {args : Array Value} {H : AH} {fn : Func} {c : Code} {Post : Value → AH → Prop} (hG : G ≤ H.lo) (h1 : P.funcs[g]? = some fn) (h2 : fn.body = some c) (h3 : args.size ≤ fn.ntmps)
  (h : WP P G fn.ntmps c (fin P fn Post) (initL args) H) : ∃ v H', Cl P G g args H v H' ∧ Post v H' := by
 obtain ⟨e, l', H', h4, h5, vs, h6, h7⟩ := h
 refine ⟨_, H', Cl.mk hG h1 h2 h3 (.weak _ _ H _ e _ H' (fun i => ?_) h4) h5 h6, h7⟩
 cases hf : (initL args).find? fun p => p.1 == i with
 | none => right; simp [fr, hf]
 | some p =>
  left
  have h8 := List.mem_of_find?_eq_some hf
  have h9 := List.find?_some hf
  simp only [fr, hf, Option.map_some, Option.getD_some]
  unfold initL at h8
  obtain ⟨q, hq, rfl⟩ := List.mem_map.1 h8
  rw [List.mem_zipIdx_iff_getElem?] at hq
  simp at h9
  rw [h9, Array.getElem?_toList] at hq
  simp [initT, hq]
end
end Go.Vm
