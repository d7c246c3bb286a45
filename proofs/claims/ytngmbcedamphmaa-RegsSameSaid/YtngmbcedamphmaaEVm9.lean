/-
  Part of an evaluator for the model, proved sound: no condition.
-/
import Derived.Test.YtngmbcedamphmaaEVm8
set_option linter.unusedSimpArgs false
set_option linter.unusedVariables false
namespace Go.Vm
open Go
def bindsE (e : Edge) : Bool := Region.binds .any e
inductive Dep (ops : Array Oper) : Nat → Nat → Prop
 | edge (i j : Nat) (o : Oper) (e : Edge) (ho : ops[j]? = some o) (he : e ∈ o.after) (hb : bindsE e = true) (hi : e.on = i) : Dep ops i j
 | trans (i k j : Nat) (h : Dep ops i k) (h' : Dep ops k j) : Dep ops i j
def maskOf (acc : List Nat) (o : Oper) : Nat := o.after.toList.foldl (fun m e => if bindsE e then m ||| (2 ^ e.on) ||| acc.getD e.on 0 else m) 0
def masks (ops : List Oper) (acc : List Nat) : List Nat :=
 match ops with
 | [] => acc
 | o :: r => masks r (acc ++ [maskOf acc o])
def depB (ops : Array Oper) (i j : Nat) : Bool := ((masks ops.toList []).getD j 0).testBit i
theorem maskOf_bit {ops : Array Oper} {acc : List Nat} {o : Oper} {i : Nat} (h : (maskOf acc o).testBit i = true) : ∃ e ∈ o.after, bindsE e = true ∧ (e.on = i ∨ (acc.getD e.on 0).testBit i = true) := by
 unfold maskOf at h
 have key : ∀ (l : List Edge) (m : Nat), (l.foldl (fun m e => if bindsE e then m ||| (2 ^ e.on) ||| acc.getD e.on 0 else m) m).testBit i = true → m.testBit i = true ∨ ∃ e ∈ l, bindsE e = true ∧ (e.on = i ∨ (acc.getD e.on 0).testBit i = true) := by
  intro l
  induction l with
  | nil => intro m h; exact .inl h
  | cons e l ih =>
   intro m h
   rw [List.foldl_cons] at h
   rcases ih _ h with h | ⟨e', h1, h2⟩
   ·by_cases hb : bindsE e = true
    ·rw [if_pos hb, Nat.testBit_or, Nat.testBit_or, Bool.or_eq_true, Bool.or_eq_true] at h
     rcases h with (h | h) | h
     ·exact .inl h
     ·refine .inr ⟨e, by simp, hb, .inl ?_⟩
      rw [Nat.testBit_two_pow] at h
      exact of_decide_eq_true h
     ·exact .inr ⟨e, by simp, hb, .inr h⟩
    ·rw [if_neg hb] at h
     exact .inl h
   ·exact .inr ⟨e', by simp [h1], h2⟩
 rcases key _ _ h with h | ⟨e, h1, h2⟩
 ·simp at h
 ·exact ⟨e, Array.mem_toList_iff.1 h1, h2⟩
theorem depB_ok {ops : Array Oper} {i j : Nat} (h : depB ops i j = true) : Dep ops i j := by
 have key : ∀ (r : List Oper) (acc : List Nat), (∀ k o, r[k]? = some o → ops[acc.length + k]? = some o) → (∀ j i, (acc.getD j 0).testBit i = true → Dep ops i j) → ∀ j i, ((masks r acc).getD j 0).testBit i = true → Dep ops i j := by
  intro r
  induction r with
  | nil => intro acc _ h; exact h
  | cons o r ih =>
   intro acc hr ha
   refine ih (acc ++ [maskOf acc o]) (fun k o' hk => ?_) (fun j i hb => ?_)
   ·rw [List.length_append, List.length_singleton, Nat.add_assoc, Nat.add_comm 1 k]
    exact hr (k + 1) o' (by simpa using hk)
   ·by_cases hj : j < acc.length
    ·rw [List.getD_eq_getElem?_getD, List.getElem?_append_left hj, ← List.getD_eq_getElem?_getD] at hb
     exact ha j i hb
    ·by_cases hj2 : j = acc.length
     ·subst hj2
      rw [List.getD_eq_getElem?_getD, List.getElem?_append_right (Nat.le_refl _)] at hb
      simp at hb
      obtain ⟨e, h1, h2, h3⟩ := maskOf_bit (ops := ops) hb
      have ho : ops[acc.length]? = some o := by simpa using hr 0 o rfl
      have he : Dep ops e.on acc.length := .edge _ _ o e ho h1 h2 rfl
      rcases h3 with h3 | h3
      ·exact h3 ▸ he
      ·exact .trans _ _ _ (ha _ _ h3) he
     ·rw [List.getD_eq_getElem?_getD, List.getElem?_eq_none (by simp; omega)] at hb
      simp at hb
 exact key ops.toList [] (fun k o hk => by simpa using hk) (fun j i hb => by simp at hb) j i h
def looks (ops : Array Oper) (o : Oper) : List Tmp := o.looksAt ops
def edgesOk (ops : Array Oper) : Bool := ops.toList.zipIdx.all fun (o, i) => o.after.toList.all fun e => !bindsE e || decide (e.on < i)
def apartOk (ops : Array Oper) : Bool := (List.range ops.size).all fun j => (List.range j).all fun i => depB ops i j || (match ops[i]?, ops[j]? with | some x, some y => x.apart ops y | _, _ => true)
theorem edgesOk_lt {ops : Array Oper} (h : edgesOk ops = true) {i j : Nat} (hd : Dep ops i j) : i < j := by
 induction hd with
 | edge i j o e ho he hb hi =>
  unfold edgesOk at h
  have := (List.all_eq_true.1 h) (o, j) (by
   rw [List.mem_zipIdx_iff_getElem?]; simpa using ho)
  have := (List.all_eq_true.1 this) e (by simpa using he)
  simp only [hb, Bool.not_true, Bool.false_or, decide_eq_true_eq] at this
  omega
 | trans i k j h h' ih ih' => omega
theorem apartOk_at {ops : Array Oper} (h : apartOk ops = true) {i j : Nat} {x y : Oper} (hij : i < j) (hx : ops[i]? = some x) (hy : ops[j]? = some y) (hd : depB ops i j = false) :
  (∀ d, x.dst = some d → d ∉ looks ops y) ∧ (∀ d, x.dst = some d → y.dst ≠ some d) ∧ (∀ d, y.dst = some d → d ∉ looks ops x) := by
 have hj := (Array.getElem?_eq_some_iff.1 hy).1
 have h1 := (List.all_eq_true.1 h) j (List.mem_range.2 hj)
 have h2 := (List.all_eq_true.1 h1) i (List.mem_range.2 hij)
 rw [hd, hx, hy] at h2
 exact Oper.apart_spec (by simpa using h2)
structure Trace (P : Program) (C : CallRel) (ops : Array Oper) (t0 : T) (H0 : AH) (Hf : Nat → AH) (tf : Nat → T) (kf : Nat → Kind) (vf : Nat → Value) : Prop where
 h0 : Hf 0 = H0
 t0 : tf 0 = t0
 step : ∀ i o, ops[i]? = some o → StepG P C ops o (tf i) (Hf i) (kf i) (vf i) (Hf (i + 1)) ∧ tf (i + 1) = put (tf i) o.dst (vf i)
 d1 : ∀ j r e, j < ops.size → e < ops.size → kf j = .read r → kf e = .eff → depB ops e j = false → depB ops j e = false → r.b < (Hf e).next → (Hf (e + 1)).look r = (Hf e).look r
 d2 : ∀ i b e, i < e → e < ops.size → kf i = .alloc b → kf e = .eff → depB ops i e = false → (Hf (e + 1)).get b = (Hf e).get b
 rd : ∀ j r, j < ops.size → kf j = .read r → r.b < (Hf j).next
 s2 : ∀ i j, i < j → j < ops.size → kf i = .eff → kf j = .eff → depB ops i j = true
theorem Step.next {P : Program} {C : CallRel} (hC : ∀ g args H v H', C g args H v H' → H.next ≤ H'.next ∧ H'.lo = H.lo) {o : Oper} {t : T} {H H' : AH} {k : Kind} {v : Value} (h : Step P C o t H k v H') :
  H.next ≤ H'.next ∧ H'.lo = H.lo ∧ (k = .eff ∨ ((∀ b, b < H.next → H'.get b = H.get b) ∧ (H'.next = H.next ∨ (k = .alloc H.next ∧ H'.next = H.next + 1)))) := by
 cases h with
 | p v h => exact ⟨Nat.le_refl _, rfl, .inr ⟨fun _ _ => rfl, .inl rfl⟩⟩
 | b v h => exact ⟨Nat.le_refl _, rfl, .inr ⟨fun _ _ => rfl, .inl rfl⟩⟩
 | l r v h => exact ⟨Nat.le_refl _, rfl, .inr ⟨fun _ _ => rfl, .inl rfl⟩⟩
 | lc b off v h => exact ⟨Nat.le_refl _, rfl, .inr ⟨fun _ _ => rfl, .inl rfl⟩⟩
 | a v x h => exact ⟨by simp [AH.new], rfl, .inr ⟨fun b hb => by simp [AH.new, Nat.ne_of_lt hb], .inr ⟨rfl, rfl⟩⟩⟩
 | m r H' h => exact ⟨by cases h <;> simp [AH.upd], by cases h <;> rfl, .inl rfl⟩
 | app r H' h =>
  generalize aev t = ρ at h
  cases h with
  | idle => exact ⟨Nat.le_refl _, rfl, .inl rfl⟩
  | bytes => exact ⟨by simp [AH.new], rfl, .inl rfl⟩
  | mark => exact ⟨Nat.le_refl _, rfl, .inl rfl⟩
  | put x y t t' e i z len n old vs H1 ho hu hi hz hzs hs hd =>
   generalize ρ x = X at hd
   cases hd <;> exact ⟨by simp [AH.new, AH.upd], rfl, .inl rfl⟩
 | call f xs ts g us vs v H' ho hf he hc => exact ⟨(hC _ _ _ _ _ hc).1, (hC _ _ _ _ _ hc).2, .inl rfl⟩
theorem StepG.next {P : Program} {C : CallRel} (hC : ∀ g args H v H', C g args H v H' → H.next ≤ H'.next ∧ H'.lo = H.lo) {ops : Array Oper} {o : Oper} {t : T} {H H' : AH} {k : Kind} {v : Value} (h : StepG P C ops o t H k v H') :
  H.next ≤ H'.next ∧ H'.lo = H.lo ∧ (k = .eff ∨ ((∀ b, b < H.next → H'.get b = H.get b) ∧ (H'.next = H.next ∨ (k = .alloc H.next ∧ H'.next = H.next + 1)))) := by
 cases h with
 | plain k v H' hg h => exact h.next hC
 | yes j b d k v H' hg hd ht h => exact h.next hC
 | no j b c d hg hd ht hc => exact ⟨Nat.le_refl _, rfl, .inr ⟨fun _ _ => rfl, .inl rfl⟩⟩
 | nou j b d hg hd ht => exact ⟨Nat.le_refl _, rfl, .inr ⟨fun _ _ => rfl, .inl rfl⟩⟩
end Go.Vm
