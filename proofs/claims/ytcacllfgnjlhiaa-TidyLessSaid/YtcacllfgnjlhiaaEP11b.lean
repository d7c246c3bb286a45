/-
 A function swept: what is left out.
-/
import Derived.Test.YtcacllfgnjlhiaaEP11a
set_option linter.unusedSimpArgs false
set_option linter.unusedVariables false
set_option linter.unusedSectionVars false
namespace Go.Vm.G11
open Go
def sel (kp : Nat → Bool) : Nat → List TIns → List TIns
 | _, [] => []
 | i, x :: xs => if kp i = true then x :: sel kp (i + 1) xs else sel kp (i + 1) xs
theorem sel_snoc (kp : Nat → Bool) : ∀ (i : Nat) (xs : List TIns) (x : TIns), sel kp i (xs ++ [x]) = if kp (i + xs.length) = true then sel kp i xs ++ [x] else sel kp i xs
 | i, [], x => by simp [sel]
 | i, y :: xs, x => by
  have := sel_snoc kp (i + 1) xs x
  rw [show i + 1 + xs.length = i + (y :: xs).length by simp; omega] at this
  simp only [List.cons_append, sel, this]
  by_cases h1 : kp i = true <;> by_cases h2 : kp (i + (y :: xs).length) = true <;> simp only [h1, h2, if_true, if_false, List.cons_append, Bool.false_eq_true]
theorem sel_sub (kp : Nat → Bool) : ∀ (i : Nat) (xs : List TIns), (sel kp i xs).Sublist xs
 | _, [] => List.Sublist.refl _
 | i, x :: xs => by
  unfold sel
  split
  ·exact (sel_sub kp (i + 1) xs).cons_cons x
  ·exact (sel_sub kp (i + 1) xs).cons x
def retI : TIns := ⟨15, (-1), (-1), (-1), 0, [], 0, false, false⟩
def shut (xs : List TIns) : List TIns := match xs.getLast? with
 | none => xs ++ [retI]
 | some l => if l.op = 11 then xs ++ [retI] else xs
structure Fine (f : TFunc) : Prop where
 len : f.code.length ≤ 1000
 pos : 0 < f.code.length
 regs : f.regs ≤ 1000
 args : ∀ x ∈ f.code, x.args.length ≤ 1000
 pure : ∀ x ∈ f.code, 1 ≤ x.op → x.op ≤ 8 → 0 ≤ x.d ∧ x.d < f.regs
def Idle (f : TFunc) (k : Nat) (x : TIns) : Prop :=
 (x.op = 2 ∧ x.d = x.a) ∨ (x.op = 12 ∧ ∃ y, f.code[k + 1]? = some y ∧ y.op = 11 ∧ y.imm = x.imm) ∨ ((1 ≤ x.op ∧ x.op ≤ 8) ∧ ∀ j ∈ nx f k, ¬ Nd f x.d j.toNat)
section
variable {f : TFunc} {R : Nat} {G : Nat → Nat → Bool}
theorem has_is (hf : Fine f) (hreg : max f.regs 0 = (R : Int)) (hG : ∀ i r, i < f.code.length → r < R → (G i r = true ↔ Nd f r i)) {k : Nat} {x : TIns} (hk : f.code[k]? = some x) (h1 : 1 ≤ x.op) (h8 : x.op ≤ 8) :
  Ok (slices_ContainsFunc (nx f k) (tt f.code.length R G) x) (fun b => b = true ↔ ∃ j ∈ nx f k, Nd f x.d j.toNat) := by
 have hk' := (List.getElem?_eq_some_iff.1 hk).1
 have hn := nx_at f hf.len k hk'
 obtain ⟨d0, d1⟩ := hf.pure x (List.mem_of_getElem? hk) h1 h8
 have hd : x.d = ((x.d.toNat : Nat) : Int) := by omega
 have hdR : x.d.toNat < R := by omega
 have one : ∀ j ∈ nx f k, Ok (tidy_idle_c1 j (tt f.code.length R G) x) (fun b => b = true ↔ Nd f x.d j.toNat) := fun j hj => by
  obtain ⟨j0, j1⟩ := hn.2 j hj
  unfold tidy_idle_c1
  have e1 := ix_tb (g := fun i => tb R (G i)) (k := j.toNat) (n := f.code.length) (by omega)
  rw [show ((j.toNat : Nat) : Int) = j by omega] at e1
  rw [e1]
  simp only [Option.bind_some]
  have e2 := ix_tb (g := G j.toNat) (k := x.d.toNat) (n := R) hdR
  rw [← hd] at e2
  rw [e2]
  simp only [Option.bind_some]
  have := hG j.toNat x.d.toNat (by omega) hdR
  rw [← hd] at this
  exact .ret this
 unfold slices_ContainsFunc slices_IndexFunc_2 slices_IndexFunc_2_l1
 refine Ok.bind (P := fun p => 0 ≤ p ↔ ∃ j ∈ nx f k, Nd f x.d j.toNat) ?_ (fun p hp => .ret (by simpa using hp))
 refine loop_for (nx f k) (fun i s => s = (i : Int) ∧ ∀ y ∈ (nx f k).take i, ¬ Nd f x.d y.toNat) (fun i j s hi' hi hs => ?_) (fun s hs => ?_) ⟨rfl, by simp⟩
 ·obtain ⟨rfl, hs⟩ := hs
  unfold slices_IndexFunc_2_l1b
  rw [if_pos (by simp; omega), ix_nat, hi]
  simp only [Option.bind_some]
  refine (one j (List.mem_of_getElem? hi)).bind fun b hb => .ite (fun h => .map (.ret ?_)) (fun h => .ret ⟨w64_succ (by omega), fun y hy => ?_⟩)
  ·exact ⟨fun _ => ⟨j, List.mem_of_getElem? hi, hb.1 h⟩, fun _ => by omega⟩
  ·rw [mem_take_succ hi'] at hy
   rcases hy with hy | rfl
   ·exact hs y hy
   ·rw [List.getElem?_eq_getElem hi'] at hi
    rw [Option.some.inj hi]
    intro hc
    rw [hb.2 hc] at h
    cases h
 ·obtain ⟨rfl, hs⟩ := hs
  unfold slices_IndexFunc_2_l1b
  rw [if_neg (by simp)]
  rw [List.take_length] at hs
  exact .map (.ret ⟨fun h => by omega, fun ⟨j, h1, h2⟩ => (hs j h1 h2).elim⟩)
theorem idle_is (hf : Fine f) (hreg : max f.regs 0 = (R : Int)) (hG : ∀ i r, i < f.code.length → r < R → (G i r = true ↔ Nd f r i)) {k : Nat} {x : TIns} (hk : f.code[k]? = some x) :
  Ok (tidy_idle f k (tt f.code.length R G)) (fun b => b = true ↔ Idle f k x) := by
 have hk' := (List.getElem?_eq_some_iff.1 hk).1
 have hl := hf.len
 have rest : ∀ b : Bool, (b = true ↔ x.op = 12 ∧ ∃ y, f.code[k + 1]? = some y ∧ y.op = 11 ∧ y.imm = x.imm) → ¬ (x.op = 2 ∧ x.d = x.a) → Ok (tidy_idle_k1 f k (tt f.code.length R G) x b) (fun b => b = true ↔ Idle f k x) := fun b hb h2 => by
  unfold tidy_idle_k1
  refine .ite (fun h => .ret ⟨fun _ => .inr (.inl (hb.1 h)), fun _ => rfl⟩) fun h => ?_
  have hb' : ¬ (x.op = 12 ∧ ∃ y, f.code[k + 1]? = some y ∧ y.op = 11 ∧ y.imm = x.imm) := fun e => by rw [hb.2 e] at h; cases h
  unfold ir_Pure
  simp only [Option.bind_some]
  refine Ok.bind (P := fun b => b = true ↔ Idle f k x) (.ite (fun hp => ?_) fun hp => .ret ⟨fun h => (by cases h), ?_⟩) fun b hb => .ret hb
  ·simp only [Bool.and_eq_true, decide_eq_true_eq] at hp
   rw [Next_at f hf.len k hk']
   simp only [Option.bind_some]
   refine (has_is hf hreg hG hk hp.1 hp.2).bind fun c hc => .ret ?_
   constructor
   ·intro hc2
    refine .inr (.inr ⟨hp, fun j hj hn => ?_⟩)
    have := hc.2 ⟨j, hj, hn⟩
    rw [this] at hc2; cases hc2
   ·rintro (h | h | h)
    ·exact (h2 h).elim
    ·exact (hb' h).elim
    ·cases hcc : c with
     | false => rfl
     | true =>
      obtain ⟨j, hj, hn⟩ := hc.1 hcc
      exact (h.2 j hj hn).elim
  ·rintro (h | h | h)
   ·exact (h2 h).elim
   ·exact (hb' h).elim
   ·simp [h.1.1, h.1.2] at hp
 unfold tidy_idle
 rw [ix_nat, hk]
 simp only [Option.bind_some]
 refine .ite (fun h => .ret ⟨fun _ => .inl (by simpa using h), fun _ => rfl⟩) fun h => ?_
 have h2 : ¬ (x.op = 2 ∧ x.d = x.a) := by simpa using h
 refine .ite (fun h12 => ?_) fun h12 => rest _ ⟨fun h => (by cases h), fun h => by simp [h.1] at h12⟩ h2
 have h12 : x.op = 12 := by simpa using h12
 rw [w64_succ (by omega)]
 refine .ite (fun hlt => ?_) fun hlt => rest _ ⟨fun h => (by cases h), fun h => ?_⟩ h2
 ·have hlt : k + 1 < f.code.length := by simp at hlt; omega
  rw [ix_some hlt]
  simp only [Option.bind_some]
  have hg := List.getElem?_eq_getElem hlt
  refine .ite (fun h11 => rest _ ?_ h2) fun h11 => rest _ ⟨fun h => (by cases h), fun h => ?_⟩ h2
  ·have h11 : f.code[k + 1].op = 11 := by simpa using h11
   rw [hg]
   constructor
   ·intro h
    exact ⟨h12, _, rfl, h11, by simpa using h⟩
   ·rintro ⟨_, y, h3, h4, h5⟩
    cases h3
    simpa using h5
  ·obtain ⟨_, y, h3, h4, h5⟩ := h
   rw [hg] at h3
   cases h3
   simp [h4] at h11
 ·obtain ⟨_, y, h3, _⟩ := h
  have := (List.getElem?_eq_some_iff.1 h3).1
  simp at hlt; omega
def Kept (f : TFunc) (k : Nat) (x : TIns) : Prop := x.op = 11 ∨ (Rc f k ∧ ¬ Idle f k x)
def Swp (f g : TFunc) : Prop := ∃ kp : Nat → Bool, g = ⟨f.name, f.params, f.regs, shut (sel kp 0 f.code)⟩ ∧ ∀ k x, f.code[k]? = some x → (kp k = true ↔ Kept f k x)
theorem shut_is (n : ByteArray) (p r : Int) (f : TFunc) (xs : List TIns) (hx : xs.length ≤ 1000) (s : TFunc × Bool → Prop) (h : ∀ b, s (⟨f.name, f.params, f.regs, shut xs⟩, b)) :
  Ok ((if decide ((xs.length : Int) = 0) then some true else (ix xs (w64 ((xs.length : Int) - 1))).bind fun x238 => some (decide (x238.op = 11))).bind fun y200 =>
   if y200 then (ap xs ([(⟨15, (-1), (-1), (-1), 0, [], 0, false, false⟩ : TIns)])).bind fun xs220 => tidy_swept_k2 f xs xs220 else tidy_swept_k2 f xs xs) s := by
 have hap : ap xs ([(⟨15, (-1), (-1), (-1), 0, [], 0, false, false⟩ : TIns)]) = some (xs ++ [retI]) := ap_some (by simp; omega)
 rw [hap]
 unfold tidy_swept_k2
 simp only [Option.bind_some]
 unfold shut at h
 cases hl : xs.getLast? with
 | none =>
  have : xs = [] := List.getLast?_eq_none_iff.1 hl
  subst this
  rw [hl] at h
  exact ⟨_, rfl, h _⟩
 | some l =>
  have hne : xs ≠ [] := fun e => by rw [e] at hl; cases hl
  have hpos : 0 < xs.length := List.length_pos_iff.2 hne
  rw [hl] at h
  have hix : ix xs (w64 ((xs.length : Int) - 1)) = some l := by
   rw [w64_id (by omega) (by omega), show ((xs.length : Int) - 1) = ((xs.length - 1 : Nat) : Int) by omega, ix_nat, ← List.getLast?_eq_getElem?, hl]
  rw [if_neg (by simp; exact hne), hix]
  simp only [Option.bind_some]
  by_cases ho : l.op = 11
  ·simp only [ho, if_true] at h
   rw [if_pos (by simpa using ho)]
   exact ⟨_, rfl, h _⟩
  ·simp only [ho, if_false] at h
   rw [if_neg (by simpa using ho)]
   exact ⟨_, rfl, h _⟩
open Classical in
theorem swept_is (hf : Fine f) : Ok (tidy_swept f) (fun r => Swp f r.1) := by
 have hR : max f.regs 0 = (((max f.regs 0).toNat : Nat) : Int) := by omega
 have hR2 : (max f.regs 0).toNat ≤ 1000 := by have := hf.regs; omega
 unfold tidy_swept
 refine (Live_is f _ hf.len hR2 hR hf.args).bind ?_
 rintro _ ⟨G, rfl, hG⟩
 refine (Reached_is hf.len hf.pos).bind ?_
 rintro _ ⟨V, rfl, hV⟩
 unfold tidy_swept_l1
 have hl := hf.len
 refine Ok.loop (B := fun s => tidy_swept_l1b f (tt f.code.length (max f.regs 0).toNat G) (tb f.code.length V) s.1 s.2) (fun i s => s = (sel (fun k => decide (∃ x, f.code[k]? = some x ∧ Kept f k x)) 0 (f.code.take i), (i : Int))) f.code.length (fun i s hi hs => ?_) (fun s hs => ?_) (by simp [sel])
 ·subst hs
  show Ok (tidy_swept_l1b f _ _ _ _) _
  unfold tidy_swept_l1b
  have hk : f.code[i]? = some f.code[i] := List.getElem?_eq_getElem hi
  have htk : f.code.take (i + 1) = f.code.take i ++ [f.code[i]] := by rw [List.take_add_one, hk]; rfl
  have hsn := sel_snoc (fun k => decide (∃ x, f.code[k]? = some x ∧ Kept f k x)) 0 (f.code.take i) f.code[i]
  rw [← htk, show 0 + (f.code.take i).length = i by simp; omega] at hsn
  have hle : (sel (fun k => decide (∃ x, f.code[k]? = some x ∧ Kept f k x)) 0 (f.code.take i)).length ≤ 1000 := by
   have := (sel_sub (fun k => decide (∃ x, f.code[k]? = some x ∧ Kept f k x)) 0 (f.code.take i)).length_le
   simp at this; omega
  rw [if_pos (by simp; omega), ix_some hi]
  simp only [Option.bind_some]
  refine Ok.bind (P := fun b => b = true ↔ Kept f i f.code[i]) (.ite (fun h => .ret ⟨fun _ => .inl (by simpa using h), fun _ => rfl⟩) fun h => ?_) fun b hb => ?_
  ·rw [ix_tb hi]
   simp only [Option.bind_some]
   have h11 : ¬ f.code[i].op = 11 := by simpa using h
   refine Ok.bind (P := fun b => b = true ↔ Kept f i f.code[i]) (.ite (fun hv => ?_) fun hv => .ret ⟨fun h => (by cases h), ?_⟩) fun b hb => .ret hb
   ·refine (idle_is hf hR hG hk).bind fun b hb => .ret ?_
    constructor
    ·intro h
     refine .inr ⟨(hV i hi).1 hv, fun hc => ?_⟩
     rw [hb.2 hc] at h; cases h
    ·rintro (h | h)
     ·exact (h11 h).elim
     ·cases hcc : b with
      | false => rfl
      | true => exact (h.2 (hb.1 hcc)).elim
   ·rintro (h | h)
    ·exact (h11 h).elim
    ·rw [(hV i hi).2 h.1] at hv; cases hv
  ·refine .ite (fun h => ?_) fun h => ?_
   ·rw [ap_some (by simp; omega)]
    simp only [Option.bind_some]
    refine .ret ?_
    show _ = _
    rw [w64_succ (by omega), hsn, if_pos (decide_eq_true ⟨_, hk, hb.1 h⟩)]
   ·refine .ret ?_
    show _ = _
    rw [w64_succ (by omega), hsn, if_neg ?_]
    simp only [decide_eq_true_eq]
    rintro ⟨x, hx, hx2⟩
    rw [hk] at hx
    cases hx
    rw [hb.2 hx2] at h
    cases h
 ·subst hs
  show Ok (tidy_swept_l1b f _ _ _ _) _
  unfold tidy_swept_l1b
  rw [if_neg (by simp), List.take_length]
  have hle : (sel (fun k => decide (∃ x, f.code[k]? = some x ∧ Kept f k x)) 0 f.code).length ≤ 1000 := by
   have := (sel_sub (fun k => decide (∃ x, f.code[k]? = some x ∧ Kept f k x)) 0 f.code).length_le
   omega
  refine .map ((shut_is f.name 0 0 f _ hle _ fun b => ?_))
  refine ⟨_, rfl, fun k x hk => ?_⟩
  rw [decide_eq_true_iff]
  constructor
  ·rintro ⟨y, hy, h⟩
   rw [hk] at hy
   cases hy
   exact h
  ·exact fun h => ⟨x, hk, h⟩
end
end Go.Vm.G11
