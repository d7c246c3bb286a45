/-
 What the document tells of tidy.
-/
import Derived.Test.YtcacllfgnjlhiaaEP11d
set_option linter.unusedSimpArgs false
set_option linter.unusedVariables false
set_option linter.unusedSectionVars false
namespace Go.Vm.G11
open Go
theorem nd_use {f : TFunc} {r : Int} {k : Nat} (h : Nd f r k) : ∃ x ∈ f.code, us x r := by
 induction h with
 | use k x hk hu => exact ⟨x, List.mem_of_getElem? hk, hu⟩
 | go _ _ _ _ _ _ _ ih => exact ih
def oI : TIns := ⟨20, (-1), 2, (-1), 0, [], 0, false, false⟩
def f0 : TFunc := ⟨ByteArray.empty, 0, 3, [con 0 2, con 1 3, ⟨3, 2, 0, 1, 0, [], 0, false, false⟩, oI, retI]⟩
def f1 : TFunc := ⟨ByteArray.empty, 0, 3, [con 0 2, con 1 3, con 2 5, oI, retI]⟩
def f2 : TFunc := ⟨ByteArray.empty, 0, 3, [con 2 5, oI, retI]⟩
theorem row_f0 : rowF ⟨true, true, true⟩ f0 = f1 := by
 unfold rowF f1
 congr 1
theorem fine_f1 : Fine f1 := ⟨by decide, by decide, by decide, by decide, by decide⟩
theorem fine_f2 : Fine f2 := ⟨by decide, by decide, by decide, by decide, by decide⟩
theorem nx_next {f : TFunc} (h : f.code.length ≤ 1000) {k : Nat} {x : TIns} (hk : f.code[k]? = some x) (ho : x.op ≠ 12 ∧ x.op ≠ 15 ∧ x.op ≠ 16) (hl : k + 1 < f.code.length) (hj : jmp x = false) : nx f k = [((k + 1 : Nat) : Int)] := by
 have h1 : flow_Next f k = some [((k + 1 : Nat) : Int)] := by
  unfold flow_Next
  have hk' := (List.getElem?_eq_some_iff.1 hk).1
  rw [if_neg (by simp; omega), ix_nat, hk]
  simp only [Option.bind_some]
  rw [w64_succ (by omega), if_pos (by simp [ho]; omega), ap_some (by simp)]
  simp only [Option.bind_some, List.nil_append]
  unfold flow_Next_k1
  rw [if_neg (by unfold jmp at hj; rw [hj]; decide)]
  rfl
 unfold nx
 rw [h1]
 rfl
theorem rc_next {f : TFunc} (h : f.code.length ≤ 1000) {k : Nat} {x : TIns} (hr : Rc f k) (hk : f.code[k]? = some x) (ho : x.op ≠ 12 ∧ x.op ≠ 15 ∧ x.op ≠ 16) (hl : k + 1 < f.code.length) (hj : jmp x = false) : Rc f (k + 1) := by
 refine Rc.go k (k + 1) (by omega) ?_ hr
 rw [nx_next h hk ho hl hj]
 simp
theorem swp_f1 {g : TFunc} (h : Swp f1 g) : g = f2 := by
 obtain ⟨kp, rfl, hk⟩ := h
 have hl : f1.code.length ≤ 1000 := by decide
 have r0 : Rc f1 0 := Rc.zero
 have r1 : Rc f1 1 := rc_next hl r0 (x := con 0 2) rfl (by decide) (by decide) (by decide)
 have r2 : Rc f1 2 := rc_next hl r1 (x := con 1 3) rfl (by decide) (by decide) (by decide)
 have r3 : Rc f1 3 := rc_next hl r2 (x := con 2 5) rfl (by decide) (by decide) (by decide)
 have r4 : Rc f1 4 := rc_next hl r3 (x := oI) rfl (by decide) (by decide) (by decide)
 have no : ∀ r, (r = 0 ∨ r = 1) → ∀ k, ¬ Nd f1 r k := fun r hr k hn => by
  obtain ⟨x, hx, hu⟩ := nd_use hn
  have : ∀ x ∈ f1.code, ¬ us x 0 ∧ ¬ us x 1 := by unfold us; decide
  rcases hr with rfl | rfl
  ·exact (this x hx).1 hu
  ·exact (this x hx).2 hu
 have k0 : kp 0 = false := by
  rw [← Bool.not_eq_true, hk 0 (con 0 2) rfl]
  rintro (h | h)
  ·cases h
  ·exact h.2 (.inr (.inr ⟨by decide, fun j _ => no _ (.inl rfl) _⟩))
 have k1 : kp 1 = false := by
  rw [← Bool.not_eq_true, hk 1 (con 1 3) rfl]
  rintro (h | h)
  ·cases h
  ·exact h.2 (.inr (.inr ⟨by decide, fun j _ => no _ (.inr rfl) _⟩))
 have k2 : kp 2 = true := by
  rw [hk 2 (con 2 5) rfl]
  refine .inr ⟨r2, ?_⟩
  rintro (h | h | h)
  ·exact absurd h.1 (by decide)
  ·exact absurd h.1 (by decide)
  ·refine h.2 ((3 : Nat) : Int) ?_ (.use 3 oI rfl (.inl rfl))
   rw [nx_next hl (k := 2) (x := con 2 5) rfl (by decide) (by decide) (by decide)]
   simp
 have k3 : kp 3 = true := by
  rw [hk 3 oI rfl]
  refine .inr ⟨r3, ?_⟩
  rintro (h | h | h)
  ·exact absurd h.1 (by decide)
  ·exact absurd h.1 (by decide)
  ·exact absurd h.1 (by decide)
 have k4 : kp 4 = true := by
  rw [hk 4 retI rfl]
  refine .inr ⟨r4, ?_⟩
  rintro (h | h | h)
  ·exact absurd h.1 (by decide)
  ·exact absurd h.1 (by decide)
  ·exact absurd h.1 (by decide)
 show (⟨_, _, _, shut (sel kp 0 [_, _, _, _, _])⟩ : TFunc) = _
 simp only [sel, Nat.zero_add, k0, k1, k2, k3, k4, if_true, if_false, Bool.false_eq_true]
 rfl
theorem swp_f2 {g : TFunc} (h : Swp f2 g) : g = f2 := by
 obtain ⟨kp, rfl, hk⟩ := h
 have hl : f2.code.length ≤ 1000 := by decide
 have r0 : Rc f2 0 := Rc.zero
 have r1 : Rc f2 1 := rc_next hl r0 (x := con 2 5) rfl (by decide) (by decide) (by decide)
 have r2 : Rc f2 2 := rc_next hl r1 (x := oI) rfl (by decide) (by decide) (by decide)
 have k0 : kp 0 = true := by
  rw [hk 0 (con 2 5) rfl]
  refine .inr ⟨r0, ?_⟩
  rintro (h | h | h)
  ·exact absurd h.1 (by decide)
  ·exact absurd h.1 (by decide)
  ·refine h.2 ((1 : Nat) : Int) ?_ (.use 1 oI rfl (.inl rfl))
   rw [nx_next hl (k := 0) (x := con 2 5) rfl (by decide) (by decide) (by decide)]
   simp
 have k1 : kp 1 = true := by
  rw [hk 1 oI rfl]
  refine .inr ⟨r1, ?_⟩
  rintro (h | h | h)
  ·exact absurd h.1 (by decide)
  ·exact absurd h.1 (by decide)
  ·exact absurd h.1 (by decide)
 have k2 : kp 2 = true := by
  rw [hk 2 retI rfl]
  refine .inr ⟨r2, ?_⟩
  rintro (h | h | h)
  ·exact absurd h.1 (by decide)
  ·exact absurd h.1 (by decide)
  ·exact absurd h.1 (by decide)
 show (⟨_, _, _, shut (sel kp 0 [_, _, _])⟩ : TFunc) = _
 simp only [sel, Nat.zero_add, k0, k1, k2, if_true, if_false, Bool.false_eq_true]
 rfl
theorem fine_f0 : Fine f0 := ⟨by decide, by decide, by decide, by decide, by decide⟩
theorem tidy_f0 : tidy_Func f0 ⟨true, true, true⟩ = some f2 := by
 unfold tidy_Func
 rw [row_is f0 _ fine_f0.len fine_f0.args]
 simp only [Option.bind_some]
 have h1 : rowL ⟨true, true, true⟩ frs f0.code = f1.code := congrArg TFunc.code row_f0
 rw [h1]
 unfold tidy_Func_l1
 obtain ⟨s1, e1, q1⟩ := swept_is fine_f1
 obtain ⟨s2, e2, q2⟩ := swept_is fine_f2
 have q1 := swp_f1 q1
 have q2 := swp_f2 q2
 rw [loopO_eq]
 show (tidy_Func_l1b f1.name f1.params f1.regs f1.code true).bind _ = _
 unfold tidy_Func_l1b
 rw [if_pos rfl]
 show ((tidy_swept f1).bind _).bind _ = _
 rw [e1]
 simp only [Option.bind_some]
 rw [q1]
 show loopO _ (f2.name, f2.params, f2.regs, f2.code, true) = _
 rw [loopO_eq]
 show (tidy_Func_l1b f2.name f2.params f2.regs f2.code true).bind _ = _
 unfold tidy_Func_l1b
 rw [if_pos rfl]
 show ((tidy_swept f2).bind _).bind _ = _
 rw [e2]
 simp only [Option.bind_some]
 rw [q2]
 show loopO _ (f2.name, f2.params, f2.regs, f2.code, false) = _
 rw [loopO_eq]
 rfl
theorem alive_is : law11_alive = some true := by
 unfold law11_alive law11_con
 simp only [Option.bind_some]
 show (tidy_Func f0 ⟨true, true, true⟩).bind _ = _
 rw [tidy_f0]
 rfl
end Go.Vm.G11
