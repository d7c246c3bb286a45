/-
 The law of what is read and written.
-/
import Derived.Test.YtipebnimgbigoaaDoorEP02v
import Derived.Test.YtipebnimgbigoaaDoorEOG02
set_option linter.unusedSimpArgs false
set_option linter.unusedVariables false
namespace Go.Vm.G02
open Go
theorem uses_loop (xs : List Int) (hn : xs.length ≤ 100) (h : ∀ x ∈ xs, 0 ≤ x ∧ x ≤ 33) : law02_IsaUses_l1 xs xs 0 = some true := by
 unfold law02_IsaUses_l1
 refine Ok.some_of (loop_all (P := fun r => r = true) xs (by omega) (fun k x hx => ?_) ?_)
 ·have hk : k < xs.length := (List.getElem?_eq_some_iff.1 hx).1
  have hb := h x (List.mem_of_getElem? hx)
  show Ok (law02_IsaUses_l1b xs xs (k : Int)) _
  unfold law02_IsaUses_l1b law02_IsaUses_k2
  rw [if_pos (decide_eq_true (by omega)), ix_nat, hx, Option.bind_some, Option.bind_some, if_neg (by simp), Option.bind_some, if_neg (by simp; omega), Option.bind_some, if_neg (by simp; omega)]
  exact ⟨_, rfl, rfl⟩
 ·show Ok (law02_IsaUses_l1b xs xs (xs.length : Int)) _
  unfold law02_IsaUses_l1b
  rw [if_neg (by simp)]
  exact ⟨_, rfl, rfl⟩
theorem uses_gen (p : TInst) (g : Bool) (L : List Int) (W : Int) (hg : ref02_Good p = some g) (h1 : isa_Reads p = some L) (h2 : ref02_Reads p = some L) (h3 : isa_Writes p = some W) (h4 : ref02_Writes p = some W) (hn : L.length ≤ 100) (hb : g = true → ∀ x ∈ L, 0 ≤ x ∧ x ≤ 33) : law02_IsaUses p = some true := by
 unfold law02_IsaUses
 rw [alive, Option.bind_some, if_neg (by decide), hg, Option.bind_some]
 cases g with
 | false => rfl
 | true =>
  rw [if_neg (by decide), h1, Option.bind_some, h2, Option.bind_some, if_neg (by simp), h3, Option.bind_some, h4, Option.bind_some]
  unfold law02_IsaUses_k1
  rw [if_neg (by simp), uses_loop L hn (hb rfl)]
theorem of_out {k : Int} (h : k < 1 ∨ 22 < k) : ref02_Of k = some (⟨ByteArray.empty, false, false, false, 0, 0⟩, false) := by
 unfold ref02_Of
 rw [if_neg (by simp; omega), if_neg (by simp; omega), if_neg (by simp; omega), if_neg (by simp; omega), if_neg (by simp; omega), if_neg (by simp; omega), if_neg (by simp; omega), if_neg (by simp; omega), if_neg (by simp; omega), if_neg (by simp; omega), if_neg (by simp; omega), if_neg (by simp; omega), if_neg (by simp; omega), if_neg (by simp; omega), if_neg (by simp; omega), if_neg (by simp; omega), if_neg (by simp; omega), if_neg (by simp; omega), if_neg (by simp; omega), if_neg (by simp; omega), if_neg (by simp; omega), if_neg (by simp; omega)]
theorem law02_IsaUses_law (p : TInst) (o : OK_TInst p) : law02_IsaUses p = some true := by
 by_cases hk : p.op < 1 ∨ 22 < p.op
 ·unfold law02_IsaUses
  have : ref02_Good p = some false := by
   unfold ref02_Good
   rw [of_out hk]
   rfl
  rw [alive, this]
  rfl
 obtain ⟨op, d, a, b, i⟩ := p
 clear o
 simp only at hk
 obtain ⟨k, rfl⟩ : ∃ k : Nat, op = (k : Int) := ⟨op.toNat, by omega⟩
 have h1 : 1 ≤ k := by omega
 have h2 : k ≤ 22 := by omega
 clear hk
 revert k
 refine of22 ?_ ?_ ?_ ?_ ?_ ?_ ?_ ?_ ?_ ?_ ?_ ?_ ?_ ?_ ?_ ?_ ?_ ?_ ?_ ?_ ?_ ?_
 ·by_cases ha : a = 0
  ·subst ha
   exact uses_gen ⟨1, d, 0, b, i⟩ _ [] d (ig2_1 d 0 b i) rfl rfl rfl rfl (by simp) (fun h x hx => by cases hx)
  ·exact uses_gen ⟨1, d, a, b, i⟩ _ [a] d (ig2_1 d a b i) (by simp [isa_Reads, isa_Reads_k1, ha]) (by simp [ref02_Reads, ref02_Reads_k2, ha]) rfl rfl (by simp) (fun h => by
    have h := of_decide_eq_true h
    simp only [List.mem_cons, List.not_mem_nil, or_false, forall_eq_or_imp, forall_eq, false_implies, implies_true]
    omega)
 ·by_cases ha : a = 0
  ·subst ha
   exact uses_gen ⟨2, d, 0, b, i⟩ _ [d] (-1) (ig2_2 d 0 b i) rfl rfl rfl rfl (by simp) (fun h => by
    have h := of_decide_eq_true h
    simp only [List.mem_cons, List.not_mem_nil, or_false, forall_eq_or_imp, forall_eq, false_implies, implies_true]
    omega)
  ·exact uses_gen ⟨2, d, a, b, i⟩ _ [d, a] (-1) (ig2_2 d a b i) (by simp [isa_Reads, isa_Reads_k1, ha]) (by simp [ref02_Reads, ref02_Reads_k2, ha]) rfl rfl (by simp) (fun h => by
    have h := of_decide_eq_true h
    simp only [List.mem_cons, List.not_mem_nil, or_false, forall_eq_or_imp, forall_eq, false_implies, implies_true]
    omega)
 ·by_cases ha : a = 0
  ·subst ha
   exact uses_gen ⟨3, d, 0, b, i⟩ _ [] d (ig2_3 d 0 b i) rfl rfl rfl rfl (by simp) (fun h x hx => by cases hx)
  ·exact uses_gen ⟨3, d, a, b, i⟩ _ [a] d (ig2_3 d a b i) (by simp [isa_Reads, isa_Reads_k1, ha]) (by simp [ref02_Reads, ref02_Reads_k2, ha]) rfl rfl (by simp) (fun h => by
    have h := of_decide_eq_true h
    simp only [List.mem_cons, List.not_mem_nil, or_false, forall_eq_or_imp, forall_eq, false_implies, implies_true]
    omega)
 ·exact uses_gen ⟨4, d, a, b, i⟩ _ [a, b] d (ig2_4 d a b i) rfl rfl rfl rfl (by simp) (fun h => by
   have h := of_decide_eq_true h
   simp only [List.mem_cons, List.not_mem_nil, or_false, forall_eq_or_imp, forall_eq, false_implies, implies_true]
   omega)
 ·exact uses_gen ⟨5, d, a, b, i⟩ _ [a, b] d (ig2_5 d a b i) rfl rfl rfl rfl (by simp) (fun h => by
   have h := of_decide_eq_true h
   simp only [List.mem_cons, List.not_mem_nil, or_false, forall_eq_or_imp, forall_eq, false_implies, implies_true]
   omega)
 ·exact uses_gen ⟨6, d, a, b, i⟩ _ [a, b] d (ig2_6 d a b i) rfl rfl rfl rfl (by simp) (fun h => by
   have h := of_decide_eq_true h
   simp only [List.mem_cons, List.not_mem_nil, or_false, forall_eq_or_imp, forall_eq, false_implies, implies_true]
   omega)
 ·exact uses_gen ⟨7, d, a, b, i⟩ _ [a, b] d (ig2_7 d a b i) rfl rfl rfl rfl (by simp) (fun h => by
   have h := of_decide_eq_true h
   simp only [List.mem_cons, List.not_mem_nil, or_false, forall_eq_or_imp, forall_eq, false_implies, implies_true]
   omega)
 ·exact uses_gen ⟨8, d, a, b, i⟩ _ [a, b] 32 (ig2_8 d a b i) rfl rfl rfl rfl (by simp) (fun h => by
   have h := of_decide_eq_true h
   simp only [List.mem_cons, List.not_mem_nil, or_false, forall_eq_or_imp, forall_eq, false_implies, implies_true]
   omega)
 ·exact uses_gen ⟨9, d, a, b, i⟩ _ [a] 32 (ig2_9 d a b i) rfl rfl rfl rfl (by simp) (fun h => by
   have h := of_decide_eq_true h
   simp only [List.mem_cons, List.not_mem_nil, or_false, forall_eq_or_imp, forall_eq, false_implies, implies_true]
   omega)
 ·exact uses_gen ⟨10, d, a, b, i⟩ _ [32] (-1) (ig2_10 d a b i) rfl rfl rfl rfl (by simp) (fun h => by
   have h := of_decide_eq_true h
   simp only [List.mem_cons, List.not_mem_nil, or_false, forall_eq_or_imp, forall_eq, false_implies, implies_true]
   omega)
 ·exact uses_gen ⟨11, d, a, b, i⟩ _ [] (-1) (ig2_11 d a b i) rfl rfl rfl rfl (by simp) (fun h x hx => by cases hx)
 ·exact uses_gen ⟨12, d, a, b, i⟩ _ [] 33 (ig2_12 d a b i) rfl rfl rfl rfl (by simp) (fun h x hx => by cases hx)
 ·exact uses_gen ⟨13, d, a, b, i⟩ _ [33] (-1) (ig2_13 d a b i) rfl rfl rfl rfl (by simp) (fun h => by
   have h := of_decide_eq_true h
   simp only [List.mem_cons, List.not_mem_nil, or_false, forall_eq_or_imp, forall_eq, false_implies, implies_true]
   omega)
 ·exact uses_gen ⟨14, d, a, b, i⟩ _ [33] d (ig2_14 d a b i) rfl rfl rfl rfl (by simp) (fun h => by
   have h := of_decide_eq_true h
   simp only [List.mem_cons, List.not_mem_nil, or_false, forall_eq_or_imp, forall_eq, false_implies, implies_true]
   omega)
 ·exact uses_gen ⟨15, d, a, b, i⟩ _ [d] 33 (ig2_15 d a b i) rfl rfl rfl rfl (by simp) (fun h => by
   have h := of_decide_eq_true h
   simp only [List.mem_cons, List.not_mem_nil, or_false, forall_eq_or_imp, forall_eq, false_implies, implies_true]
   omega)
 ·exact uses_gen ⟨16, d, a, b, i⟩ _ [a, b] d (ig2_16 d a b i) rfl rfl rfl rfl (by simp) (fun h => by
   have h := of_decide_eq_true h
   simp only [List.mem_cons, List.not_mem_nil, or_false, forall_eq_or_imp, forall_eq, false_implies, implies_true]
   omega)
 ·exact uses_gen ⟨17, d, a, b, i⟩ _ [d, a, b] 32 (ig2_17 d a b i) rfl rfl rfl rfl (by simp) (fun h => by
   have h := of_decide_eq_true h
   simp only [List.mem_cons, List.not_mem_nil, or_false, forall_eq_or_imp, forall_eq, false_implies, implies_true]
   omega)
 ·exact uses_gen ⟨18, d, a, b, i⟩ _ [] (-1) (ig2_18 d a b i) rfl rfl rfl rfl (by simp) (fun h x hx => by cases hx)
 ·exact uses_gen ⟨19, d, a, b, i⟩ _ [] (-1) (ig2_19 d a b i) rfl rfl rfl rfl (by simp) (fun h x hx => by cases hx)
 ·exact uses_gen ⟨20, d, a, b, i⟩ _ [] (-1) (ig2_20 d a b i) rfl rfl rfl rfl (by simp) (fun h x hx => by cases hx)
 ·exact uses_gen ⟨21, d, a, b, i⟩ _ [] (-1) (ig2_21 d a b i) rfl rfl rfl rfl (by simp) (fun h x hx => by cases hx)
 ·exact uses_gen ⟨22, d, a, b, i⟩ _ [d] (-1) (ig2_22 d a b i) rfl rfl rfl rfl (by simp) (fun h => by
   have h := of_decide_eq_true h
   simp only [List.mem_cons, List.not_mem_nil, or_false, forall_eq_or_imp, forall_eq, false_implies, implies_true]
   omega)
end Go.Vm.G02
