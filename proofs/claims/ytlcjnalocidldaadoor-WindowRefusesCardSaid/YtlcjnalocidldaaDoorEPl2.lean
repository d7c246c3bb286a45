/-
 Plain laws: maps, and the first part of a list.
-/
import Derived.Test.YtlcjnalocidldaaDoorEPl1
import Derived.Test.YtlcjnalocidldaaDoorESp3
set_option linter.unusedSimpArgs false
set_option linter.unusedVariables false
namespace Go.Vm
open Go
section
variable {β : Type}
theorem mG_nil (j : Int) : mG ([] : List (Int × β)) j = none := rfl
theorem mG_cons (p : Int × β) (m : List (Int × β)) (j : Int) : mG (p :: m) j = if p.1 = j then some p.2 else mG m j := by
 unfold mG
 rw [List.find?_cons]
 by_cases h : p.1 = j
 ·simp [h]
 ·have : (p.1 == j) = false := by simpa using h
  rw [this, if_neg h]
theorem mS_nil (k : Int) (x : β) : mS [] k x = [(k, x)] := rfl
theorem mS_cons (p : Int × β) (m : List (Int × β)) (k : Int) (x : β) : mS (p :: m) k x = if p.1 = k then (k, x) :: m else p :: mS m k x := by
 unfold mS mI
 rw [List.findIdx?_cons]
 by_cases h : p.1 = k
 ·simp [h]
 ·have : (p.1 == k) = false := by simpa using h
  rw [if_neg h]
  simp only [this, Bool.false_eq_true, if_false]
  cases hm : m.findIdx? (fun p => p.1 == k) with
  | none => simp
  | some j => simp
theorem mG_mS (m : List (Int × β)) (k j : Int) (x : β) : mG (mS m k x) j = if k = j then some x else mG m j := by
 induction m with
 | nil => rw [mS_nil, mG_cons, mG_nil]
 | cons p m ih =>
  rw [mS_cons]
  by_cases h : p.1 = k
  ·rw [if_pos h, mG_cons, mG_cons]
   by_cases h2 : k = j
   ·simp [h2]
   ·simp [h2, h]
  ·rw [if_neg h, mG_cons, mG_cons, ih]
   by_cases h2 : k = j
   ·subst h2; simp [h]
   ·simp [h2]
end
def pre (l : List Int) (n : Int) : List Int := l.takeWhile (fun k => k != n)
theorem pre_cons (a : Int) (l : List Int) (n : Int) : pre (a :: l) n = if a = n then [] else a :: pre l n := by
 unfold pre
 rw [List.takeWhile_cons]
 by_cases h : a = n <;> simp [h]
theorem pre_app (l m : List Int) (n : Int) (h : n ∈ l) : pre (l ++ m) n = pre l n := by
 induction l with
 | nil => cases h
 | cons a l ih =>
  rw [List.cons_append, pre_cons, pre_cons]
  by_cases ha : a = n
  ·simp [ha]
  ·rw [if_neg ha, if_neg ha, ih (by rcases List.mem_cons.1 h with e | e; exact (ha e.symm).elim; exact e)]
theorem pre_self (l : List Int) (n : Int) (h : n ∉ l) : pre (l ++ [n]) n = l := by
 induction l with
 | nil => rw [List.nil_append, pre_cons, if_pos rfl]
 | cons a l ih =>
  rw [List.cons_append, pre_cons]
  have : a ≠ n := fun e => h (by simp [e])
  rw [if_neg this, ih (fun e => h (by simp [e]))]
theorem mem_pre {l : List Int} {n k : Int} (h : k ∈ pre l n) : k ∈ l ∧ k ≠ n := by
 induction l with
 | nil => cases h
 | cons a l ih =>
  rw [pre_cons] at h
  by_cases ha : a = n
  ·rw [if_pos ha] at h; cases h
  ·rw [if_neg ha] at h
   rcases List.mem_cons.1 h with rfl | h
   ·exact ⟨by simp, ha⟩
   ·exact ⟨List.mem_cons_of_mem _ (ih h).1, (ih h).2⟩
theorem pre_len (l : List Int) (n : Int) : (pre l n).length ≤ l.length := (List.takeWhile_sublist _).length_le
theorem pre_take (l : List Int) (n : Int) : pre l n = l.take (pre l n).length := by
 induction l with
 | nil => rfl
 | cons a l ih =>
  rw [pre_cons]
  by_cases ha : a = n
  ·simp [ha]
  ·rw [if_neg ha, List.length_cons, List.take_succ_cons, ← ih]
theorem pre_at (l : List Int) (n : Int) (k : Nat) (hk : l[k]? = some n) (h : ∀ y ∈ l.take k, y ≠ n) : pre l n = l.take k := by
 induction l generalizing k with
 | nil => simp at hk
 | cons a l ih =>
  rw [pre_cons]
  cases k with
  | zero => simp at hk; simp [hk]
  | succ k =>
   rw [List.take_succ_cons] at h ⊢
   have : a ≠ n := h a (by simp)
   rw [if_neg this, ih k (by simpa using hk) (fun y hy => h y (List.mem_cons_of_mem _ hy))]
theorem cutL_take {α : Type} (l : List α) (k : Nat) (h : k ≤ l.length) : cutL l 0 (k : Int) = some (l.take k) := by
 unfold cutL
 rw [if_pos (by omega)]
 simp
theorem nodup_len : ∀ (m : Nat) (l : List Int), l.Nodup → (∀ x ∈ l, 1 ≤ x ∧ x ≤ m) → l.length ≤ m
 | 0, l, _, h => by
  cases l with
  | nil => exact Nat.le_refl _
  | cons a l => have := h a (by simp); omega
 | m + 1, l, hn, h => by
  by_cases hm : ((m + 1 : Nat) : Int) ∈ l
  ·have h1 := nodup_len m (l.erase ((m + 1 : Nat) : Int)) (hn.erase _) (fun x hx => by
    have hx' := (hn.mem_erase_iff).1 hx
    have := h x hx'.2
    have := hx'.1
    omega)
   rw [List.length_erase_of_mem hm] at h1
   omega
  ·have h1 := nodup_len m l hn (fun x hx => by
    have := h x hx
    have : x ≠ ((m + 1 : Nat) : Int) := fun e => hm (e ▸ hx)
    omega)
   omega
end Go.Vm
