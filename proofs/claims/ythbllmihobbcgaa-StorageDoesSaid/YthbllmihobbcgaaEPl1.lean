/-
 Plain laws: tables.
-/
import Derived.Test.YthbllmihobbcgaaEPl0
set_option linter.unusedSimpArgs false
set_option linter.unusedVariables false
namespace Go.Vm
open Go
def tb {α : Type} (n : Nat) (g : Nat → α) : List α := (List.range n).map g
section
variable {α : Type} {n : Nat} {g h : Nat → α}
@[simp] theorem tb_len : (tb n g).length = n := by simp [tb]
theorem tb_get? {k : Nat} : (tb n g)[k]? = if k < n then some (g k) else none := by
 unfold tb
 rw [List.getElem?_map]
 by_cases h : k < n
 ·rw [if_pos h, List.getElem?_eq_getElem (by simpa using h)]; simp
 ·rw [if_neg h, List.getElem?_eq_none (by simpa using h)]; rfl
theorem ix_tb {k : Nat} (hk : k < n) : ix (tb n g) (k : Int) = some (g k) := by rw [ix_nat, tb_get?, if_pos hk]
theorem tb_ext (hh : ∀ k, k < n → g k = h k) : tb n g = tb n h := by
 apply List.ext_getElem?
 intro k
 rw [tb_get?, tb_get?]
 split
 ·rename_i hk; rw [hh k hk]
 ·rfl
theorem tb_set {k : Nat} {v : α} : (tb n g).set k v = tb n (fun j => if j = k then v else g j) := by
 apply List.ext_getElem?
 intro j
 rw [List.getElem?_set, tb_get?, tb_get?, tb_len]
 by_cases hj : k = j
 ·subst hj; simp
 ·rw [if_neg hj]
  by_cases h2 : j < n
  ·rw [if_pos h2, if_pos h2, if_neg (fun e => hj e.symm)]
  ·rw [if_neg h2, if_neg h2]
theorem tb_rep {z : α} : List.replicate n z = tb n (fun _ => z) := by
 apply List.ext_getElem?
 intro j
 rw [tb_get?, List.getElem?_replicate]
theorem tb_of (xs : List α) (d : α) : xs = tb xs.length (fun i => xs.getD i d) := by
 apply List.ext_getElem?
 intro j
 rw [tb_get?]
 split
 ·rename_i h; rw [List.getD_eq_getElem?_getD, List.getElem?_eq_getElem h]; rfl
 ·rename_i h; rw [List.getElem?_eq_none (by omega)]
theorem tb_getD {k : Nat} {d : α} (hk : k < n) : (tb n g).getD k d = g k := by
 rw [List.getD_eq_getElem?_getD, tb_get?, if_pos hk]; rfl
theorem tb_inj (e : tb n g = tb n h) {k : Nat} (hk : k < n) : g k = h k := by
 have : (tb n g)[k]? = (tb n h)[k]? := by rw [e]
 rw [tb_get?, tb_get?, if_pos hk, if_pos hk] at this
 exact Option.some.inj this
theorem mk_tb {z : α} (hn : n ≤ 16777216) : mk (n : Int) z = some (tb n (fun _ => z)) := by rw [mk_some hn, tb_rep]
theorem mem_tb {x : α} (hx : x ∈ tb n g) : ∃ k, k < n ∧ x = g k := by
 simp [tb] at hx
 obtain ⟨k, hk, rfl⟩ := hx
 exact ⟨k, hk, rfl⟩
theorem tb_take {k : Nat} (hk : k ≤ n) : (tb n g).take k = tb k g := by
 apply List.ext_getElem?
 intro j
 rw [List.getElem?_take, tb_get?, tb_get?]
 split
 ·rw [if_pos (by omega)]
 ·rfl
theorem tb_succ : tb (n + 1) g = tb n g ++ [g n] := by simp [tb, List.range_succ]
end
theorem countP_strict {α : Type} {p q : α → Bool} : ∀ (l : List α), (∀ x ∈ l, p x = true → q x = true) → (∃ x ∈ l, q x = true ∧ p x = false) → l.countP p < l.countP q
 | [], _, ⟨x, hx, _⟩ => by cases hx
 | a :: l, h, hex => by
  have ih := countP_strict l (fun x hx => h x (List.mem_cons_of_mem _ hx))
  have hle : l.countP p ≤ l.countP q := List.countP_mono_left (fun x hx => h x (List.mem_cons_of_mem _ hx))
  rw [List.countP_cons, List.countP_cons]
  obtain ⟨x, hx, h1, h2⟩ := hex
  rcases List.mem_cons.1 hx with rfl | hx
  ·rw [h1, h2]; simp; omega
  ·have := ih ⟨x, hx, h1, h2⟩
   have := h a (by simp)
   by_cases hp : p a = true
   ·rw [hp, this hp]; omega
   ·rw [if_neg hp]; split <;> omega
theorem mem_take_succ {α : Type} {xs : List α} {k : Nat} {x : α} (hk : k < xs.length) : x ∈ xs.take (k + 1) ↔ x ∈ xs.take k ∨ x = xs[k] := by
 rw [List.take_add_one, List.getElem?_eq_getElem hk, Option.toList_some, List.mem_append, List.mem_singleton]
theorem loop_for {α σ ρ : Type} {B : σ → Option (σ ⊕ ρ)} {P : ρ → Prop} (xs : List α) (S : Nat → σ → Prop)
  (step : ∀ (k : Nat) (x : α) (s : σ), k < xs.length → xs[k]? = some x → S k s → Ok (B s) (Sum.elim (S (k + 1)) P))
  (fin : ∀ s, S xs.length s → Ok (B s) (Sum.elim (fun _ => False) P)) {s : σ} (h : S 0 s) : Ok (loopO B s) P :=
 Ok.loop S xs.length (fun k s hk hs => step k xs[k] s hk (List.getElem?_eq_getElem hk) hs) fin h
theorem cutL_tail {α : Type} {x : α} {xs : List α} : cutL (x :: xs) 1 ((x :: xs).length : Int) = some xs := by
 unfold cutL
 rw [if_pos (by simp; omega)]
 simp
theorem dec_lt {a b : Nat} : decide ((a : Int) < (b : Int)) = decide (a < b) := by simp
end Go.Vm
