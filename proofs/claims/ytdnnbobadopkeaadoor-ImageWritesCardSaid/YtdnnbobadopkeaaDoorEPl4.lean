/-
 Plain Lean: strings as lists of bytes; decimal numerals; blanks at the ends.
-/
import Derived.Test.YtdnnbobadopkeaaDoorESp16
set_option linter.unusedSimpArgs false
set_option linter.unusedVariables false
namespace Go.Vm
open Go
def tx (l : List UInt8) : ByteArray := ⟨l.toArray⟩
theorem tx_list (l : List UInt8) : (tx l).data.toList = l := rfl
theorem tx_size (l : List UInt8) : (tx l).size = l.length := by show l.toArray.size = _; simp
theorem tx_inj {a b : List UInt8} (h : tx a = tx b) : a = b := by rw [← tx_list a, h, tx_list]
theorem tx_app (a b : List UInt8) : tx a ++ tx b = tx (a ++ b) := by
 apply ByteArray.ext
 rw [ByteArray.data_append]
 show a.toArray ++ b.toArray = (a ++ b).toArray
 simp
theorem cat_tx {a b : List UInt8} (h : a.length + b.length ≤ 9223372036854775807) : catO (tx a) (tx b) = some (tx (a ++ b)) := by
 unfold catO
 rw [tx_size, tx_size, if_pos h, tx_app]
theorem dec_digit : ∀ u : Nat, ∀ x ∈ Lib.decDigits u, 48 ≤ x.toNat ∧ x.toNat ≤ 57 := by
 intro u
 induction u using Nat.strongRecOn with
 | _ u ih =>
  intro x hx
  rw [Lib.decDigits] at hx
  split at hx
  ·rename_i h
   rw [List.mem_singleton.1 hx]
   simp
   omega
  ·rename_i h
   rcases List.mem_append.1 hx with hx | hx
   ·exact ih (u / 10) (by omega) x hx
   ·rw [List.mem_singleton.1 hx]
    simp
    omega
theorem dec_ne (u : Nat) : Lib.decDigits u ≠ [] := by
 rw [Lib.decDigits]
 split <;> simp
theorem dec_len : ∀ n u : Nat, u < 10 ^ n → 1 ≤ n → (Lib.decDigits u).length ≤ n
 | 0, u, _, h => by omega
 | n + 1, u, h, _ => by
  rw [Lib.decDigits]
  split
  ·simp
  ·rename_i h10
   have hn : 1 ≤ n := by
    rcases Nat.eq_zero_or_pos n with h0 | h0
    ·subst h0; omega
    ·exact h0
   have := dec_len n (u / 10) (by rw [Nat.pow_succ] at h; omega) hn
   rw [List.length_append]
   simp
   exact this
theorem itoa_byte (n : Int) : ∀ x ∈ Lib.itoa n, x.toNat = 45 ∨ (48 ≤ x.toNat ∧ x.toNat ≤ 57) := by
 intro x hx
 unfold Lib.itoa at hx
 split at hx
 ·rcases List.mem_cons.1 hx with rfl | hx
  ·exact .inl rfl
  ·exact .inr (dec_digit _ x hx)
 ·exact .inr (dec_digit _ x hx)
theorem itoa_ne (n : Int) : Lib.itoa n ≠ [] := by
 unfold Lib.itoa
 split
 ·simp
 ·exact dec_ne _
theorem itoa_len {n : Int} (h0 : -9223372036854775808 ≤ n) (h1 : n ≤ 9223372036854775807) : (Lib.itoa n).length ≤ 20 := by
 unfold Lib.itoa
 split
 ·have := dec_len 19 n.natAbs (by omega) (by omega)
  simp
  exact this
 ·have := dec_len 19 n.toNat (by omega) (by omega)
  omega
theorem itoa_tx {n : Int} (h0 : -9223372036854775808 ≤ n) (h1 : n ≤ 9223372036854775807) : itoaO n = some (tx (Lib.itoa n)) := by
 unfold itoaO
 rw [if_pos ⟨h0, h1⟩]
 rfl
theorem trim_id {l : List UInt8} {x y : UInt8} (h1 : l.head? = some x) (hx : Lib.isSp x = false) (h2 : l.getLast? = some y) (hy : Lib.isSp y = false) : Lib.trimSpace l = l := by
 unfold Lib.trimSpace
 cases l with
 | nil => cases h1
 | cons a t =>
  obtain rfl := Option.some.inj h1
  rw [List.dropWhile_cons_of_neg (by simp [hx])]
  have h3 : (a :: t).reverse.head? = some y := by rw [List.head?_reverse, h2]
  cases hr : (a :: t).reverse with
  | nil => rw [hr] at h3; cases h3
  | cons b s =>
   rw [hr] at h3
   obtain rfl := Option.some.inj h3
   rw [List.dropWhile_cons_of_neg (by simp [hy]), ← hr, List.reverse_reverse]
theorem trim_end {l : List UInt8} {x y : UInt8} (h1 : l.head? = some x) (hx : Lib.isSp x = false) (h2 : l.getLast? = some y) (hy : Lib.isSp y = false) : Lib.trimSpace (l ++ [32]) = l := by
 have h3 := trim_id h1 hx h2 hy
 unfold Lib.trimSpace at h3 ⊢
 cases l with
 | nil => cases h1
 | cons a t =>
  obtain rfl := Option.some.inj h1
  rw [List.dropWhile_cons_of_neg (by simp [hx])] at h3
  rw [List.cons_append, List.dropWhile_cons_of_neg (by simp [hx]), ← List.cons_append, List.reverse_append]
  show (([32] ++ (a :: t).reverse).dropWhile Lib.isSp).reverse = a :: t
  rw [List.cons_append, List.dropWhile_cons_of_pos (by decide), List.nil_append]
  exact h3
theorem trim_tx {l : List UInt8} (h : l.length ≤ 16777216) (h2 : ∀ b ∈ l, b.toNat < 128) : trimO (tx l) = some (tx (Lib.trimSpace l)) := by
 unfold trimO
 rw [if_pos ⟨by rw [tx_size]; exact h, h2⟩]
 rfl
theorem join_tx {xs : List (List UInt8)} {sep : List UInt8} (h : xs.length ≤ 140737488355328) (h2 : (Lib.join xs sep).length ≤ 140737488355328) : joinO (xs.map tx) (tx sep) = some (tx (Lib.join xs sep)) := by
 have e : joinS (xs.map tx) (tx sep) = tx (Lib.join xs sep) := by
  unfold joinS
  rw [List.map_map, tx_list]
  have : ((fun x : ByteArray => x.data.toList) ∘ tx) = id := by funext l; rfl
  rw [this, List.map_id]
  rfl
 unfold joinO
 rw [e, tx_size, List.length_map, if_pos ⟨h, h2⟩]
end Go.Vm
