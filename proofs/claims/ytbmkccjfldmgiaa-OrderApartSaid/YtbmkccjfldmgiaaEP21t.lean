/-
 Sorting: heap sort, pivots, partitions.
-/
import Derived.Test.YtbmkccjfldmgiaaEP21s
set_option linter.unusedSimpArgs false
set_option linter.unusedVariables false
namespace Go.Vm.GA21
open Go
section
variable {n : Nat} {h : Nat → Nd}
theorem ix_set_tb {i j : Nat} {v : Nd} (hj : j < n) : ix ((tb n h).set i v) (j : Int) = some (if j = i then v else h j) := by rw [tb_set, ix_tb hj]
theorem quo_nat {i j : Nat} (hj : 0 < j) (hi : i ≤ 1000000) : quoO .i64 (i : Int) (j : Int) = some ((i / j : Nat) : Int) := by
 unfold quoO
 rw [if_neg (by omega)]
 have e : Int.tdiv (i : Int) (j : Int) = ((i / j : Nat) : Int) := by rw [Int.tdiv_eq_ediv_of_nonneg (by omega)]; rfl
 rw [e]
 have : i / j ≤ i := Nat.div_le_self i j
 refine congrArg some ?_
 generalize i / j = q at this ⊢
 exact w64_id (by omega) (by omega)
theorem Heap.top {f hi : Nat} (hh : Heap f 0 hi h) : ∀ c, c < hi → ky (h (f + c)) ≤ ky (h f) := by
 intro c
 induction c using Nat.strongRecOn with
 | _ c ih =>
  intro hc
  by_cases h0 : c = 0
  ·subst h0; exact Int.le_refl _
  ·have h1 : par c < c := by unfold par; omega
   exact Int.le_trans (hh c (by omega) hc (Nat.zero_le _)) (ih (par c) h1 (by omega))
theorem heap_is (hn : n ≤ 1000) (t : Tb n h) (a m : Nat) (hm : 1 ≤ m) (hb : a + m ≤ n) : Ok (s_heapSort (tb n h) a (a + m : Nat)) (fun r => ∃ h', r = tb n h' ∧ Pm a (a + m) h h' ∧ Srt a (a + m) h') := by
 unfold s_heapSort
 have w1 : w64 (((a + m : Nat) : Int) - (a : Int)) = (m : Int) := by rw [wsub (by omega) (by omega)]; congr 1; omega
 rw [w1, wsub1 hm (by omega), show (2 : Int) = ((2 : Nat) : Int) from rfl, quo_nat (by omega) (by omega)]
 simp only [Option.bind_some]
 unfold s_heapSort_l1
 generalize hK : (m - 1) / 2 = K
 refine Ok.loop (B := fun s => s_heapSort_l1b a (a + m : Nat) s.1 s.2) (fun k s => s.2 = (K : Int) - k ∧ ∃ g, s.1 = tb n g ∧ Pm a (a + m) h g ∧ Heap a (K + 1 - k) m g) (K + 1) (fun k s hk hs => ?_) (fun s hs => ?_) ⟨by simp, h, rfl, .refl _ _ _, fun c h1 h2 h3 => by unfold par at h3; omega⟩
 ·obtain ⟨xs, i⟩ := s
  obtain ⟨h1, g, h2, hp, hH⟩ := hs
  simp only at h1 h2
  subst h1 h2
  have e : (K : Int) - k = ((K - k : Nat) : Int) := by omega
  show Ok (s_heapSort_l1b a (a + m : Nat) (tb n g) ((K : Int) - k)) _
  rw [e]
  unfold s_heapSort_l1b
  rw [if_pos (decide_eq_true (by omega)), w1]
  refine (siftDown_is hn (t.pm hp hb) a (K - k) m (by omega) hb (by rw [show K - k + 1 = K + 1 - k by omega]; exact hH)).bind fun r hr => ?_
  obtain ⟨g2, rfl, hp2, hH2⟩ := hr
  refine .ret ⟨?_, g2, rfl, hp.trans (hp2.wide (by omega) (Nat.le_refl _)), by rw [show K + 1 - (k + 1) = K - k by omega]; exact hH2⟩
  show w64 (((K - k : Nat) : Int) - 1) = _
  rw [w64_id (by omega) (by omega)]; omega
 ·obtain ⟨xs, i⟩ := s
  obtain ⟨h1, g, h2, hp, hH⟩ := hs
  simp only at h1 h2
  subst h1 h2
  show Ok (s_heapSort_l1b a (a + m : Nat) (tb n g) ((K : Int) - ((K + 1 : Nat) : Int))) _
  unfold s_heapSort_l1b
  rw [if_neg (by simp; omega), w1, wsub1 hm (by omega)]
  refine .map ?_
  unfold s_heapSort_l2
  rw [Nat.sub_self] at hH
  refine Ok.loop (B := fun s => s_heapSort_l2b a s.1 s.2) (fun k s => s.2 = ((m : Int) - 1) - k ∧ ∃ g, s.1 = tb n g ∧ Pm a (a + m) h g ∧ Heap a 0 (m - k) g ∧ (∀ p q, m - k ≤ p → p < q → q < m → ky (g (a + p)) ≤ ky (g (a + q))) ∧ (∀ p q, p < m - k → m - k ≤ q → q < m → ky (g (a + p)) ≤ ky (g (a + q)))) m (fun k s hk hs => ?_) (fun s hs => ?_) ⟨by show ((m - 1 : Nat) : Int) = _; omega, g, rfl, hp, hH, fun p q h1 h2 h3 => by omega, fun p q h1 h2 h3 => by omega⟩
  ·obtain ⟨xs, i⟩ := s
   obtain ⟨h1, g, h2, hp, hH, hT, hL⟩ := hs
   simp only at h1 h2
   subst h1 h2
   generalize hI : m - 1 - k = I
   have e : (m : Int) - 1 - k = (I : Int) := by omega
   show Ok (s_heapSort_l2b a (tb n g) ((m : Int) - 1 - k)) _
   rw [e]
   unfold s_heapSort_l2b
   rw [if_pos (decide_eq_true (by omega)), wadd (by omega), ix_tb (show a + I < n by omega), ix_tb (show a < n by omega)]
   simp only [Option.bind_some, Int.toNat_natCast, ix_set_tb (show a + I < n by omega)]
   rw [swap_tb]
   have hp1 : Pm a (a + m) h (swp g a (a + I)) := hp.swp (by omega) (by omega) (by omega) (by omega)
   have e1 : swp g a (a + I) a = g (a + I) := by unfold swp; rw [sw_i]
   have e2 : swp g a (a + I) (a + I) = g a := by unfold swp; rw [sw_j]
   have e3 : ∀ q, 0 < q → q ≠ I → swp g a (a + I) (a + q) = g (a + q) := fun q h1 h2 => by unfold swp; rw [sw_o (by omega) (by omega)]
   have hmk : m - k = I + 1 := by omega
   rw [hmk] at hH hT hL
   have top := hH.top
   have hs := siftDown_is hn (t.pm hp1 hb) a 0 I (by omega) (by omega) (fun c h1 h2 h3 => by
    have h4 : par c < c := by unfold par; omega
    rw [e3 c (by omega) (by omega), e3 (par c) (by omega) (by omega)]
    exact hH c h1 (by omega) (Nat.zero_le _))
   refine hs.bind fun r hr => ?_
   obtain ⟨g2, rfl, hp2, hH2⟩ := hr
   have same : ∀ q, I ≤ q → g2 (a + q) = swp g a (a + I) (a + q) := fun q hq => hp2.same (.inr (by omega))
   have low : ∀ p, p < I → ky (g2 (a + p)) ≤ ky (g a) ∧ ∀ q, I + 1 ≤ q → q < m → ky (g2 (a + p)) ≤ ky (g (a + q)) := by
    intro p hpI
    have := hp2.all (Q := fun x => ky x ≤ ky (g a) ∧ ∀ q, I + 1 ≤ q → q < m → ky x ≤ ky (g (a + q))) (fun k h1 h2 => by
     obtain ⟨c, rfl⟩ := Nat.exists_eq_add_of_le (show a ≤ k by omega)
     by_cases hc : c = 0
     ·subst hc
      rw [Nat.add_zero, e1]
      exact ⟨top I (by omega), fun q h3 h4 => hL I q (by omega) h3 h4⟩
     ·rw [e3 c (by omega) (by omega)]
      exact ⟨top c (by omega), fun q h3 h4 => hL c q (by omega) h3 h4⟩) (a + p) (by omega) (by omega)
    exact this
   refine .ret ⟨?_, g2, rfl, hp1.trans (hp2.wide (by omega) (by omega)), by rw [show m - (k + 1) = I by omega]; exact hH2, fun p q h1 h2 h3 => ?_, fun p q h1 h2 h3 => ?_⟩
   ·show w64 ((I : Int) - 1) = _
    rw [w64_id (by omega) (by omega)]; omega
   ·rw [same p (by omega), same q (by omega)]
    by_cases hpI : p = I
    ·subst hpI
     rw [e2, e3 q (by omega) (by omega)]
     have := hL 0 q (by omega) (by omega) h3
     exact this
    ·rw [e3 p (by omega) hpI, e3 q (by omega) (by omega)]
     exact hT p q (by omega) h2 h3
   ·have hpI : p < I := by omega
    rw [same q (by omega)]
    by_cases hqI : q = I
    ·subst hqI; rw [e2]; exact (low p hpI).1
    ·rw [e3 q (by omega) hqI]; exact (low p hpI).2 q (by omega) h3
  ·obtain ⟨xs, i⟩ := s
   obtain ⟨h1, g, h2, hp, hH, hT, hL⟩ := hs
   simp only at h1 h2
   subst h1 h2
   show Ok (s_heapSort_l2b a (tb n g) ((m : Int) - 1 - m)) _
   unfold s_heapSort_l2b
   rw [if_neg (by simp; omega)]
   refine .map (.ret ⟨g, rfl, hp, fun p q h1 h2 h3 => ?_⟩)
   obtain ⟨p', rfl⟩ := Nat.exists_eq_add_of_le h1
   obtain ⟨q', rfl⟩ := Nat.exists_eq_add_of_le (show a ≤ q by omega)
   exact hT p' q' (by omega) (by omega) (by omega)
theorem order2_is (t : Tb n h) {i j : Nat} (hi : i < n) (hj : j < n) (s : Int) : Ok (s_order2 (tb n h) i j s) (fun r => (r.1 = (i : Int) ∧ r.2.1 = (j : Int)) ∨ (r.1 = (j : Int) ∧ r.2.1 = (i : Int))) := by
 unfold s_order2
 rw [ix_tb hj, ix_tb hi]
 simp only [Option.bind_some]
 rw [t.cmp hj hi]
 simp only [Option.bind_some]
 exact .ite (fun _ => .ret (.inr ⟨rfl, rfl⟩)) (fun _ => .ret (.inl ⟨rfl, rfl⟩))
theorem median_is (t : Tb n h) {i j k : Nat} (hi : i < n) (hj : j < n) (hk : k < n) (s : Int) : Ok (s_median (tb n h) i j k s) (fun r => r.1 = (i : Int) ∨ r.1 = (j : Int) ∨ r.1 = (k : Int)) := by
 unfold s_median
 refine (order2_is t hi hj s).bind fun r hr => ?_
 obtain ⟨x, y, z⟩ := r
 have key : ∀ (p q : Nat), (p = i ∨ p = j ∨ p = k) → (q = i ∨ q = j ∨ q = k) → p < n → q < n → Ok ((s_order2 (tb n h) (q : Int) k z).bind fun x18 => (s_order2 (tb n h) (p : Int) x18.1 x18.2.2).bind fun x28 => some (x28.2.1, x28.2.2)) (fun r => r.1 = (i : Int) ∨ r.1 = (j : Int) ∨ r.1 = (k : Int)) := by
  intro p q hp hq hpn hqn
  refine (order2_is t hqn hk z).bind fun r2 hr2 => ?_
  obtain ⟨x2, y2, z2⟩ := r2
  have fin : ∀ (u : Nat), (u = i ∨ u = j ∨ u = k) → u < n → Ok ((s_order2 (tb n h) (p : Int) (u : Int) z2).bind fun x28 => some (x28.2.1, x28.2.2)) (fun r => r.1 = (i : Int) ∨ r.1 = (j : Int) ∨ r.1 = (k : Int)) := by
   intro u hu hun
   refine (order2_is t hpn hun z2).bind fun r3 hr3 => .ret ?_
   rcases hr3 with ⟨_, h4⟩ | ⟨_, h4⟩
   ·show r3.2.1 = _ ∨ r3.2.1 = _ ∨ r3.2.1 = _
    rw [h4]; omega
   ·show r3.2.1 = _ ∨ r3.2.1 = _ ∨ r3.2.1 = _
    rw [h4]; omega
  rcases hr2 with ⟨h3, h4⟩ | ⟨h3, h4⟩
  ·simp only at h3 ⊢
   rw [h3]; exact fin q hq hqn
  ·simp only at h3 ⊢
   rw [h3]; exact fin k (by omega) hk
 rcases hr with ⟨h1, h2⟩ | ⟨h1, h2⟩
 ·simp only at h1 h2 ⊢
  rw [h1, h2]; exact key i j (by omega) (by omega) hi hj
 ·simp only at h1 h2 ⊢
  rw [h1, h2]; exact key j i (by omega) (by omega) hj hi
theorem pivot_is (hn : n ≤ 1000) (t : Tb n h) (a m : Nat) (hm : 8 ≤ m) (hm2 : m < 50) (hb : a + m ≤ n) : Ok (s_choosePivot (tb n h) a (a + m : Nat)) (fun r => ∃ p : Nat, r.1 = (p : Int) ∧ a ≤ p ∧ p < a + m) := by
 unfold s_choosePivot
 have w1 : w64 (((a + m : Nat) : Int) - (a : Int)) = (m : Int) := by rw [wsub (by omega) (by omega)]; congr 1; omega
 rw [w1, show (4 : Int) = ((4 : Nat) : Int) from rfl, quo_nat (by omega) (by omega)]
 simp only [Option.bind_some]
 rw [if_pos (decide_eq_true (by omega)), if_neg (by simp; omega)]
 generalize hq : m / 4 = q
 have e1 : w64 ((a : Int) + (w64 ((q : Int) * 1))) = ((a + q : Nat) : Int) := by rw [w64_id (x := (q : Int) * 1) (by omega) (by omega), w64_id (by omega) (by omega)]; omega
 have e2 : w64 ((a : Int) + (w64 ((q : Int) * 2))) = ((a + 2 * q : Nat) : Int) := by rw [w64_id (x := (q : Int) * 2) (by omega) (by omega), w64_id (by omega) (by omega)]; omega
 have e3 : w64 ((a : Int) + (w64 ((q : Int) * 3))) = ((a + 3 * q : Nat) : Int) := by rw [w64_id (x := (q : Int) * 3) (by omega) (by omega), w64_id (by omega) (by omega)]; omega
 rw [e1, e2, e3]
 unfold s_choosePivot_k2
 refine (median_is t (show a + q < n by omega) (show a + 2 * q < n by omega) (show a + 3 * q < n by omega) 0).bind fun r hr => ?_
 have : ∃ p : Nat, r.1 = (p : Int) ∧ a ≤ p ∧ p < a + m := by
  rcases hr with h | h | h
  ·exact ⟨_, h, by omega, by omega⟩
  ·exact ⟨_, h, by omega, by omega⟩
  ·exact ⟨_, h, by omega, by omega⟩
 unfold s_choosePivot_k1
 exact .ite (fun _ => .ret this) (fun _ => .ite (fun _ => .ret this) (fun _ => .ret this))
theorem reverse_is (hn : n ≤ 1000) (a m : Nat) (hm : 1 ≤ m) (hb : a + m ≤ n) : Ok (s_reverseRange (tb n h) a (a + m : Nat)) (fun r => ∃ h', r = tb n h' ∧ Pm a (a + m) h h') := by
 unfold s_reverseRange s_reverseRange_l1
 rw [wsub1 (by omega) (by omega)]
 refine Ok.loopM (B := fun s => s_reverseRange_l1b s.1 s.2.1 s.2.2) (fun s => ∃ (i j : Nat) (g : Nat → Nd), s = (tb n g, (i : Int), (j : Int)) ∧ a ≤ i ∧ i ≤ j + 1 ∧ j < a + m ∧ Pm a (a + m) h g) (fun s => s.2.2.toNat) (fun s hs => ?_) ⟨a, a + m - 1, h, rfl, Nat.le_refl _, by omega, by omega, .refl _ _ _⟩
 obtain ⟨i, j, g, rfl, h1, h2, h3, hp⟩ := hs
 show Ok (s_reverseRange_l1b (tb n g) i j) _
 unfold s_reverseRange_l1b
 refine .ite (fun hc => ?_) (fun hc => .map (.ret ⟨g, rfl, hp⟩))
 have hij : i < j := by have := of_decide_eq_true hc; omega
 rw [ix_tb (show j < n by omega), ix_tb (show i < n by omega)]
 simp only [Option.bind_some, Int.toNat_natCast, ix_set_tb (show j < n by omega)]
 rw [swap_tb, wadd1 (by omega), wsub1 (by omega) (by omega)]
 refine .ret ⟨⟨i + 1, j - 1, _, rfl, by omega, by omega, by omega, hp.swp (by omega) (by omega) (by omega) (by omega)⟩, ?_⟩
 show ((j - 1 : Nat) : Int).toNat < (j : Int).toNat
 omega
theorem partial_is (hn : n ≤ 1000) (t : Tb n h) (a m : Nat) (hm : 1 ≤ m) (hm2 : m < 50) (hb : a + m ≤ n) : Ok (s_partialInsertionSort (tb n h) a (a + m : Nat)) (fun r => r.2 = tb n h ∧ (r.1 = true → Srt a (a + m) h)) := by
 have w1 : w64 (((a + m : Nat) : Int) - (a : Int)) = (m : Int) := by rw [wsub (by omega) (by omega)]; congr 1; omega
 unfold s_partialInsertionSort s_partialInsertionSort_l1
 rw [wadd1 (by omega), loopO_eq]
 show Ok ((s_partialInsertionSort_l1b a (a + m : Nat) (tb n h) ((a + 1 : Nat) : Int) 0).bind _) _
 unfold s_partialInsertionSort_l1b
 rw [if_pos (by decide)]
 refine Ok.bind (P := fun x => ∃ r, x = Sum.inr r ∧ r.2 = tb n h ∧ (r.1 = true → Srt a (a + m) h)) ?_ (fun x hx => ?_)
 ·unfold s_partialInsertionSort_l2
  refine Ok.loopM (B := fun s => s_partialInsertionSort_l2b a (a + m : Nat) (tb n h) 0 s) (fun s => ∃ i : Nat, s = (i : Int) ∧ a + 1 ≤ i ∧ i ≤ a + m ∧ Srt a i h) (fun s => a + m - s.toNat) (fun s hs => ?_) ⟨a + 1, rfl, by omega, by omega, fun p q h1 h2 h3 => by omega⟩
  obtain ⟨i, rfl, h1, h2, hS⟩ := hs
  unfold s_partialInsertionSort_l2b
  refine .ite (fun hc => ?_) (fun hc => ?_)
  ·have hi : i < a + m := by have := of_decide_eq_true hc; omega
   rw [ix_tb (show i < n by omega), wsub1 (by omega) (by omega), ix_tb (show i - 1 < n by omega)]
   simp only [Option.bind_some]
   rw [t.cmp (by omega) (by omega)]
   simp only [Option.bind_some]
   unfold s_partialInsertionSort_k2
   refine .ite (fun hd => ?_) (fun hd => ?_)
   ·have hle : ky (h (i - 1)) ≤ ky (h i) := by
     have : ¬ ky (h i) - ky (h (i - 1)) < 0 := by simpa using hd
     omega
    rw [wadd1 (by omega)]
    refine .ret ⟨⟨i + 1, rfl, by omega, by omega, fun p q h3 h4 h5 => ?_⟩, by show a + m - ((i + 1 : Nat) : Int).toNat < a + m - (i : Int).toNat; omega⟩
    by_cases hq : q = i
    ·subst hq
     by_cases hp : p = q - 1
     ·subst hp; exact hle
     ·exact Int.le_trans (hS p (q - 1) h3 (by omega) (by omega)) hle
    ·exact hS p q h3 h4 (by omega)
   ·rw [if_neg (by simp; omega), w1, if_pos (decide_eq_true (by omega))]
    exact .map (.map (.ret ⟨_, rfl, rfl, fun h => by cases h⟩))
  ·have hi : i = a + m := by have := of_decide_eq_false hc; omega
   unfold s_partialInsertionSort_k2
   rw [if_neg (by decide), if_pos (by simp [hi])]
   exact .map (.map (.ret ⟨_, rfl, rfl, fun _ => by rw [← hi]; exact hS⟩))
 ·obtain ⟨r, rfl, hr⟩ := hx
  exact .ret hr
def Split (a b m : Nat) (g : Nat → Nd) : Prop := (∀ k, a ≤ k → k < m → ky (g k) ≤ ky (g m)) ∧ ∀ k, m < k → k < b → ky (g m) ≤ ky (g k)
structure PI (a b : Nat) (h g : Nat → Nd) (i j : Nat) : Prop where
 i1 : a + 1 ≤ i
 ij : i ≤ j + 1
 jb : j < b
 pm : Pm a b h g
 lo : ∀ k, a + 1 ≤ k → k < i → ky (g k) ≤ ky (g a)
 hi : ∀ k, j < k → k < b → ky (g a) ≤ ky (g k)
def PR3 (n a b : Nat) (h : Nat → Nd) (r : Int × Bool × List Nd) : Prop := ∃ (m : Nat) (g : Nat → Nd), r.1 = (m : Int) ∧ r.2.2 = tb n g ∧ a ≤ m ∧ m < b ∧ Pm a b h g ∧ Split a b m g
theorem part_fin {a b i j : Nat} {g : Nat → Nd} (P : PI a b h g i j) (hji : j < i) : a ≤ j ∧ j < b ∧ Pm a b h (swp g j a) ∧ Split a b j (swp g j a) := by
 have h1 := P.i1
 have h2 := P.ij
 have h3 := P.jb
 have e1 : swp g j a j = g a := by unfold swp; rw [sw_i]
 have e2 : swp g j a a = g j := by unfold swp; rw [sw_j]
 have e3 : ∀ q, q ≠ j → q ≠ a → swp g j a q = g q := fun q h1 h2 => by unfold swp; rw [sw_o h1 h2]
 refine ⟨by omega, h3, P.pm.swp (by omega) h3 (Nat.le_refl _) (by omega), fun k hk1 hk2 => ?_, fun k hk1 hk2 => ?_⟩
 ·rw [e1]
  by_cases hka : k = a
  ·subst hka; rw [e2]; exact P.lo j (by omega) (by omega)
  ·rw [e3 k (by omega) hka]; exact P.lo k (by omega) (by omega)
 ·rw [e1, e3 k (by omega) (by omega)]; exact P.hi k hk1 hk2
theorem PI.swap {a b i j : Nat} {g : Nat → Nd} (P : PI a b h g i j) (hij : i < j) (h1 : ky (g a) ≤ ky (g i)) (h2 : ky (g j) ≤ ky (g a)) : PI a b h (swp g i j) (i + 1) (j - 1) := by
 have h3 := P.i1
 have h4 := P.jb
 have e1 : swp g i j i = g j := by unfold swp; rw [sw_i]
 have e2 : swp g i j j = g i := by unfold swp; rw [sw_j]
 have e3 : ∀ q, q ≠ i → q ≠ j → swp g i j q = g q := fun q h1 h2 => by unfold swp; rw [sw_o h1 h2]
 refine ⟨by omega, by omega, by omega, P.pm.swp (by omega) (by omega) (by omega) h4, fun k hk1 hk2 => ?_, fun k hk1 hk2 => ?_⟩
 ·rw [e3 a (by omega) (by omega)]
  by_cases hk : k = i
  ·subst hk; rw [e1]; exact h2
  ·rw [e3 k hk (by omega)]; exact P.lo k hk1 (by omega)
 ·rw [e3 a (by omega) (by omega)]
  by_cases hk : k = j
  ·subst hk; rw [e2]; exact h1
  ·rw [e3 k (by omega) hk]; exact P.hi k (by omega) hk2
theorem l3_is (hn : n ≤ 1000) (t : Tb n h) (a b : Nat) (hb : b ≤ n) (g : Nat → Nd) (i j : Nat) (P : PI a b h g i j) : Ok (s_partition_l3 a (tb n g) i j) (PR3 n a b h) := by
 unfold s_partition_l3
 refine Ok.loopM (B := fun s => s_partition_l3b a s.1 s.2.1 s.2.2) (fun s => ∃ (i j : Nat) (g : Nat → Nd), s = (tb n g, (i : Int), (j : Int)) ∧ PI a b h g i j) (fun s => s.2.2.toNat + 1 - s.2.1.toNat) (fun s hs => ?_) ⟨i, j, g, rfl, P⟩
 clear P
 obtain ⟨i, j, g, rfl, P⟩ := hs
 have t' := t.pm P.pm hb
 have ha : a < n := by have := P.i1; have := P.ij; have := P.jb; omega
 show Ok (s_partition_l3b a (tb n g) i j) _
 unfold s_partition_l3b
 unfold s_partition_l4
 refine Ok.loopM (B := fun s => s_partition_l4b a (tb n g) j s) (fun s => ∃ i' : Nat, s = (i' : Int) ∧ i ≤ i' ∧ PI a b h g i' j) (fun s => j + 1 - s.toNat) (fun s hs => ?_) ⟨i, rfl, Nat.le_refl _, P⟩
 obtain ⟨i', rfl, hii, P'⟩ := hs
 have hjb := P'.jb
 have hi1 := P'.i1
 have hij := P'.ij
 unfold s_partition_l4b
 -- the way down
 have down : (i' ≤ j → ky (g a) ≤ ky (g i')) → Ok (s_partition_k3 a (tb n g) j i' false) (Sum.elim (fun s' => (∃ i'' : Nat, s' = (i'' : Int) ∧ i ≤ i'' ∧ PI a b h g i'' j) ∧ j + 1 - s'.toNat < j + 1 - (i' : Int).toNat) (Sum.elim (fun s' => (∃ (i j : Nat) (g : Nat → Nd), s' = (tb n g, (i : Int), (j : Int)) ∧ PI a b h g i j) ∧ s'.2.2.toNat + 1 - s'.2.1.toNat < ((tb n g, (i : Int), (j : Int)) : List Nd × Int × Int).2.2.toNat + 1 - ((tb n g, (i : Int), (j : Int)) : List Nd × Int × Int).2.1.toNat) (PR3 n a b h))) := by
  intro hgi
  unfold s_partition_k3
  rw [if_neg (by decide)]
  refine .map ?_
  unfold s_partition_l5
  refine Ok.loopM (B := fun s => s_partition_l5b a (tb n g) i' s) (fun s => ∃ j' : Nat, s = (j' : Int) ∧ j' ≤ j ∧ PI a b h g i' j') (fun s => s.toNat) (fun s hs => ?_) ⟨j, rfl, Nat.le_refl _, P'⟩
  obtain ⟨j', rfl, hjj, Q⟩ := hs
  have hij2 := Q.ij
  unfold s_partition_l5b
  refine .ite (fun hc => ?_) (fun hc => ?_)
  ·have hle : i' ≤ j' := by have := of_decide_eq_true hc; omega
   rw [ix_tb (show j' < n by omega), ix_tb ha]
   simp only [Option.bind_some]
   rw [t'.cmp (by omega) ha]
   simp only [Option.bind_some]
   unfold s_partition_k4
   refine .ite (fun hd => ?_) (fun hd => .map ?_)
   ·have hge : ky (g a) ≤ ky (g j') := by
     have : ¬ ky (g j') - ky (g a) < 0 := by simpa using hd
     omega
    rw [wsub1 (by omega) (by omega)]
    refine .ret ⟨⟨j' - 1, rfl, by omega, ⟨Q.i1, by omega, by omega, Q.pm, Q.lo, fun k hk1 hk2 => ?_⟩⟩, by show ((j' - 1 : Nat) : Int).toNat < (j' : Int).toNat; omega⟩
    by_cases hk : k = j'
    ·subst hk; exact hge
    ·exact Q.hi k (by omega) hk2
   ·have hlt : ky (g j') < ky (g a) := by
     have : ky (g j') - ky (g a) < 0 := by simpa using hd
     omega
    have hgi' := hgi (by omega)
    have hne : i' ≠ j' := by rintro rfl; omega
    rw [if_neg (by simp; omega), ix_tb (show j' < n by omega), ix_tb (show i' < n by omega)]
    simp only [Option.bind_some, Int.toNat_natCast, ix_set_tb (show j' < n by omega)]
    rw [swap_tb, wadd1 (by omega), wsub1 (by omega) (by omega)]
    refine .map (.ret ⟨⟨i' + 1, j' - 1, _, rfl, Q.swap (by omega) hgi' (by omega)⟩, ?_⟩)
    show ((j' - 1 : Nat) : Int).toNat + 1 - ((i' + 1 : Nat) : Int).toNat < (j : Int).toNat + 1 - (i : Int).toNat
    omega
  ·have hlt : j' < i' := by have := of_decide_eq_false hc; omega
   unfold s_partition_k4
   rw [if_neg (by decide), if_pos (decide_eq_true (by omega)), ix_tb ha, ix_tb (show j' < n by omega)]
   simp only [Option.bind_some, Int.toNat_natCast, ix_set_tb ha]
   rw [swap_tb]
   have F := part_fin Q hlt
   exact .map (.map (.map (.ret ⟨j', _, rfl, rfl, F.1, F.2.1, F.2.2.1, F.2.2.2⟩)))
 refine .ite (fun hc => ?_) (fun hc => ?_)
 ·have hle : i' ≤ j := by have := of_decide_eq_true hc; omega
  rw [ix_tb (show i' < n by omega), ix_tb ha]
  simp only [Option.bind_some]
  rw [t'.cmp (by omega) ha]
  simp only [Option.bind_some]
  cases hd : decide (ky (g i') - ky (g a) < 0) with
  | false => exact down fun _ => by have := of_decide_eq_false hd; omega
  | true =>
   have hlt : ky (g i') < ky (g a) := by have := of_decide_eq_true hd; omega
   unfold s_partition_k3
   rw [if_pos rfl, wadd1 (by omega)]
   refine .ret ⟨⟨i' + 1, rfl, by omega, ⟨by omega, by omega, hjb, P'.pm, fun k hk1 hk2 => ?_, P'.hi⟩⟩, by show j + 1 - ((i' + 1 : Nat) : Int).toNat < j + 1 - (i' : Int).toNat; omega⟩
   by_cases hk : k = i'
   ·subst hk; omega
   ·exact P'.lo k hk1 (by omega)
 ·have hlt : j < i' := by have := of_decide_eq_false hc; omega
  exact down fun h => by omega
theorem partition_is (hn : n ≤ 1000) (t : Tb n h) (a b p : Nat) (hab : a + 1 < b) (hb : b ≤ n) (hp1 : a ≤ p) (hp2 : p < b) : Ok (s_partition (tb n h) a b p) (PR3 n a b h) := by
 have ha : a < n := by omega
 unfold s_partition
 rw [ix_tb (show p < n by omega), ix_tb ha]
 simp only [Option.bind_some, Int.toNat_natCast, ix_set_tb (show p < n by omega)]
 unfold s_partition_l1
 rw [wadd1 (by omega)]
 generalize hg : swp h a p = g
 have hdat : ((tb n h).set a (h p)).set p (h a) = tb n g := by rw [swap_tb, hg]
 have P0 : PI a b h g (a + 1) (b - 1) := ⟨Nat.le_refl _, by omega, by omega, by rw [← hg]; exact .one (Nat.le_refl _) (by omega) hp1 hp2, fun k h1 h2 => by omega, fun k h1 h2 => by omega⟩
 have t' := t.pm P0.pm hb
 refine Ok.loopM (B := fun s => s_partition_l1b (tb n h) a b p (h p) (h a) s) (fun s => ∃ i : Nat, s = (i : Int) ∧ PI a b h g i (b - 1)) (fun s => b - s.toNat) (fun s hs => ?_) ⟨a + 1, rfl, P0⟩
 obtain ⟨i, rfl, P⟩ := hs
 have hi1 := P.i1
 have hij := P.ij
 unfold s_partition_l1b
 rw [wsub1 (by omega) (by omega)]
 simp only [Int.toNat_natCast, hdat]
 have down : (i ≤ b - 1 → ky (g a) ≤ ky (g i)) → Ok (s_partition_k1 (tb n h) a b p (h p) (h a) i false) (Sum.elim (fun s' => (∃ i : Nat, s' = (i : Int) ∧ PI a b h g i (b - 1)) ∧ b - s'.toNat < b - (i : Int).toNat) (PR3 n a b h)) := by
  intro hgi
  unfold s_partition_k1
  rw [if_neg (by decide), wsub1 (by omega) (by omega)]
  refine .map ?_
  unfold s_partition_l2
  refine Ok.loopM (B := fun s => s_partition_l2b (tb n h) a p (h p) (h a) i s) (fun s => ∃ j' : Nat, s = (j' : Int) ∧ j' ≤ b - 1 ∧ PI a b h g i j') (fun s => s.toNat) (fun s hs => ?_) ⟨b - 1, rfl, Nat.le_refl _, P⟩
  obtain ⟨j', rfl, hjj, Q⟩ := hs
  have hij2 := Q.ij
  unfold s_partition_l2b
  simp only [Int.toNat_natCast, hdat]
  refine .ite (fun hc => ?_) (fun hc => ?_)
  ·have hle : i ≤ j' := by have := of_decide_eq_true hc; omega
   rw [ix_tb (show j' < n by omega), ix_tb ha]
   simp only [Option.bind_some]
   rw [t'.cmp (by omega) ha]
   simp only [Option.bind_some]
   unfold s_partition_k2
   simp only [Int.toNat_natCast, hdat]
   refine .ite (fun hd => ?_) (fun hd => .map ?_)
   ·have hge : ky (g a) ≤ ky (g j') := by
     have : ¬ ky (g j') - ky (g a) < 0 := by simpa using hd
     omega
    rw [wsub1 (by omega) (by omega)]
    refine .ret ⟨⟨j' - 1, rfl, by omega, ⟨Q.i1, by omega, by omega, Q.pm, Q.lo, fun k hk1 hk2 => ?_⟩⟩, by show ((j' - 1 : Nat) : Int).toNat < (j' : Int).toNat; omega⟩
    by_cases hk : k = j'
    ·subst hk; exact hge
    ·exact Q.hi k (by omega) hk2
   ·have hlt : ky (g j') < ky (g a) := by
     have : ky (g j') - ky (g a) < 0 := by simpa using hd
     omega
    have hgi' := hgi (by omega)
    have hne : i ≠ j' := by rintro rfl; omega
    rw [if_neg (by simp; omega), ix_tb (show j' < n by omega), ix_tb (show i < n by omega)]
    simp only [Option.bind_some, ix_set_tb (show j' < n by omega)]
    rw [swap_tb, wadd1 (by omega), wsub1 (by omega) (by omega)]
    exact l3_is hn t a b hb _ _ _ (Q.swap (by omega) hgi' (by omega))
  ·have hlt : j' < i := by have := of_decide_eq_false hc; omega
   unfold s_partition_k2
   simp only [Int.toNat_natCast, hdat]
   rw [if_neg (by decide), if_pos (decide_eq_true (by omega)), ix_tb ha, ix_tb (show j' < n by omega)]
   simp only [Option.bind_some, ix_set_tb ha]
   rw [swap_tb]
   have F := part_fin Q hlt
   exact .map (.ret ⟨j', _, rfl, rfl, F.1, F.2.1, F.2.2.1, F.2.2.2⟩)
 refine .ite (fun hc => ?_) (fun hc => ?_)
 ·have hle : i ≤ b - 1 := by have := of_decide_eq_true hc; omega
  rw [ix_tb (show i < n by omega), ix_tb ha]
  simp only [Option.bind_some]
  rw [t'.cmp (by omega) ha]
  simp only [Option.bind_some]
  cases hd : decide (ky (g i) - ky (g a) < 0) with
  | false => exact down fun _ => by have := of_decide_eq_false hd; omega
  | true =>
   have hlt : ky (g i) < ky (g a) := by have := of_decide_eq_true hd; omega
   unfold s_partition_k1
   rw [if_pos rfl, wadd1 (by omega)]
   refine .ret ⟨⟨i + 1, rfl, ⟨by omega, by omega, by omega, P.pm, fun k hk1 hk2 => ?_, P.hi⟩⟩, by show b - ((i + 1 : Nat) : Int).toNat < b - (i : Int).toNat; omega⟩
   by_cases hk : k = i
   ·subst hk; omega
   ·exact P.lo k hk1 (by omega)
 ·have hlt : b - 1 < i := by have := of_decide_eq_false hc; omega
  exact down fun h => by omega
end
end Go.Vm.GA21
