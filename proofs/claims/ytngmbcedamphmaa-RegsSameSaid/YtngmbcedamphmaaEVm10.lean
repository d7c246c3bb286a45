/-
  Part of an evaluator for the model, proved sound: no condition.
-/
import Derived.Test.YtngmbcedamphmaaEVm9
set_option linter.unusedSimpArgs false
set_option linter.unusedVariables false
namespace Go.Vm
open Go
def beta (nx : Nat → Nat) (b : Nat) : Nat → Nat
 | 0 => 0
 | k + 1 => if b < nx k then beta nx b k else k + 1
theorem beta_spec {nx : Nat → Nat} {b : Nat} : ∀ (n : Nat), (∀ i, i < n → nx i ≤ nx (i + 1)) → b < nx n → b < nx (beta nx b n) ∧ beta nx b n ≤ n ∧ ∀ k, k ≤ n → b < nx k → beta nx b n ≤ k
 | 0, _, h => ⟨h, Nat.le_refl _, fun k _ _ => Nat.zero_le _⟩
 | n + 1, hm, h => by
  unfold beta
  by_cases hb : b < nx n
  ·rw [if_pos hb]
   obtain ⟨h1, h2, h3⟩ := beta_spec n (fun i hi => hm i (by omega)) hb
   refine ⟨h1, by omega, fun k hk hkb => ?_⟩
   by_cases hkn : k ≤ n
   ·exact h3 k hkn hkb
   ·omega
  ·rw [if_neg hb]
   refine ⟨h, Nat.le_refl _, fun k hk hkb => ?_⟩
   have hmono : ∀ i j, i ≤ j → j ≤ n + 1 → nx i ≤ nx j := by
    intro i j hij
    induction hij with
    | refl => intro _; exact Nat.le_refl _
    | step hij ih => intro hj; rename_i q; have := hm q (by omega); exact Nat.le_trans (ih (by omega)) this
   by_cases hkn : k ≤ n
   ·have := hmono k n hkn (by omega); omega
   ·omega
def cut (ι : Inj) (k : Nat) : Inj := fun b => if b < k then ι b else none
theorem cut_some {ι : Inj} {k b : Nat} {l : Loc} (h : cut ι k b = some l) : ι b = some l ∧ b < k := by
 by_cases hb : b < k
 ·exact ⟨by simpa [cut, hb] using h, hb⟩
 ·simp [cut, hb] at h
theorem cut_lt {ι : Inj} {k b : Nat} (h : b < k) : cut ι k b = ι b := by simp [cut, h]
theorem R.merge {ι1 ι' : Inj} {Gm Gj Gj' G2 : AH} {w1 w2 : World} {k k' : Nat} (hr : R ι1 Gm w1) (hGj : Gj.next = k) (hlo : Gj.lo = Gm.lo) (hGj' : Gj'.next = k') (hk : k ≤ k')
  (hag : ∀ b l, cut ι1 k b = some l → Gj.get b = Gm.get b) (ha : After (cut ι1 k) Gj Gj' w1 w2 ι') (hno : ∀ b l, ι1 b = some l → b < k ∨ k' ≤ b)
  (hlo2 : G2.lo = Gm.lo) (hnx : k' ≤ G2.next) (hnx2 : Gm.next ≤ G2.next) (h1 : ∀ b l, ι' b = some l → G2.get b = Gj'.get b) (h2 : ∀ b l, ι1 b = some l → k' ≤ b → G2.get b = Gm.get b) :
  R (fun b => if b < k' then ι' b else ι1 b) G2 w2 ∧ ι1.le (fun b => if b < k' then ι' b else ι1 b) := by
 obtain ⟨hn, hr', hf⟩ := ha
 have hd' : ∀ b l, ι' b = some l → b < k' := fun b l h => hGj' ▸ (hr'.dom b l h).1
 have hle : ι1.le (fun b => if b < k' then ι' b else ι1 b) := fun b l h => by
  rcases hno b l h with hb | hb
  ·simp only [show b < k' by omega, if_true]
   exact hn.ext b l (by rw [cut_lt hb]; exact h)
  ·simp only [show ¬ b < k' by omega, if_false]
   exact h
 have hle' : ι'.le (fun b => if b < k' then ι' b else ι1 b) := fun b l h => by simp only [hd' b l h, if_true]; exact h
 have hdead : ∀ b l, cut ι1 k b = some l → Gj'.get b ≠ none → Gm.get b ≠ none := fun b l hb hg e => hg (hn.dead b (by rw [hGj]; exact (cut_some hb).2) (by rw [hag b l hb]; exact e))
 have hkeep : ∀ b l, ι1 b = some l → k' ≤ b → Gm.get b ≠ none → w2.heap[l.blk]? = w1.heap[l.blk]? := fun b l hb hkb hg => by
  refine hf.2.1 l.blk (hr.dom b l hb).2 (fun b' l' hb' hl' _ => ?_)
  obtain ⟨h3, h4⟩ := cut_some hb'
  rw [hag b' l' hb']
  by_cases hg' : Gm.get b' = none
  ·exact hg'
  ·have := hr.inj b' b l' l h3 hb hg' hg hl'
   omega
 refine ⟨⟨fun b l o hb hg => ?_, fun b1 b2 l1 l2 hb1 hb2 hg1 hg2 he => ?_, fun b l hb => ?_, fun b hb => ?_⟩, hle⟩
 ·by_cases hbk : b < k'
  ·simp only [hbk, if_true] at hb
   rw [h1 b l hb] at hg
   have := hr'.obj b l o hb hg
   rw [hn.lo, hlo] at this
   rw [hlo2]
   exact this.keep hle' rfl
  ·simp only [hbk, if_false] at hb
   have hg' := hg
   rw [h2 b l hb (by omega)] at hg'
   rw [hlo2]
   exact (hr.obj b l o hb hg').keep hle (hkeep b l hb (by omega) (by rw [hg']; simp))
 ·have mixed : ∀ b1 b2 l1 l2, b1 < k' → ¬ b2 < k' → ι' b1 = some l1 → ι1 b2 = some l2 → G2.get b1 ≠ none → G2.get b2 ≠ none → l1.blk = l2.blk → False := fun b1 b2 l1 l2 hk1 hk2 hb1 hb2 hg1 hg2 he => by
   rw [h1 b1 l1 hb1] at hg1
   rw [h2 b2 l2 hb2 (by omega)] at hg2
   rcases hn.new b1 l1 hb1 with h3 | ⟨h3, h4, h5⟩
   ·have := hr.inj b1 b2 l1 l2 (cut_some h3).1 hb2 (hdead b1 l1 h3 hg1) hg2 he
    omega
   ·rcases h5 with h5 | ⟨b0, l0, h6, h7, h8, h9⟩
    ·have := (hr.dom b2 l2 hb2).2
     omega
    ·obtain ⟨h10, h11⟩ := cut_some h6
     have := hr.inj b0 b2 l0 l2 h10 hb2 (by rw [← hag b0 l0 h6]; exact h8) hg2 (h9.trans he)
     omega
  by_cases hk1 : b1 < k' <;> by_cases hk2 : b2 < k'
  ·simp only [hk1, if_true] at hb1
   simp only [hk2, if_true] at hb2
   rw [h1 b1 l1 hb1] at hg1
   rw [h1 b2 l2 hb2] at hg2
   exact hr'.inj b1 b2 l1 l2 hb1 hb2 hg1 hg2 he
  ·simp only [hk1, if_true] at hb1
   simp only [hk2, if_false] at hb2
   exact (mixed b1 b2 l1 l2 hk1 hk2 hb1 hb2 hg1 hg2 he).elim
  ·simp only [hk1, if_false] at hb1
   simp only [hk2, if_true] at hb2
   exact (mixed b2 b1 l2 l1 hk2 hk1 hb2 hb1 hg2 hg1 he.symm).elim
  ·simp only [hk1, if_false] at hb1
   simp only [hk2, if_false] at hb2
   rw [h2 b1 l1 hb1 (by omega)] at hg1
   rw [h2 b2 l2 hb2 (by omega)] at hg2
   exact hr.inj b1 b2 l1 l2 hb1 hb2 hg1 hg2 he
 ·by_cases hbk : b < k'
  ·simp only [hbk, if_true] at hb
   have := hr'.dom b l hb
   exact ⟨by omega, this.2⟩
  ·simp only [hbk, if_false] at hb
   have := hr.dom b l hb
   have := hf.1
   exact ⟨by omega, by omega⟩
 ·by_cases hbk : b < k'
  ·obtain ⟨l, h3, h4, h5, h6⟩ := hr'.low b (by rw [hn.lo, hlo, ← hlo2]; exact hb)
   exact ⟨l, by simp only [hbk, if_true]; exact h3, h4, h5, fun e c hg => h6 e c (by rw [← h1 b l h3]; exact hg)⟩
  ·obtain ⟨l, h3, h4, h5, h6⟩ := hr.low b (hlo2 ▸ hb)
   exact ⟨l, hle _ _ h3, h4, h5, fun e c hg => h6 e c (by rw [← h2 b l h3 (by omega)]; exact hg)⟩
def svp (ops : Array Oper) (vf : Nat → Value) (t0 : T) (S : Nat → Bool) (s : Nat) : Nat → Value × Nat
 | 0 => (t0 s, 0)
 | k + 1 => if S k = true ∧ (ops[k]?).bind (·.dst) = some s then (vf k, k + 1) else svp ops vf t0 S s k
theorem svp_congr {ops : Array Oper} {vf : Nat → Value} {t0 : T} {S S' : Nat → Bool} {s : Nat} : ∀ k, (∀ i, i < k → (ops[i]?).bind (·.dst) = some s → S i = S' i) → svp ops vf t0 S s k = svp ops vf t0 S' s k
 | 0, _ => rfl
 | k + 1, h => by
  unfold svp
  rw [svp_congr k (fun i hi => h i (by omega))]
  by_cases hd : (ops[k]?).bind (·.dst) = some s
  ·rw [h k (by omega) hd]
  ·simp [hd]
theorem svp_skip {ops : Array Oper} {vf : Nat → Value} {t0 : T} {S : Nat → Bool} {s : Nat} (j : Nat) : ∀ k, j ≤ k → (∀ i, j ≤ i → i < k → (ops[i]?).bind (·.dst) = some s → S i = false) → svp ops vf t0 S s k = svp ops vf t0 S s j := by
 intro k hk
 induction hk with
 | refl => intro _; rfl
 | @step k hk ih =>
  intro h
  show (if S k = true ∧ (ops[k]?).bind (·.dst) = some s then (vf k, k + 1) else svp ops vf t0 S s k) = _
  rw [if_neg (fun ⟨h1, h2⟩ => by have := h k (by simpa using hk) (by omega) h2; rw [h1] at this; cases this)]
  exact ih (fun i h1 h2 => h i h1 (by omega))
end Go.Vm
