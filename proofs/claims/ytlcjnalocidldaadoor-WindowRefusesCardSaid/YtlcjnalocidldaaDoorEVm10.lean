/-
  Part of an evaluator for the model, proved sound: no condition.
-/
import Derived.Test.YtlcjnalocidldaaDoorEVm6
set_option linter.unusedSimpArgs false
set_option linter.unusedVariables false
namespace Go.Vm
open Go
def beta (nx : Nat → Nat) (b : Nat) : Nat → Nat
 | 0 => 0
 | k + 1 => if b < nx k then beta nx b k else k + 1
theorem beta_spec {nx : Nat → Nat} {b : Nat} : ∀ (n : Nat), (∀ i, i < n → nx i ≤ nx (i + 1)) → b < nx n → b < nx (beta nx b n) ∧ beta nx b n ≤ n ∧ ∀ k, k ≤ n → b < nx k → beta nx b n ≤ k
 | 0, _, h => ⟨h, Nat.le_refl _, fun k _ _ => Nat.zero_le _⟩
 | n + 1, hm, h => by
  unfold beta
  by_cases hb : b < nx n
  ·rw [if_pos hb]
   obtain ⟨h1, h2, h3⟩ := beta_spec n (fun i hi => hm i (by omega)) hb
   refine ⟨h1, by omega, fun k hk hkb => ?_⟩
   by_cases hkn : k ≤ n
   ·exact h3 k hkn hkb
   ·omega
  ·rw [if_neg hb]
   refine ⟨h, Nat.le_refl _, fun k hk hkb => ?_⟩
   have hmono : ∀ i j, i ≤ j → j ≤ n + 1 → nx i ≤ nx j := by
    intro i j hij
    induction hij with
    | refl => intro _; exact Nat.le_refl _
    | step hij ih => intro hj; rename_i q; have := hm q (by omega); exact Nat.le_trans (ih (by omega)) this
   by_cases hkn : k ≤ n
   ·have := hmono k n hkn (by omega); omega
   ·omega
def cut (ι : Inj) (k : Nat) : Inj := fun b => if b < k then ι b else none
theorem cut_some {ι : Inj} {k b : Nat} {l : Loc} (h : cut ι k b = some l) : ι b = some l ∧ b < k := by
 by_cases hb : b < k
 ·exact ⟨by simpa [cut, hb] using h, hb⟩
 ·simp [cut, hb] at h
theorem cut_lt {ι : Inj} {k b : Nat} (h : b < k) : cut ι k b = ι b := by simp [cut, h]
theorem R.merge {ι1 ι' : Inj} {Gm Gj Gj' G2 : AH} {w1 w2 : World} {k k' : Nat} (hr : R ι1 Gm w1) (hGj : Gj.next = k) (hlo : Gj.lo = Gm.lo) (hGj' : Gj'.next = k') (hk : k ≤ k')
  (hag : ∀ b l, cut ι1 k b = some l → Gj.get b = Gm.get b) (ha : After (cut ι1 k) Gj Gj' w1 w2 ι') (hno : ∀ b l, ι1 b = some l → b < k ∨ k' ≤ b)
  (hlo2 : G2.lo = Gm.lo) (hnx : k' ≤ G2.next) (hnx2 : Gm.next ≤ G2.next) (h1 : ∀ b l, ι' b = some l → G2.get b = Gj'.get b) (h2 : ∀ b l, ι1 b = some l → k' ≤ b → G2.get b = Gm.get b) :
  R (fun b => if b < k' then ι' b else ι1 b) G2 w2 ∧ ι1.le (fun b => if b < k' then ι' b else ι1 b) := by
 obtain ⟨hn, hr', hf⟩ := ha
 have hd' : ∀ b l, ι' b = some l → b < k' := fun b l h => hGj' ▸ (hr'.dom b l h).1
 have hle : ι1.le (fun b => if b < k' then ι' b else ι1 b) := fun b l h => by
  rcases hno b l h with hb | hb
  ·simp only [show b < k' by omega, if_true]
   exact hn.ext b l (by rw [cut_lt hb]; exact h)
  ·simp only [show ¬ b < k' by omega, if_false]
   exact h
 have hle' : ι'.le (fun b => if b < k' then ι' b else ι1 b) := fun b l h => by simp only [hd' b l h, if_true]; exact h
 have hdead : ∀ b l, cut ι1 k b = some l → Gj'.get b ≠ none → Gm.get b ≠ none := fun b l hb hg e => hg (hn.dead b (by rw [hGj]; exact (cut_some hb).2) (by rw [hag b l hb]; exact e))
 have hkeep : ∀ b l, ι1 b = some l → k' ≤ b → Gm.get b ≠ none → w2.heap[l.blk]? = w1.heap[l.blk]? := fun b l hb hkb hg => by
  refine hf.2.1 l.blk (hr.dom b l hb).2 (fun b' l' hb' hl' _ => ?_)
  obtain ⟨h3, h4⟩ := cut_some hb'
  rw [hag b' l' hb']
  by_cases hg' : Gm.get b' = none
  ·exact hg'
  ·have := hr.inj b' b l' l h3 hb hg' hg hl'
   omega
 refine ⟨⟨fun b l o hb hg => ?_, fun b1 b2 l1 l2 hb1 hb2 hg1 hg2 he => ?_, fun b l hb => ?_, fun b hb => ?_⟩, hle⟩
 ·by_cases hbk : b < k'
  ·simp only [hbk, if_true] at hb
   rw [h1 b l hb] at hg
   have := hr'.obj b l o hb hg
   rw [hn.lo, hlo] at this
   rw [hlo2]
   exact this.keep hle' rfl
  ·simp only [hbk, if_false] at hb
   have hg' := hg
   rw [h2 b l hb (by omega)] at hg'
   rw [hlo2]
   exact (hr.obj b l o hb hg').keep hle (hkeep b l hb (by omega) (by rw [hg']; simp))
 ·have mixed : ∀ b1 b2 l1 l2, b1 < k' → ¬ b2 < k' → ι' b1 = some l1 → ι1 b2 = some l2 → G2.get b1 ≠ none → G2.get b2 ≠ none → l1.blk = l2.blk → False := fun b1 b2 l1 l2 hk1 hk2 hb1 hb2 hg1 hg2 he => by
   rw [h1 b1 l1 hb1] at hg1
   rw [h2 b2 l2 hb2 (by omega)] at hg2
   rcases hn.new b1 l1 hb1 with h3 | ⟨h3, h4, h5⟩
   ·have := hr.inj b1 b2 l1 l2 (cut_some h3).1 hb2 (hdead b1 l1 h3 hg1) hg2 he
    omega
   ·rcases h5 with h5 | ⟨b0, l0, h6, h7, h8, h9⟩
    ·have := (hr.dom b2 l2 hb2).2
     omega
    ·obtain ⟨h10, h11⟩ := cut_some h6
     have := hr.inj b0 b2 l0 l2 h10 hb2 (by rw [← hag b0 l0 h6]; exact h8) hg2 (h9.trans he)
     omega
  by_cases hk1 : b1 < k' <;> by_cases hk2 : b2 < k'
  ·simp only [hk1, if_true] at hb1
   simp only [hk2, if_true] at hb2
   rw [h1 b1 l1 hb1] at hg1
   rw [h1 b2 l2 hb2] at hg2
   exact hr'.inj b1 b2 l1 l2 hb1 hb2 hg1 hg2 he
  ·simp only [hk1, if_true] at hb1
   simp only [hk2, if_false] at hb2
   exact (mixed b1 b2 l1 l2 hk1 hk2 hb1 hb2 hg1 hg2 he).elim
  ·simp only [hk1, if_false] at hb1
   simp only [hk2, if_true] at hb2
   exact (mixed b2 b1 l2 l1 hk2 hk1 hb2 hb1 hg2 hg1 he.symm).elim
  ·simp only [hk1, if_false] at hb1
   simp only [hk2, if_false] at hb2
   rw [h2 b1 l1 hb1 (by omega)] at hg1
   rw [h2 b2 l2 hb2 (by omega)] at hg2
   exact hr.inj b1 b2 l1 l2 hb1 hb2 hg1 hg2 he
 ·by_cases hbk : b < k'
  ·simp only [hbk, if_true] at hb
   have := hr'.dom b l hb
   exact ⟨by omega, this.2⟩
  ·simp only [hbk, if_false] at hb
   have := hr.dom b l hb
   have := hf.1
   exact ⟨by omega, by omega⟩
 ·by_cases hbk : b < k'
  ·obtain ⟨l, h3, h4, h5, h6⟩ := hr'.low b (by rw [hn.lo, hlo, ← hlo2]; exact hb)
   exact ⟨l, by simp only [hbk, if_true]; exact h3, h4, h5, fun e c hg => h6 e c (by rw [← h1 b l h3]; exact hg)⟩
  ·obtain ⟨l, h3, h4, h5, h6⟩ := hr.low b (hlo2 ▸ hb)
   exact ⟨l, hle _ _ h3, h4, h5, fun e c hg => h6 e c (by rw [← h2 b l h3 (by omega)]; exact hg)⟩
def svp (ops : Array Oper) (vf : Nat → Value) (t0 : T) (S : Nat → Bool) (s : Nat) : Nat → Value × Nat
 | 0 => (t0 s, 0)
 | k + 1 => if S k = true ∧ (ops[k]?).bind (·.dst) = some s then (vf k, k + 1) else svp ops vf t0 S s k
theorem svp_congr {ops : Array Oper} {vf : Nat → Value} {t0 : T} {S S' : Nat → Bool} {s : Nat} : ∀ k, (∀ i, i < k → (ops[i]?).bind (·.dst) = some s → S i = S' i) → svp ops vf t0 S s k = svp ops vf t0 S' s k
 | 0, _ => rfl
 | k + 1, h => by
  unfold svp
  rw [svp_congr k (fun i hi => h i (by omega))]
  by_cases hd : (ops[k]?).bind (·.dst) = some s
  ·rw [h k (by omega) hd]
  ·simp [hd]
theorem svp_skip {ops : Array Oper} {vf : Nat → Value} {t0 : T} {S : Nat → Bool} {s : Nat} (j : Nat) : ∀ k, j ≤ k → (∀ i, j ≤ i → i < k → (ops[i]?).bind (·.dst) = some s → S i = false) → svp ops vf t0 S s k = svp ops vf t0 S s j := by
 intro k hk
 induction hk with
 | refl => intro _; rfl
 | @step k hk ih =>
  intro h
  show (if S k = true ∧ (ops[k]?).bind (·.dst) = some s then (vf k, k + 1) else svp ops vf t0 S s k) = _
  rw [if_neg (fun ⟨h1, h2⟩ => by have := h k (by simpa using hk) (by omega) h2; rw [h1] at this; cases this)]
  exact ih (fun i h1 h2 => h i h1 (by omega))
end Go.Vm
namespace Go.Vm
open Go
section
variable {P : Program} {C : CallRel} {ops : Array Oper} {t0 : T} {H0 : AH} {Hf : Nat → AH} {tf : Nat → T} {kf : Nat → Kind} {vf : Nat → Value}
def Gh (n : Nat) (Hf : Nat → AH) (lo : Nat) (m : Nat) : AH := ⟨fun b => (Hf (max m (beta (fun i => (Hf i).next) b n))).get b, (Hf n).next, lo⟩
theorem Trace.mono (ht : Trace P C ops t0 H0 Hf tf kf vf) (hC : ∀ g args H v H', C g args H v H' → H.next ≤ H'.next ∧ H'.lo = H.lo) {i : Nat} (hi : i < ops.size) :
  (Hf i).next ≤ (Hf (i + 1)).next ∧ (Hf (i + 1)).lo = (Hf i).lo ∧ (kf i = .eff ∨ ((∀ b, b < (Hf i).next → (Hf (i + 1)).get b = (Hf i).get b) ∧ ((Hf (i + 1)).next = (Hf i).next ∨ (kf i = .alloc (Hf i).next ∧ (Hf (i + 1)).next = (Hf i).next + 1)))) :=
 (ht.step i ops[i] (Array.getElem?_eq_getElem hi)).1.next hC
theorem Trace.le (ht : Trace P C ops t0 H0 Hf tf kf vf) (hC : ∀ g args H v H', C g args H v H' → H.next ≤ H'.next ∧ H'.lo = H.lo) {i j : Nat} (hij : i ≤ j) (hj : j ≤ ops.size) :
  (Hf i).next ≤ (Hf j).next ∧ (Hf j).lo = (Hf i).lo := by
 induction hij with
 | refl => exact ⟨Nat.le_refl _, rfl⟩
 | @step j hij ih =>
  have h1 := ih (by omega)
  have h2 := ht.mono hC (i := j) (by omega)
  exact ⟨Nat.le_trans h1.1 h2.1, h2.2.1.trans h1.2⟩
theorem Trace.stable (ht : Trace P C ops t0 H0 Hf tf kf vf) (hC : ∀ g args H v H', C g args H v H' → H.next ≤ H'.next ∧ H'.lo = H.lo) {b i j : Nat} (hij : i ≤ j) (hj : j ≤ ops.size) (hb : b < (Hf i).next)
  (h : ∀ e, i ≤ e → e < j → kf e = .eff → (Hf (e + 1)).get b = (Hf e).get b) : (Hf j).get b = (Hf i).get b := by
 induction hij with
 | refl => rfl
 | @step j hij ih =>
  have h1 := ih (by omega) (fun e h1 h2 => h e h1 (by omega))
  have h2 := ht.mono hC (i := j) (by omega)
  have h3 := (ht.le hC hij (by omega)).1
  rw [← h1]
  rcases h2.2.2 with h4 | h4
  ·exact h j hij (by omega) h4
  ·exact h4.1 b (by omega)
theorem Trace.stableL (ht : Trace P C ops t0 H0 Hf tf kf vf) (hC : ∀ g args H v H', C g args H v H' → H.next ≤ H'.next ∧ H'.lo = H.lo) {r : Rk} {i j : Nat} (hij : i ≤ j) (hj : j ≤ ops.size) (hb : r.b < (Hf i).next)
  (h : ∀ e, i ≤ e → e < j → kf e = .eff → (Hf (e + 1)).look r = (Hf e).look r) : (Hf j).look r = (Hf i).look r := by
 induction hij with
 | refl => rfl
 | @step j hij ih =>
  have h1 := ih (by omega) (fun e h1 h2 => h e h1 (by omega))
  have h2 := ht.mono hC (i := j) (by omega)
  have h3 := (ht.le hC hij (by omega)).1
  rw [← h1]
  rcases h2.2.2 with h4 | h4
  ·exact h j hij (by omega) h4
  ·exact look_get (h4.1 r.b (by omega))
inductive Bd (k : Nat) : Value → Prop
 | top : Bd k topV
 | atom (v : Value) (h : Atom v) : Bd k v
 | ptr (b o : Nat) (h : b < k) : Bd k (.pointer (some ⟨b, o, none⟩))
 | slice (b o n c : Nat) (h : b < k) : Bd k (.slice (some ⟨b, o, none⟩) n c)
 | map (b : Nat) (h : b < k) : Bd k (.map (some b))
 | agg (xs : Array Value) (h : ∀ (i : Nat) (h1 : i < xs.size), Bd k xs[i]) : Bd k (.agg xs)
 | tuple (xs : Array Value) (h : ∀ (i : Nat) (h1 : i < xs.size), Bd k xs[i]) : Bd k (.tuple xs)
 | func (fn : Fn) (xs us : Array Value) (h : ∀ (i : Nat) (h1 : i < xs.size), Bd k xs[i]) (h' : ∀ (i : Nat) (h1 : i < us.size), Bd k us[i]) : Bd k (.func fn xs us)
theorem VR.bd {lo k : Nat} {ι : Inj} {v u : Value} (h : VR lo ι v u) (hk : ∀ b l, ι b = some l → b < k) : Bd k v := by
 induction h with
 | top v => exact .top
 | atom v h => exact .atom v h
 | ptr b o l h => exact .ptr b o (hk b l h)
 | slice b o n c l a' c' h hc ha hs => exact .slice b o n c (hk b l h)
 | map b l h => exact .map b (hk b l h)
 | agg xs ys hs h ih => exact .agg xs (fun i h1 => ih i h1 (by omega))
 | tuple xs ys hs h ih => exact .tuple xs (fun i h1 => ih i h1 (by omega))
 | func fn xs ys us vs hs h hs' h' ih ih' => exact .func fn xs us (fun i h1 => ih i h1 (by omega)) (fun i h1 => ih' i h1 (by omega))
theorem VR.cut {lo k : Nat} {ι : Inj} {v u : Value} (h : VR lo ι v u) : Bd k v → VR lo (Vm.cut ι k) v u := by
 induction h with
 | top v => exact fun _ => .top v
 | atom v h => exact fun _ => .atom v h
 | ptr b o l h =>
  intro hb
  cases hb with
  | ptr _ _ hb => exact .ptr b o l (by rw [cut_lt hb]; exact h)
  | atom _ hb => cases hb
 | slice b o n c l a' c' h hc ha hs =>
  intro hb
  cases hb with
  | slice _ _ _ _ hb => exact .slice b o n c l a' c' (by rw [cut_lt hb]; exact h) hc ha hs
  | atom _ hb => cases hb
 | map b l h =>
  intro hb
  cases hb with
  | map _ hb => exact .map b l (by rw [cut_lt hb]; exact h)
  | atom _ hb => cases hb
 | agg xs ys hs h ih =>
  intro hb
  generalize hx : Value.agg xs = x at hb
  cases hb with
  | agg xs' hb => cases hx; exact .agg xs ys hs (fun i h1 h2 => ih i h1 h2 (hb i h1))
  | atom _ hb => subst hx; cases hb
  | _ => cases hx
 | tuple xs ys hs h ih =>
  intro hb
  generalize hx : Value.tuple xs = x at hb
  cases hb with
  | tuple xs' hb => cases hx; exact .tuple xs ys hs (fun i h1 h2 => ih i h1 h2 (hb i h1))
  | atom _ hb => subst hx; cases hb
  | top =>
   cases hx
   refine .tuple _ ys hs (fun i h1 h2 => ih i h1 h2 ?_)
   have : i = 0 := by simp at h1; exact h1
   subst this
   exact .tuple #[] (fun i h1 => by simp at h1)
  | _ => cases hx
 | func fn xs ys us vs hs h hs' h' ih ih' =>
  intro hb
  generalize hx : Value.func fn xs us = x at hb
  cases hb with
  | func fn' xs' us' hb hb' => cases hx; exact .func fn xs ys us vs hs (fun i h1 h2 => ih i h1 h2 (hb i h1)) hs' (fun i h1 h2 => ih' i h1 h2 (hb' i h1))
  | atom _ hb => subst hx; cases hb
  | _ => cases hx
def BdObj (k : Nat) : AObj → Prop
 | .cells _ c => ∀ v ∈ c, Bd k v
 | .amap l => ∀ p ∈ l, Bd k p.2
 | .tcells _ c => ∀ v ∈ c, Bd k v
 | .bld _ r _ => r < k
 | .trow _ _ => True
theorem ObjRel.bd {lo k : Nat} {ι : Inj} {b : Nat} {l : Loc} {w : World} {q : AObj} (h : ObjRel lo ι b l w q) (hk : ∀ b l, ι b = some l → b < k) : BdObj k q := by
 cases q with
 | cells esz c =>
  obtain ⟨cs, elem, fr, h1, h2, h3, h4, h5, h6⟩ := h
  intro v hv
  obtain ⟨o, ho⟩ := List.getElem?_of_mem hv
  obtain ⟨v', _, h8⟩ := h5 o v ho
  exact h8.bd hk
 | amap es =>
  obtain ⟨cs, clock, h1, h2, h3, hst⟩ := h
  intro p hp
  obtain ⟨o, ho⟩ := List.getElem?_of_mem hp
  obtain ⟨e, _, _, h6⟩ := h3 o p.1 p.2 ho
  exact h6.bd hk
 | tcells ty c =>
  obtain ⟨cs, h1, h2, h3, h4⟩ := h
  intro v hv
  obtain ⟨o, ho⟩ := List.getElem?_of_mem hv
  obtain ⟨v', _, h8⟩ := h4 o v ho
  exact h8.bd hk
 | bld ty r n => obtain ⟨lr, h1, _⟩ := h; exact hk _ _ h1
 | trow ty c => trivial
theorem ObjRel.cut {lo k : Nat} {ι : Inj} {b : Nat} {l : Loc} {w : World} {q : AObj} (h : ObjRel lo ι b l w q) (hk : BdObj k q) : ObjRel lo (Vm.cut ι k) b l w q := by
 cases q with
 | cells esz c =>
  obtain ⟨cs, elem, fr, h1, h2, h3, h4, h5, h6⟩ := h
  refine ⟨cs, elem, fr, h1, h2, h3, h4, fun o v ho => ?_, h6⟩
  obtain ⟨v', h7, h8⟩ := h5 o v ho
  exact ⟨v', h7, h8.cut (hk v (List.mem_of_getElem? ho))⟩
 | amap es =>
  obtain ⟨cs, clock, h1, h2, h3, hst⟩ := h
  refine ⟨cs, clock, h1, h2, fun i k' v hi => ?_, hst⟩
  obtain ⟨e, h4, h5, h6⟩ := h3 i k' v hi
  exact ⟨e, h4, h5, h6.cut (hk (k', v) (List.mem_of_getElem? hi))⟩
 | tcells ty c =>
  obtain ⟨cs, h1, h2, h3, h4⟩ := h
  refine ⟨cs, h1, h2, h3, fun o v ho => ?_⟩
  obtain ⟨v', h7, h8⟩ := h4 o v ho
  exact ⟨v', h7, h8.cut (hk v (List.mem_of_getElem? ho))⟩
 | bld ty r n =>
  obtain ⟨lr, h1, h2⟩ := h
  have hr : r < k := hk
  exact ⟨lr, by unfold Vm.cut; rw [if_pos hr]; exact h1, h2⟩
 | trow ty c => exact h
theorem wp_get {o : Oper} {a : Act} {w : World} {K : Act → World → Prop} (h : o.wp P a w K (fun _ _ _ => False)) : ∃ a' w', K a' w' := by
 unfold Oper.wp at h
 generalize (execOp a.eval o).run P w = r at h
 cases r with
 | ok n w' =>
  cases n <;> simp only [Oper.upon] at h <;> first | exact ⟨_, _, h⟩ | (obtain ⟨e, w'', fr, h1, _⟩ := h []; cases e <;> first | exact ⟨_, _, h1⟩ | exact h1.elim | (obtain ⟨_, _, h2⟩ := h1; exact h2.elim)) | (obtain ⟨v, w'', h1, _⟩ := h default []; exact ⟨_, _, h1⟩)
 | halt x w' => cases x <;> simp only [Oper.upon] at h
theorem Trace.canon (hS : Snd P C) {G N : Nat} (hok : okOps G N ops = true) (ht : Trace P C ops t0 H0 Hf tf kf vf) {ι : Inj} {a : Act} {w : World} (hr0 : R ι H0 w) (hf0 : FR H0.lo ι t0 a) (hG : G ≤ H0.lo) (hN : a.tmps.size = N) :
  ∀ k, k ≤ ops.size → ∃ ι' a' w', NN ι ι' H0 (Hf k) w ∧ R ι' (Hf k) w' ∧ FR H0.lo ι' (tf k) a' ∧ a'.tmps.size = N ∧ w.heap.size ≤ w'.heap.size := by
 intro k
 induction k with
 | zero => intro _; rw [ht.h0, ht.t0]; exact ⟨ι, a, w, NN.refl _ _ _, hr0, hf0, hN, Nat.le_refl _⟩
 | succ k ih =>
  intro hk
  obtain ⟨ι', a', w', h1, h2, h3, h4, h5⟩ := ih (by omega)
  have ho := Array.getElem?_eq_getElem (xs := ops) (i := k) (by omega)
  obtain ⟨h6, h7⟩ := ht.step k _ ho
  have hlo : (Hf k).lo = H0.lo := h1.lo
  have h8 := h6.sim hS h2 (fun x hx => aev_VR h2 (hlo ▸ h3) (okOps_op hok ho (hlo ▸ hG) x hx)) (fun d _ => hlo ▸ h3 d) (fun a'' w'' => ∃ ι'', NN ι ι'' H0 (Hf (k + 1)) w ∧ R ι'' (Hf (k + 1)) w'' ∧ FR H0.lo ι'' (tf (k + 1)) a'' ∧ a''.tmps.size = N ∧ w.heap.size ≤ w''.heap.size) (fun _ _ _ => False) (fun u w'' ι'' ha hu => by
   refine ⟨ι'', h1.trans hr0 ha.1 h5, ha.2.1, ?_, by rw [← h4]; cases ops[k].dst <;> simp [Act.put], Nat.le_trans h5 ha.2.2.1⟩
   rw [h7]
   exact (h3.mono ha.1.ext).put (hlo ▸ hu) (fun d hd => h4 ▸ okOps_dst hok ho hd))
  split at h8
  ·rcases h8 with h8 | ⟨_, a9, w9, h9⟩
   ·obtain ⟨a'', w'', ι'', h10⟩ := wp_get h8
    exact ⟨ι'', a'', w'', h10.1, h10.2.1, h10.2.2.1, h10.2.2.2.1, h10.2.2.2.2⟩
   ·exact h9.elim
  ·obtain ⟨ι'', h10⟩ := h8
   exact ⟨ι'', _, _, h10.1, h10.2.1, h10.2.2.1, h10.2.2.2.1, h10.2.2.2.2⟩
theorem StepG.simQ {o : Oper} {t : T} {H H' G : AH} {k : Kind} {v : Value} {ι : Inj} {a : Act} {w : World} (h : StepG P C ops o t H k v H') (hk : k = .pure ∨ ∃ r, k = .read r) (hr : R ι G w) (hlo : G.lo = H.lo) (hrd : ∀ r, k = .read r → G.look r = H.look r)
  (hv : ∀ x ∈ o.op.operands, VR H.lo ι (aev t x) (a.eval x)) (hgd : ∀ d, (∃ j b, o.guard = some (j, b) ∧ (ops[j]?).bind (·.dst) = some d) → VR H.lo ι (t d) (a.tmps.getD d undef)) (K : Act → World → Prop) (Q : Exit → Act → World → Prop)
  (hK : ∀ u, VR H.lo ι v u → K (a.put o.dst u) w) : if Region.wanted o (yielded ops a.tmps) then o.wp P a w K Q ∨ (o.asks P a w ∧ LetsOut Q) else K (a.put o.dst undef) w := by
 have key : ∀ {k v H'}, Step P C o t H k v H' → (k = .pure ∨ ∃ r, k = .read r) → (∀ r, k = .read r → G.look r = H.look r) → (∀ u, VR H.lo ι v u → K (a.put o.dst u) w) → o.wp P a w K Q := by
  intro k v H' h hk hrd hK
  unfold Oper.wp
  cases h with
  | p v h => obtain ⟨v', h1, h2⟩ := h.sim hv w; rw [h2]; exact hK v' h1
  | b v h => obtain ⟨v', h1, h2⟩ := h.sim hv w; rw [h2]; exact hK v' h1
  | l r v h => obtain ⟨v', h1, h2⟩ := (h.congr (hrd (.blk r) rfl)).sim hr (hlo ▸ hv); rw [h2]; exact hK v' (hlo ▸ h1)
  | lc b off v h => obtain ⟨v', h1, h2⟩ := (h G hlo (hrd (.cell b off) rfl)).sim hr (hlo ▸ hv); rw [h2]; exact hK v' (hlo ▸ h1)
  | a v x h => rcases hk with h | ⟨r, h⟩ <;> cases h
  | m r H' h => rcases hk with h | ⟨r, h⟩ <;> cases h
  | app r H' h => rcases hk with h | ⟨r, h⟩ <;> cases h
  | call f xs ts g us vs v H' ho hf he hc => rcases hk with h | ⟨r, h⟩ <;> cases h
 cases h with
 | plain k v H' hg h =>
  rw [if_pos (by simp [Region.wanted, hg])]
  exact .inl (key h hk hrd hK)
 | yes j b d k v H' hg hd ht h =>
  have h1 := hgd d ⟨j, b, hg, hd⟩
  rw [ht] at h1
  rw [wanted_of (P := P) hg hd h1.bool_eq, if_pos (by simp)]
  exact .inl (key h hk hrd hK)
 | no j b c d hg hd ht hc =>
  have h1 := hgd d ⟨j, b, hg, hd⟩
  rw [ht] at h1
  rw [wanted_of (P := P) hg hd h1.bool_eq, if_neg (by simpa using hc)]
  exact hK undef (.tuple _ _ rfl (fun i h1 _ => by simp at h1))
 | nou j b d hg hd ht =>
  have h1 := hgd d ⟨j, b, hg, hd⟩
  rw [ht] at h1
  rw [wanted_undef hg hd h1.undef_eq, if_neg (by simp)]
  exact hK undef (.tuple _ _ rfl (fun i h1 _ => by simp at h1))
theorem StepG.simA {o : Oper} {t : T} {H H' : AH} {b : Nat} {v : Value} {ι : Inj} {a : Act} {w : World} (h : StepG P C ops o t H (.alloc b) v H') (hd : ∀ b l, ι b = some l → b < H.next) (hlow : ∀ b, b < H.lo → ∃ l, ι b = some l ∧ l.blk = b ∧ l.base = 0) (hdw : ∀ b l, ι b = some l → l.blk < w.heap.size)
  (hv : ∀ x ∈ o.op.operands, VR H.lo ι (aev t x) (a.eval x)) (hgd : ∀ d, (∃ j b, o.guard = some (j, b) ∧ (ops[j]?).bind (·.dst) = some d) → VR H.lo ι (t d) (a.tmps.getD d undef)) (K : Act → World → Prop) (Q : Exit → Act → World → Prop)
  (hK : ∀ l u w' y x, b = H.next → H' = H.new x → l.blk = w.heap.size → (w'.heap = w.heap.push y ∧ Env w w') → VR H.lo (ι.ext H.next l) v u → ObjRel H.lo (ι.ext H.next l) H.next l w' x → K (a.put o.dst u) w') :
  if Region.wanted o (yielded ops a.tmps) then o.wp P a w K Q ∨ (o.asks P a w ∧ LetsOut Q) else K (a.put o.dst undef) w := by
 let G : AH := ⟨fun _ => none, H.next, H.lo⟩
 have hr : R ι G w := ⟨(fun b l o hb hg => by cases hg), fun b b' l l' _ _ hg _ _ => absurd rfl hg, fun b l hb => ⟨hd b l hb, hdw b l hb⟩, fun b hb => by
  obtain ⟨l, h1, h2, h3⟩ := hlow b hb
  exact ⟨l, h1, h2, h3, fun e c hg => by cases hg⟩⟩
 have key : ∀ {k v H'}, Step P C o t H k v H' → k = .alloc b → (∀ l u w' y x, b = H.next → H' = H.new x → l.blk = w.heap.size → (w'.heap = w.heap.push y ∧ Env w w') → VR H.lo (ι.ext H.next l) v u → ObjRel H.lo (ι.ext H.next l) H.next l w' x → K (a.put o.dst u) w') → o.wp P a w K Q := by
  intro k v H' h hk hK
  unfold Oper.wp
  cases h with
  | a v x h =>
   obtain ⟨l, u, w', y, h1, h2, h3, h4, h5⟩ := AOp.sim (H := G) hr h hv
   rw [h5]
   cases hk
   exact hK l u w' y x rfl rfl h1 h2 h3 h4
  | _ => cases hk
 cases h with
 | plain k v H' hg h =>
  rw [if_pos (by simp [Region.wanted, hg])]
  exact .inl (key h rfl hK)
 | yes j b' d k v H' hg hd ht h =>
  have h1 := hgd d ⟨j, b', hg, hd⟩
  rw [ht] at h1
  rw [wanted_of (P := P) hg hd h1.bool_eq, if_pos (by simp)]
  exact .inl (key h rfl hK)
theorem R.insert {ι : Inj} {H : AH} {w w' : World} (hr : R ι H w) {b : Nat} {x : AObj} {y : Obj} {l : Loc} (hb : ι b = none) (hbn : b < H.next) (hg : H.get b = some x) (hl : l.blk = w.heap.size) (hw : w'.heap = w.heap.push y)
  (hx : ObjRel H.lo (ι.ext b l) b l w' x) : R (ι.ext b l) H w' := by
 have hle : ι.le (ι.ext b l) := fun b' l' h => by rw [Inj.ext_ne (fun e => by rw [e, hb] at h; cases h)]; exact h
 have hold : ∀ c, c < w.heap.size → w'.heap[c]? = w.heap[c]? := fun c hc => by rw [hw]; exact push_old (w := w) (x := y) hc
 refine ⟨fun b' l' o hb' hg' => ?_, fun b1 b2 l1 l2 h1 h2 hg1 hg2 he => ?_, fun b' l' hb' => ?_, fun b' hb' => ?_⟩
 ·by_cases hbb : b' = b
  ·subst hbb
   rw [Inj.ext_self] at hb'
   cases hb'
   rw [hg] at hg'
   cases hg'
   exact hx
  ·rw [Inj.ext_ne hbb] at hb'
   exact (hr.obj b' l' o hb' hg').keep hle (hold _ (hr.dom b' l' hb').2)
 ·by_cases hb1 : b1 = b <;> by_cases hb2 : b2 = b
  ·exact hb1.trans hb2.symm
  ·subst hb1
   rw [Inj.ext_self] at h1
   rw [Inj.ext_ne hb2] at h2
   cases h1
   have := (hr.dom b2 l2 h2).2
   omega
  ·subst hb2
   rw [Inj.ext_self] at h2
   rw [Inj.ext_ne hb1] at h1
   cases h2
   have := (hr.dom b1 l1 h1).2
   omega
  ·rw [Inj.ext_ne hb1] at h1
   rw [Inj.ext_ne hb2] at h2
   exact hr.inj b1 b2 l1 l2 h1 h2 hg1 hg2 he
 ·by_cases hbb : b' = b
  ·subst hbb
   rw [Inj.ext_self] at hb'
   cases hb'
   exact ⟨hbn, by rw [hw, hl]; simp⟩
  ·rw [Inj.ext_ne hbb] at hb'
   have := hr.dom b' l' hb'
   exact ⟨this.1, by rw [hw]; simp; omega⟩
 ·obtain ⟨l', h3, h4⟩ := hr.low b' hb'
  exact ⟨l', hle _ _ h3, h4⟩
structure RInv (P : Program) (ops : Array Oper) (N : Nat) (t0 : T) (H0 : AH) (Hf : Nat → AH) (kf : Nat → Kind) (vf : Nat → Value) (ι : Inj) (a : Act) (w : World) (S : Nat → Bool) (m : Nat) (ι1 : Inj) (a1 : Act) (w1 : World) : Prop where
 closed : ∀ i j, j < ops.size → S j = true → Dep ops i j → S i = true
 mle : m ≤ ops.size
 meff : ∀ e, e < ops.size → kf e = .eff → (S e = true ↔ e < m)
 ext : ι.le ι1
 new : ∀ b l, ι1 b = some l → ι b = some l ∨ (H0.next ≤ b ∧ b < (Hf ops.size).next ∧ (w.heap.size ≤ l.blk ∨ ∃ b0 l0, ι b0 = some l0 ∧ H0.lo ≤ b0 ∧ H0.get b0 ≠ none ∧ l0.blk = l.blk))
 born : ∀ b l, ι1 b = some l → b < (Hf 0).next ∨ ∃ i, i < ops.size ∧ S i = true ∧ (Hf i).next ≤ b ∧ b < (Hf (i + 1)).next
 r : R ι1 (Gh ops.size Hf H0.lo m) w1
 fr : Fr ι H0 w w1
 dead : ∀ b, b < H0.next → H0.get b = none → (Hf m).get b = none
 size : a1.tmps.size = N
 defers : a1.defers = a.defers
 cov : ∀ i, i < ops.size → S i = true → ∀ b, (Hf i).next ≤ b → b < (Hf (i + 1)).next → ∃ l, ι1 b = some l
 slots : ∀ s, VR H0.lo ι1 (svp ops vf t0 S s ops.size).1 (a1.tmps.getD s undef)
theorem RInv.step (hS : Snd P C) (hC : ∀ g args H v H', C g args H v H' → H.next ≤ H'.next ∧ H'.lo = H.lo) {G N : Nat} (hok : okOps G N ops = true) (hed : edgesOk ops = true) (hap : apartOk ops = true)
  (ht : Trace P C ops t0 H0 Hf tf kf vf) {ι : Inj} {a : Act} {w : World} (hr0 : R ι H0 w) (hf0 : FR H0.lo ι t0 a) (hN : a.tmps.size = N) (hG : G ≤ H0.lo) {S : Nat → Bool} {m : Nat} {ι1 : Inj} {a1 : Act} {w1 : World} (hI : RInv P ops N t0 H0 Hf kf vf ι a w S m ι1 a1 w1)
  {j : Nat} {o : Oper} (ho : ops[j]? = some o) (hjS : S j = false) (hready : ∀ i, Dep ops i j → S i = true) (Q : Exit → Act → World → Prop) (K : Act → World → Prop)
  (hK : ∀ m' ι2 a2 w2, RInv P ops N t0 H0 Hf kf vf ι a w (fun i => if i = j then true else S i) m' ι2 a2 w2 → K a2 w2) :
  if Region.wanted o (yielded ops a1.tmps) then o.wp P a1 w1 K Q ∨ (o.asks P a1 w1 ∧ LetsOut Q) else K (a1.put o.dst undef) w1 := by
 have hj : j < ops.size := (Array.getElem?_eq_some_iff.1 ho).1
 obtain ⟨hstep, htf⟩ := ht.step j o ho
 have hmj := ht.mono hC hj
 have hloj : (Hf j).lo = H0.lo := by rw [(ht.le hC (Nat.zero_le j) (by omega)).2, ht.h0]
 have hnxj : H0.next ≤ (Hf j).next := by rw [← ht.h0]; exact (ht.le hC (Nat.zero_le j) (by omega)).1
 have hdone : ∀ i, i < ops.size → S i = true → ¬ Dep ops j i := fun i hi hSi hd => by
  have := hI.closed j i hi hSi hd
  rw [hjS] at this
  cases this
 -- the slots that it looks at
 have hall : ∀ k, k ≤ ops.size → ∀ s, (svp ops vf t0 (fun _ => true) s k).1 = tf k s := by
  intro k
  induction k with
  | zero => intro _ s; exact (congrFun ht.t0 s).symm
  | succ k ih =>
   intro hk s
   obtain ⟨h1, h2⟩ := ht.step k ops[k] (Array.getElem?_eq_getElem (by omega))
   rw [h2]
   unfold svp
   rw [Array.getElem?_eq_getElem (by omega)]
   simp only [Option.bind_some, true_and]
   cases hd : ops[k].dst with
   | none => simp [put, ih (by omega) s]
   | some d =>
    by_cases hds : d = s
    ·subst hds; simp [put]
    ·simp [put, hds, Ne.symm hds, ih (by omega) s]
 have hlook : ∀ s, s ∈ looks ops o → VR H0.lo ι1 (tf j s) (a1.tmps.getD s undef) := fun s hs => by
  have h1 : svp ops vf t0 S s ops.size = svp ops vf t0 (fun _ => true) s j := by
   rw [svp_skip j ops.size (by omega) (fun i hji hi hd => ?_)]
   ·refine svp_congr j (fun i hij hd => ?_)
    obtain ⟨x, hx, hxd⟩ := Option.bind_eq_some_iff.1 hd
    cases hdep : depB ops i j with
    | true => exact hready i (depB_ok hdep)
    | false => exact absurd hs ((apartOk_at hap hij hx ho hdep).1 s hxd)
   ·obtain ⟨x, hx, hxd⟩ := Option.bind_eq_some_iff.1 hd
    by_cases hij : i = j
    ·rw [hij]; exact hjS
    ·cases hSi : S i with
     | false => rfl
     | true =>
      cases hdep : depB ops j i with
      | true => exact absurd (depB_ok hdep) (hdone i hi hSi)
      | false => exact absurd hs ((apartOk_at hap (show j < i by omega) ho hx hdep).2.2 s hxd)
  have h2 := hI.slots s
  rw [h1, hall j (by omega) s] at h2
  exact h2
 obtain ⟨ιk, ak, wk, hk1, hk2, hk3, hk4, hk5⟩ := ht.canon hS hok hr0 hf0 hG hN j (by omega)
 have hkd : ∀ b l, ιk b = some l → b < (Hf j).next := fun b l h => (hk2.dom b l h).1
 have hbdT : ∀ s, Bd (Hf j).next (tf j s) := fun s => (hk3 s).bd hkd
 have hbdH : ∀ b l q, ι1 b = some l → b < (Hf j).next → (Hf j).get b = some q → BdObj (Hf j).next q := fun b l q hb hbj hq => by
  have : ∃ l', ιk b = some l' := by
   rcases hI.new b l hb with h1 | ⟨h1, _⟩
   ·exact ⟨l, hk1.ext b l h1⟩
   ·exact hk1.cov b h1 hbj
  obtain ⟨l', hl'⟩ := this
  exact (hk2.obj b l' q hl' hq).bd hkd
 have hv : ∀ x ∈ o.op.operands, VR H0.lo ι1 (aev (tf j) x) (a1.eval x) ∧ Bd (Hf j).next (aev (tf j) x) := fun x hx => by
  have hokx := okOps_op hok ho hG x hx
  cases x with
  | tmp s => exact ⟨hlook s (List.mem_append_left _ (List.mem_filterMap.2 ⟨.tmp s, by simpa using hx, rfl⟩)), hbdT s⟩
  | const v => exact ⟨.of_flat (constB_ok hokx), (VR.of_flat (lo := H0.lo) (ι := fun _ => none) (constB_ok hokx)).bd (fun b l h => by cases h)⟩
  | global g =>
   obtain ⟨l, h1, h2, h3, _⟩ := hr0.low g hokx
   have := VR.ptr (lo := H0.lo) (ι := ι1) g 0 l (hI.ext g l h1)
   refine ⟨by simpa [aev, Act.eval, h2, h3] using this, .ptr g 0 ?_⟩
   have := (hr0.dom g l h1).1
   omega
  | func f => exact ⟨.func _ _ _ _ _ rfl (fun i h1 _ => by simp at h1) rfl (fun i h1 _ => by simp at h1), .func _ _ _ (fun i h1 => by simp at h1) (fun i h1 => by simp at h1)⟩
 have hgd : ∀ d, (∃ j' b, o.guard = some (j', b) ∧ (ops[j']?).bind (·.dst) = some d) → VR H0.lo ι1 (tf j d) (a1.tmps.getD d undef) := fun d ⟨j', b, h1, h2⟩ => by
  refine hlook d (List.mem_append_right _ ?_)
  rw [h1]
  simp [h2]
 have hno : ∀ b l, ι1 b = some l → b < (Hf j).next ∨ (Hf (j + 1)).next ≤ b := fun b l hb => by
  rcases hI.born b l hb with h1 | ⟨i, h1, h2, h3, h4⟩
  ·rw [ht.h0] at h1; exact .inl (by omega)
  ·rcases Nat.lt_trichotomy i j with h5 | h5 | h5
   ·exact .inl (by have := (ht.le hC (show i + 1 ≤ j by omega) (by omega)).1; omega)
   ·rw [h5, hjS] at h2; cases h2
   ·exact .inr (by have := (ht.le hC (show j + 1 ≤ i by omega) (by omega)).1; omega)
 have hbeta : ∀ b k, k ≤ ops.size → b < (Hf k).next → b < (Hf (beta (fun i => (Hf i).next) b ops.size)).next ∧ beta (fun i => (Hf i).next) b ops.size ≤ k := fun b k hk hb => by
  obtain ⟨h1, h2, h3⟩ := beta_spec (nx := fun i => (Hf i).next) (b := b) ops.size (fun i hi => (ht.mono hC hi).1) (by have := (ht.le hC hk (Nat.le_refl _)).1; show b < (Hf ops.size).next; omega)
  exact ⟨h1, h3 k hk hb⟩
 -- what holds behind the step
 have fin : ∀ (m' : Nat) (ι2 : Inj) (w' : World) (u : Value), ι1.le ι2 → m' ≤ ops.size → (∀ e, e < ops.size → kf e = .eff → ((if e = j then true else S e) = true ↔ e < m')) →
   (∀ b l, ι2 b = some l → ι1 b = some l ∨ ((Hf j).next ≤ b ∧ b < (Hf (j + 1)).next ∧ (w1.heap.size ≤ l.blk ∨ ∃ b0 l0, ι1 b0 = some l0 ∧ H0.lo ≤ b0 ∧ (Gh ops.size Hf H0.lo m).get b0 ≠ none ∧ l0.blk = l.blk))) →
   R ι2 (Gh ops.size Hf H0.lo m') w' → (w1.heap.size ≤ w'.heap.size ∧ ∀ c, c < w.heap.size → (∀ b l, ι1 b = some l → l.blk = c → H0.lo ≤ b → (Gh ops.size Hf H0.lo m).get b = none) → w'.heap[c]? = w1.heap[c]?) → Env w1 w' →
   (∀ b, b < H0.next → H0.get b = none → (Hf m').get b = none) → (∀ b, (Hf j).next ≤ b → b < (Hf (j + 1)).next → ∃ l, ι2 b = some l) → VR H0.lo ι2 (vf j) u → K (a1.put o.dst u) w' := by
  intro m' ι2 w' u hle hm' hme hnew hr2 hfr henv hdd hcv hu
  have hb0dead : ∀ b l, ι b = some l → H0.get b = none → (Gh ops.size Hf H0.lo m).get b = none := fun b l hb e => by
   have hb0 := (hr0.dom b l hb).1
   have h11 := hbeta b 0 (Nat.zero_le _) (by rw [ht.h0]; exact hb0)
   show (Hf (max m (beta (fun i => (Hf i).next) b ops.size))).get b = none
   rw [Nat.max_eq_left (by omega)]
   exact hI.dead b hb0 e
  refine hK m' ι2 _ w' ⟨fun i k hk hSk hd => ?_, hm', hme, Inj.le_trans hI.ext hle, fun b l hb => ?_, fun b l hb => ?_, hr2, ?_, hdd, ?_, ?_, fun i hi hSi b hb1 hb2 => ?_, fun s => ?_⟩
  ·by_cases hij : i = j
   ·simp [hij]
   ·simp only [hij, if_false]
    by_cases hkj : k = j
    ·subst hkj; exact hready i hd
    ·simp only [hkj, if_false] at hSk
     exact hI.closed i k hk hSk hd
  ·rcases hnew b l hb with h1 | ⟨h1, h2, h3⟩
   ·exact hI.new b l h1
   ·refine .inr ⟨by omega, by have := (ht.le hC (show j + 1 ≤ ops.size by omega) (Nat.le_refl _)).1; omega, ?_⟩
    rcases h3 with h3 | ⟨b0, l0, h4, h5, h6, h7⟩
    ·exact .inl (Nat.le_trans hI.fr.1 h3)
    ·rcases hI.new b0 l0 h4 with h8 | ⟨h8, h9, h10⟩
     ·exact .inr ⟨b0, l0, h8, h5, fun e => h6 (hb0dead b0 l0 h8 e), h7⟩
     ·rcases h10 with h10 | h10
      ·exact .inl (h7 ▸ h10)
      ·exact .inr (h7 ▸ h10)
  ·rcases hnew b l hb with h1 | ⟨h1, h2, h3⟩
   ·rcases hI.born b l h1 with h4 | ⟨i, h4, h5, h6⟩
    ·exact .inl h4
    ·exact .inr ⟨i, h4, by by_cases hij : i = j <;> simp [hij, h5], h6⟩
   ·exact .inr ⟨j, hj, by simp, h1, h2⟩
  ·refine ⟨Nat.le_trans hI.fr.1 hfr.1, fun c hc hd => ?_, hI.fr.2.2.trans henv⟩
   rw [← hI.fr.2.1 c hc hd]
   refine hfr.2 c hc (fun b l hb hl hlo => ?_)
   rcases hI.new b l hb with h3 | ⟨h3, h4, h5⟩
   ·exact hb0dead b l h3 (hd b l h3 hl hlo)
   ·rcases h5 with h5 | ⟨b0, l0, h6, h7, h8, h9⟩
    ·omega
    ·exact absurd (hd b0 l0 h6 (h9.trans hl) h7) h8
  ·rw [← hI.size]; cases o.dst <;> simp [Act.put]
  ·rw [← hI.defers]; cases o.dst <;> rfl
  ·by_cases hij : i = j
   ·subst hij; exact hcv b hb1 hb2
   ·simp only [hij, if_false] at hSi
    obtain ⟨l, hl⟩ := hI.cov i hi hSi b hb1 hb2
    exact ⟨l, hle b l hl⟩
  ·by_cases hds : o.dst = some s
   ·-- its own slot
    have h1 : svp ops vf t0 (fun i => if i = j then true else S i) s ops.size = (vf j, j + 1) := by
     rw [svp_skip (j + 1) ops.size (by omega) (fun i hji hi hd => ?_)]
     ·unfold svp
      rw [if_pos ⟨by simp, by rw [ho]; exact hds⟩]
     ·obtain ⟨x, hx, hxd⟩ := Option.bind_eq_some_iff.1 hd
      simp only [show i ≠ j by omega, if_false]
      cases hSi : S i with
      | false => rfl
      | true =>
       cases hdep : depB ops j i with
       | true => exact absurd (depB_ok hdep) (hdone i hi hSi)
       | false => exact absurd hxd ((apartOk_at hap (show j < i by omega) ho hx hdep).2.1 s hds)
    rw [h1]
    have h2 := okOps_dst hok ho hds
    have h3 : (a1.put o.dst u).tmps.getD s undef = u := by
     rw [hds]
     simp [Act.put, hI.size, h2]
    rw [h3]
    exact hu
   ·have h1 : svp ops vf t0 (fun i => if i = j then true else S i) s ops.size = svp ops vf t0 S s ops.size := by
     refine svp_congr _ (fun i hi hd => ?_)
     have : i ≠ j := fun e => by rw [e, ho] at hd; exact hds (by simpa using hd)
     simp [this]
    rw [h1]
    have h3 : (a1.put o.dst u).tmps.getD s undef = a1.tmps.getD s undef := by
     cases hd : o.dst with
     | none => rfl
     | some d =>
      have hne : d ≠ s := fun e => hds (by rw [hd, e])
      simp only [Act.put, Array.getD_eq_getD_getElem?]
      rw [Array.getElem?_setIfInBounds_ne hne]
    rw [h3]
    exact (hI.slots s).mono hle
 -- an operation that changes no block: the same relation
 have hquiet : kf j ≠ .eff → (∀ b, kf j ≠ .alloc b) → ∀ u, VR H0.lo ι1 (vf j) u → K (a1.put o.dst u) w1 := fun hne hna u hu => by
  refine fin m ι1 w1 u (Inj.le_refl _) hI.mle (fun e he hke => ?_) (fun b l hb => .inl hb) hI.r ⟨Nat.le_refl _, fun _ _ _ => rfl⟩ (Env.refl _) hI.dead (fun b h1 h2 => ?_) hu
  rotate_left
  ·rcases hmj.2.2 with h | ⟨_, h | ⟨h, _⟩⟩
   ·exact absurd h hne
   ·omega
   ·exact absurd h (hna _)
  have : e ≠ j := fun e' => hne (e' ▸ hke)
  simp only [this, if_false]
  exact hI.meff e he hke
 have hloj' : ∀ x ∈ o.op.operands, VR (Hf j).lo ι1 (aev (tf j) x) (a1.eval x) := fun x hx => hloj ▸ (hv x hx).1
 have hgd' : ∀ d, (∃ j' b, o.guard = some (j', b) ∧ (ops[j']?).bind (·.dst) = some d) → VR (Hf j).lo ι1 (tf j d) (a1.tmps.getD d undef) := fun d h => hloj ▸ hgd d h
 have hSe : ∀ e, e < ops.size → kf e = .eff → m ≤ e → S e = false := fun e he hke hme => by
  cases hs : S e with
  | false => rfl
  | true => have := (hI.meff e he hke).1 hs; omega
 have hSe' : ∀ e, e < ops.size → kf e = .eff → e < m → S e = true := fun e he hke hme => (hI.meff e he hke).2 hme
 have hnj : ∀ e, S e = true → e < ops.size → depB ops j e = false := fun e hs he => by
  cases hd : depB ops j e with
  | false => rfl
  | true => exact absurd (depB_ok hd) (hdone e he hs)
 have hne' : ∀ e, S e = false → depB ops e j = false := fun e hs => by
  cases hd : depB ops e j with
  | false => rfl
  | true => rw [hready e (depB_ok hd)] at hs; cases hs
 cases hkj : kf j with
 | pure =>
  rw [hkj] at hstep
  exact hstep.simQ (.inl rfl) hI.r hloj.symm (fun r h => by cases h) hloj' hgd' K Q (fun u hu => hquiet (by rw [hkj]; simp) (fun b => by rw [hkj]; simp) u (hloj ▸ hu))
 | read r =>
  rw [hkj] at hstep
  refine hstep.simQ (.inr ⟨r, rfl⟩) hI.r hloj.symm (fun r' h => ?_) hloj' hgd' K Q (fun u hu => hquiet (by rw [hkj]; simp) (fun b => by rw [hkj]; simp) u (hloj ▸ hu))
  cases h
  have hrj := ht.rd j r hj hkj
  obtain ⟨hb1, hb2⟩ := hbeta r.b j (by omega) hrj
  refine (look_get (G := Gh ops.size Hf H0.lo m) (H := Hf (max m (beta (fun i => (Hf i).next) r.b ops.size))) (r := r) rfl).trans ?_
  by_cases hle : max m (beta (fun i => (Hf i).next) r.b ops.size) ≤ j
  ·refine (ht.stableL hC hle (by omega) ?_ (fun e h1 h2 h3 => ?_)).symm
   ·have := (ht.le hC (show beta (fun i => (Hf i).next) r.b ops.size ≤ max m (beta (fun i => (Hf i).next) r.b ops.size) by omega) (by omega)).1
    omega
   ·have hs := hSe e (by omega) h3 (by omega)
    refine ht.d1 j r e hj (by omega) hkj h3 (hne' e hs) ?_ ?_
    ·cases hd : depB ops j e with
     | false => rfl
     | true => have := edgesOk_lt hed (depB_ok hd); omega
    ·have := (ht.le hC (show beta (fun i => (Hf i).next) r.b ops.size ≤ e by omega) (by omega)).1
     omega
  ·have hm : max m (beta (fun i => (Hf i).next) r.b ops.size) = m := by omega
   rw [hm]
   refine ht.stableL hC (by omega) hI.mle hrj (fun e h1 h2 h3 => ?_)
   have he : e < ops.size := by have := hI.mle; omega
   have hs := hSe' e he h3 h2
   refine ht.d1 j r e hj he hkj h3 ?_ (hnj e hs he) ?_
   ·cases hd : depB ops e j with
    | false => rfl
    | true => have := edgesOk_lt hed (depB_ok hd); omega
   ·have := (ht.le hC (show j ≤ e by omega) (by omega)).1
    omega
 | alloc b =>
  rw [hkj] at hstep
  refine hstep.simA (ι := cut ι1 (Hf j).next) (fun b l h => (cut_some h).2) (fun b hb => ?_) (fun b l h => (hI.r.dom b l (cut_some h).1).2) (fun x hx => hloj ▸ (hv x hx).1.cut (hv x hx).2) (fun d hd => hloj ▸ (hgd d hd).cut (hbdT d)) K Q (fun l u w' y x hbj hH' hl ⟨hw, henv⟩ hu hx => ?_)
  ·obtain ⟨l, h4, h5, h5', _⟩ := hr0.low b (hloj ▸ hb)
   have h5 := And.intro h5 h5'
   exact ⟨l, by rw [cut_lt (by have := (hr0.dom b l h4).1; omega)]; exact hI.ext b l h4, h5⟩
  ·have hnx1 : (Hf (j + 1)).next = (Hf j).next + 1 := by rw [hH']; rfl
   have hnone : ι1 (Hf j).next = none := by
    cases hc : ι1 (Hf j).next with
    | none => rfl
    | some l' => rcases hno _ l' hc with h | h <;> omega
   have hle : ι1.le (ι1.ext (Hf j).next l) := fun b' l' h => by rw [Inj.ext_ne (fun e => by rw [e, hnone] at h; cases h)]; exact h
   have hle2 : ((cut ι1 (Hf j).next).ext (Hf j).next l).le (ι1.ext (Hf j).next l) := fun b' l' h => by
    by_cases hbb : b' = (Hf j).next
    ·subst hbb; rw [Inj.ext_self] at h ⊢; exact h
    ·rw [Inj.ext_ne hbb] at h ⊢; exact (cut_some h).1
   obtain ⟨hb1, hb2⟩ := hbeta (Hf j).next (j + 1) (by omega) (by omega)
   have hb3 : j < beta (fun i => (Hf i).next) (Hf j).next ops.size := by
    rcases Nat.lt_or_ge j (beta (fun i => (Hf i).next) (Hf j).next ops.size) with h | h
    ·exact h
    ·have := (ht.le hC h (by omega)).1; omega
   have hget : (Gh ops.size Hf H0.lo m).get (Hf j).next = some x := by
    show (Hf (max m (beta (fun i => (Hf i).next) (Hf j).next ops.size))).get (Hf j).next = some x
    rw [show beta (fun i => (Hf i).next) (Hf j).next ops.size = j + 1 by omega]
    have h7 : (Hf (j + 1)).get (Hf j).next = some x := by rw [hH']; simp [AH.new]
    rw [← h7]
    refine ht.stable hC (by omega) (by have := hI.mle; omega) (by omega) (fun e h1 h2 h3 => ?_)
    have he : e < ops.size := by have := hI.mle; omega
    exact ht.d2 j _ e (by omega) he (hbj ▸ hkj) h3 (hnj e (hSe' e he h3 (by omega)) he)
   have hlt : (Hf j).next < (Gh ops.size Hf H0.lo m).next := by
    have := (ht.le hC (show j + 1 ≤ ops.size by omega) (Nat.le_refl _)).1
    show (Hf j).next < (Hf ops.size).next
    omega
   have hins := hI.r.insert hnone hlt hget hl hw (by rw [hloj] at hx; exact hx.keep hle2 rfl)
   refine fin m _ w' u hle hI.mle (fun e he hke => ?_) (fun b' l' hb' => ?_) hins ⟨by rw [hw]; simp, fun c hc _ => ?_⟩ henv hI.dead (fun b' h1 h2 => ⟨l, by rw [show b' = (Hf j).next by omega]; exact Inj.ext_self⟩) (by rw [hloj] at hu; exact hu.mono hle2)
   ·have : e ≠ j := fun e' => by rw [e', hkj] at hke; cases hke
    simp only [this, if_false]
    exact hI.meff e he hke
   ·by_cases hbb : b' = (Hf j).next
    ·subst hbb
     rw [Inj.ext_self] at hb'
     cases hb'
     exact .inr ⟨Nat.le_refl _, by omega, .inl (by omega)⟩
    ·rw [Inj.ext_ne hbb] at hb'
     exact .inl hb'
   ·rw [hw]; exact push_old (w := w1) (x := y) (by have := hI.fr.1; omega)
 | eff =>
  rw [hkj] at hstep
  have hmle : m ≤ j := by
   rcases Nat.lt_or_ge j m with h | h
   ·have := hSe' j hj hkj h; rw [hjS] at this; cases this
   ·exact h
  have hnoeff : ∀ e, m ≤ e → e < j → kf e ≠ .eff := fun e h1 h2 h3 => by
   have h4 := hready e (depB_ok (ht.s2 e j h2 hj h3 hkj))
   rw [hSe e (by omega) h3 h1] at h4
   cases h4
  have hag : ∀ b, b < (Hf j).next → (Hf j).get b = (Gh ops.size Hf H0.lo m).get b := fun b hb => by
   obtain ⟨hb1, hb2⟩ := hbeta b j (by omega) hb
   refine ht.stable hC (show max m (beta (fun i => (Hf i).next) b ops.size) ≤ j by omega) (by omega) ?_ (fun e h1 h2 h3 => absurd h3 (hnoeff e (by omega) h2))
   have := (ht.le hC (show beta (fun i => (Hf i).next) b ops.size ≤ max m (beta (fun i => (Hf i).next) b ops.size) by omega) (by omega)).1
   omega
  have hrc : R (cut ι1 (Hf j).next) (Hf j) w1 := by
   refine ⟨fun b l q hb hg => ?_, fun b b' l l' hb hb' hg hg' he => ?_, fun b l hb => ?_, fun b hb => ?_⟩
   ·obtain ⟨h4, h5⟩ := cut_some hb
    have hg' := hg
    rw [hag b h5] at hg'
    rw [hloj]
    exact (hI.r.obj b l q h4 hg').cut (hbdH b l q h4 h5 hg)
   ·rw [hag b (cut_some hb).2] at hg
    rw [hag b' (cut_some hb').2] at hg'
    exact hI.r.inj b b' l l' (cut_some hb).1 (cut_some hb').1 hg hg' he
   ·exact ⟨(cut_some hb).2, (hI.r.dom b l (cut_some hb).1).2⟩
   ·obtain ⟨l, h4, h5, h5', h6⟩ := hI.r.low b (by rw [hloj] at hb; exact hb)
    have h7 : b < (Hf j).next := by
     obtain ⟨l', h8, _⟩ := hr0.low b (hloj ▸ hb)
     have := (hr0.dom b l' h8).1
     omega
    exact ⟨l, by rw [cut_lt h7]; exact h4, h5, h5', fun e c hg => h6 e c (by rw [← hag b h7]; exact hg)⟩
  refine hstep.sim hS hrc (fun x hx => hloj ▸ (hv x hx).1.cut (hv x hx).2) (fun d hd => hloj ▸ (hgd d hd).cut (hbdT d)) K Q (fun u w' ι' ha hu => ?_)
  have hd' : ∀ b l, ι' b = some l → b < (Hf (j + 1)).next := fun b l h => (ha.2.1.dom b l h).1
  have hlt1 : ∀ b, b < (Hf (j + 1)).next → (Gh ops.size Hf H0.lo (j + 1)).get b = (Hf (j + 1)).get b := fun b hb => by
   obtain ⟨hb1, hb2⟩ := hbeta b (j + 1) (by omega) hb
   show (Hf (max (j + 1) (beta (fun i => (Hf i).next) b ops.size))).get b = _
   rw [Nat.max_eq_left hb2]
  have hge1 : ∀ b l, ι1 b = some l → (Hf (j + 1)).next ≤ b → (Gh ops.size Hf H0.lo (j + 1)).get b = (Gh ops.size Hf H0.lo m).get b := fun b l hb hbk => by
   have hbn := (hI.r.dom b l hb).1
   obtain ⟨hb1, hb2⟩ := hbeta b ops.size (Nat.le_refl _) hbn
   have hb3 : j + 1 < beta (fun i => (Hf i).next) b ops.size := by
    rcases Nat.lt_or_ge (j + 1) (beta (fun i => (Hf i).next) b ops.size) with h | h
    ·exact h
    ·have := (ht.le hC h (by omega)).1; omega
   show (Hf (max (j + 1) (beta (fun i => (Hf i).next) b ops.size))).get b = (Hf (max m (beta (fun i => (Hf i).next) b ops.size))).get b
   rw [Nat.max_eq_right (by omega), Nat.max_eq_right (by omega)]
  obtain ⟨hr2, hle2⟩ := hI.r.merge (G2 := Gh ops.size Hf H0.lo (j + 1)) (k := (Hf j).next) (k' := (Hf (j + 1)).next) rfl hloj rfl hmj.1 (fun b l h => hag b (cut_some h).2) ha hno rfl
   (ht.le hC (show j + 1 ≤ ops.size by omega) (Nat.le_refl _)).1 (Nat.le_refl _) (fun b l hb => hlt1 b (hd' b l hb)) hge1
  refine fin (j + 1) _ w' u hle2 (by omega) (fun e he hke => ?_) (fun b l hb => ?_) hr2 ⟨ha.2.2.1, fun c hc hd => ?_⟩ ha.2.2.2.2 (fun b hb hdn => ?_) (fun b h1 h2 => ?_) ?_
  ·by_cases hej : e = j
   ·subst hej; simp
   ·simp only [hej, if_false]
    rw [hI.meff e he hke]
    constructor
    ·intro h; omega
    ·intro h
     rcases Nat.lt_or_ge e m with h' | h'
     ·exact h'
     ·exact absurd hke (hnoeff e h' (by omega))
  ·by_cases hbk : b < (Hf (j + 1)).next
   ·simp only [hbk, if_true] at hb
    rcases ha.1.new b l hb with h1 | ⟨h1, h2, h3⟩
    ·exact .inl (cut_some h1).1
    ·refine .inr ⟨h1, h2, h3.imp id ?_⟩
     rintro ⟨b0, l0, h4, h5, h6, h7⟩
     exact ⟨b0, l0, (cut_some h4).1, hloj ▸ h5, by rw [← hag b0 (cut_some h4).2]; exact h6, h7⟩
   ·simp only [hbk, if_false] at hb
    exact .inl hb
  ·refine ha.2.2.2.1 c (by have := hI.fr.1; omega) (fun b l hb hl hlo => ?_)
   rw [hag b (cut_some hb).2]
   exact hd b l (cut_some hb).1 hl (hloj ▸ hlo)
  ·refine ha.1.dead b (by omega) ?_
   rw [hag b (by omega)]
   have h11 := hbeta b 0 (Nat.zero_le _) (by rw [ht.h0]; exact hb)
   show (Hf (max m (beta (fun i => (Hf i).next) b ops.size))).get b = none
   rw [Nat.max_eq_left (by omega)]
   exact hI.dead b hb hdn
  ·obtain ⟨l, hl⟩ := ha.1.cov b h1 h2
   exact ⟨l, by simp only [h2, if_true]; exact hl⟩
  ·rw [hloj] at hu
   refine hu.mono (fun b l hb => ?_)
   simp only [hd' b l hb, if_true]
   exact hb
end
end Go.Vm
namespace Go.Vm
open Go
theorem least {p : Nat → Prop} : ∀ n, p n → ∃ i, p i ∧ i ≤ n ∧ ∀ j, j < i → ¬ p j := by
 intro n
 induction n using Nat.strongRecOn with
 | _ n ih =>
  intro h
  by_cases hx : ∃ m, m < n ∧ p m
  ·obtain ⟨m, h1, h2⟩ := hx
   obtain ⟨i, h3, h4, h5⟩ := ih m h1 h2
   exact ⟨i, h3, by omega, h5⟩
  ·exact ⟨n, h, Nat.le_refl _, fun j hj hp => hx ⟨j, hj, hp⟩⟩
def cnt (S : Nat → Bool) : Nat → Nat
 | 0 => 0
 | k + 1 => cnt S k + if S k = true then 0 else 1
theorem cnt_step {S : Nat → Bool} {j : Nat} (hj : S j = false) : ∀ n, (j < n → cnt S n = cnt (fun i => if i = j then true else S i) n + 1) ∧ (n ≤ j → cnt S n = cnt (fun i => if i = j then true else S i) n)
 | 0 => ⟨fun h => by omega, fun _ => rfl⟩
 | n + 1 => by
  obtain ⟨h1, h2⟩ := cnt_step hj n
  refine ⟨fun h => ?_, fun h => ?_⟩
  ·by_cases hn : n = j
   ·subst hn
    simp [cnt, hj, h2 (Nat.le_refl _)]
   ·simp only [cnt, hn, if_false]
    rw [h1 (by omega)]
    omega
  ·simp only [cnt, show n ≠ j by omega, if_false]
   rw [h2 (by omega)]
theorem cnt_zero {S : Nat → Bool} : ∀ n, cnt S n = 0 → ∀ i, i < n → S i = true
 | 0, _, i, h => by omega
 | n + 1, h, i, hi => by
  simp only [cnt] at h
  by_cases hin : i = n
  ·subst hin
   by_cases hs : S i = true
   ·exact hs
   ·simp [hs] at h
  ·exact cnt_zero n (by omega) i (by omega)
theorem cnt_all {S : Nat → Bool} : ∀ n, (∀ i, i < n → S i = false) → cnt S n = n
 | 0, _ => rfl
 | n + 1, h => by simp [cnt, h n (by omega), cnt_all n (fun i hi => h i (by omega))]
theorem cnt_pos {S : Nat → Bool} : ∀ n, cnt S n ≠ 0 → ∃ i, i < n ∧ S i = false
 | 0, h => absurd rfl h
 | n + 1, h => by
  by_cases hs : S n = true
  ·simp only [cnt, hs, if_true, Nat.add_zero] at h
   obtain ⟨i, h1, h2⟩ := cnt_pos n h
   exact ⟨i, by omega, h2⟩
  ·exact ⟨n, by omega, by simpa using hs⟩
section
variable {P : Program} {C : CallRel} {ops : Array Oper} {t0 : T} {H0 : AH} {Hf : Nat → AH} {tf : Nat → T} {kf : Nat → Kind} {vf : Nat → Value}
theorem draw_sim (hS : Snd P C) (hC : ∀ g args H v H', C g args H v H' → H.next ≤ H'.next ∧ H'.lo = H.lo) {G N : Nat} (hok : okOps G N ops = true) (hed : edgesOk ops = true) (hap : apartOk ops = true)
  (ht : Trace P C ops t0 H0 Hf tf kf vf) {ι : Inj} {a : Act} {w : World} (hr0 : R ι H0 w) (hf0 : FR H0.lo ι t0 a) (hN : a.tmps.size = N) (hG : G ≤ H0.lo) (Q : Exit → Act → World → Prop)
  (hQ : ∀ a' w' ι', After ι H0 (Hf ops.size) w w' ι' → FR H0.lo ι' (tf ops.size) a' → a'.tmps.size = N → a'.defers = a.defers → Q .normal a' w') :
  ∀ (fuel : Nat) (listed : Array Bool) (S : Nat → Bool) (m : Nat) (ι1 : Inj) (a1 : Act) (w1 : World), listed.size = ops.size → (∀ i, i < ops.size → listed[i]? = some (S i)) → cnt S ops.size = fuel →
   RInv P ops N t0 H0 Hf kf vf ι a w S m ι1 a1 w1 → wpAny P .any ops Q fuel listed a1 w1 := by
 have hready : ∀ {listed : Array Bool} {S : Nat → Bool} {m ι1 a1 w1}, (∀ i, i < ops.size → listed[i]? = some (S i)) → listed.size = ops.size → RInv P ops N t0 H0 Hf kf vf ι a w S m ι1 a1 w1 → ∀ i, i ∈ Region.ready .any ops listed → i < ops.size ∧ S i = false ∧ ∀ k, Dep ops k i → S k = true := by
  intro listed S m ι1 a1 w1 hl hsz hI i hi
  unfold Region.ready at hi
  rw [List.mem_filter, List.mem_range] at hi
  obtain ⟨h1, h2⟩ := hi
  rw [Bool.and_eq_true] at h2
  obtain ⟨h2, h3⟩ := h2
  rw [Array.getD_eq_getD_getElem?, hl i h1] at h2
  rw [Array.getElem?_eq_getElem h1] at h3
  simp only [Option.map_some, Option.getD_some] at h2 h3
  have hedge : ∀ e ∈ ops[i].after, bindsE e = true → S e.on = true := fun e he hb => by
   have h4 := (Array.all_eq_true_iff_forall_mem.1 h3) e he
   unfold bindsE at hb
   rw [hb] at h4
   simp only [Bool.not_true, Bool.false_or] at h4
   rw [Array.getD_eq_getD_getElem?] at h4
   by_cases hon : e.on < ops.size
   ·rw [hl _ hon] at h4; simpa using h4
   ·rw [Array.getElem?_eq_none (by omega)] at h4; cases h4
  refine ⟨h1, by simpa using h2, ?_⟩
  have key : ∀ k j, Dep ops k j → j = i → S k = true := by
   intro k j hd
   induction hd with
   | edge k j o e ho he hb hon =>
    intro hji
    subst hji
    have : ops[j] = o := by rw [Array.getElem?_eq_getElem h1] at ho; exact Option.some.inj ho
    exact hon ▸ hedge e (this ▸ he) hb
   | trans k q j h h' ih ih' =>
    intro hji
    have := edgesOk_lt hed h'
    exact hI.closed k q (by omega) (ih' hji) h
  exact fun k hd => key k i hd rfl
 intro fuel
 induction fuel with
 | zero =>
  intro listed S m ι1 a1 w1 hsz hl hc hI
  have hall := cnt_zero _ hc
  refine ⟨?_, ?_⟩
  ·refine List.eq_nil_iff_forall_not_mem.2 (fun i hi => ?_)
   obtain ⟨h1, h2, _⟩ := hready hl hsz hI i hi
   rw [hall i h1] at h2
   cases h2
  ·have hbeta : ∀ b, b < (Hf ops.size).next → b < (Hf (beta (fun i => (Hf i).next) b ops.size)).next ∧ beta (fun i => (Hf i).next) b ops.size ≤ ops.size ∧ ∀ k, k ≤ ops.size → b < (Hf k).next → beta (fun i => (Hf i).next) b ops.size ≤ k := fun b hb =>
    beta_spec (nx := fun i => (Hf i).next) (b := b) ops.size (fun i hi => (ht.mono hC hi).1) hb
   have hnoeff : ∀ e, m ≤ e → e < ops.size → kf e ≠ .eff := fun e h1 h2 h3 => by
    have := (hI.meff e h2 h3).1 (hall e h2)
    omega
   have hget : ∀ b, b < (Hf ops.size).next → (Hf ops.size).get b = (Gh ops.size Hf H0.lo m).get b := fun b hb => by
    obtain ⟨h1, h2, _⟩ := hbeta b hb
    have hm := hI.mle
    refine ht.stable hC (show max m (beta (fun i => (Hf i).next) b ops.size) ≤ ops.size by omega) (Nat.le_refl _) ?_ (fun e h3 h4 h5 => absurd h5 (hnoeff e (by omega) h4))
    have := (ht.le hC (show beta (fun i => (Hf i).next) b ops.size ≤ max m (beta (fun i => (Hf i).next) b ops.size) by omega) (by omega)).1
    omega
   have hlo : (Hf ops.size).lo = H0.lo := by rw [(ht.le hC (Nat.zero_le _) (Nat.le_refl _)).2, ht.h0]
   have hnx : H0.next ≤ (Hf ops.size).next := by rw [← ht.h0]; exact (ht.le hC (Nat.zero_le _) (Nat.le_refl _)).1
   refine hQ a1 w1 ι1 ⟨⟨hI.ext, hI.new, hnx, hlo, fun b hb hd => ?_, fun b h1 h2 => ?_⟩, ⟨fun b l o hb hg => ?_, fun b b' l l' hb hb' hg hg' he => ?_, fun b l hb => hI.r.dom b l hb, fun b hb => by
    obtain ⟨l, h1, h2, h3, h4⟩ := hI.r.low b (hlo ▸ hb)
    exact ⟨l, h1, h2, h3, fun e c hg => h4 e c (by rw [← hget b (hI.r.dom b l h1).1]; exact hg)⟩⟩, hI.fr⟩ (fun s => ?_) hI.size hI.defers
   ·have h1 := hI.dead b hb hd
    have hm := hI.mle
    rw [← h1]
    refine ht.stable hC hm (Nat.le_refl _) ?_ (fun e h3 h4 h5 => absurd h5 (hnoeff e h3 h4))
    have := (ht.le hC (Nat.zero_le m) hm).1
    rw [ht.h0] at this
    omega
   ·obtain ⟨h3, h4, h5⟩ := hbeta b h2
    have h6 : beta (fun i => (Hf i).next) b ops.size ≠ 0 := fun e => by rw [e, ht.h0] at h3; omega
    refine hI.cov (beta (fun i => (Hf i).next) b ops.size - 1) (by omega) (hall _ (by omega)) b ?_ (by rw [show beta (fun i => (Hf i).next) b ops.size - 1 + 1 = beta (fun i => (Hf i).next) b ops.size by omega]; exact h3)
    rcases Nat.lt_or_ge b (Hf (beta (fun i => (Hf i).next) b ops.size - 1)).next with h7 | h7
    ·have := h5 _ (by omega) h7; omega
    ·exact h7
   ·rw [hget b (hI.r.dom b l hb).1] at hg
    rw [hlo]
    exact hI.r.obj b l o hb hg
   ·rw [hget b (hI.r.dom b l hb).1] at hg
    rw [hget b' (hI.r.dom b' l' hb').1] at hg'
    exact hI.r.inj b b' l l' hb hb' hg hg' he
   ·have h1 := hI.slots s
    have h2 : svp ops vf t0 S s ops.size = svp ops vf t0 (fun _ => true) s ops.size := svp_congr _ (fun i hi _ => hall i hi)
    have h3 : ∀ k, k ≤ ops.size → (svp ops vf t0 (fun _ => true) s k).1 = tf k s := by
     intro k
     induction k with
     | zero => intro _; exact (congrFun ht.t0 s).symm
     | succ k ih =>
      intro hk
      obtain ⟨h4, h5⟩ := ht.step k ops[k] (Array.getElem?_eq_getElem (by omega))
      rw [h5]
      unfold svp
      rw [Array.getElem?_eq_getElem (by omega)]
      simp only [Option.bind_some, true_and]
      cases hd : ops[k].dst with
      | none => simp [put, ih (by omega)]
      | some d =>
       by_cases hds : d = s
       ·subst hds; simp [put]
       ·simp [put, hds, Ne.symm hds, ih (by omega)]
    rw [h2, h3 _ (Nat.le_refl _)] at h1
    exact h1
 | succ fuel ih =>
  intro listed S m ι1 a1 w1 hsz hl hc hI
  refine ⟨fun hnil => ?_, fun j hj => ?_⟩
  ·exfalso
   obtain ⟨i0, h1, h2⟩ := cnt_pos (S := S) ops.size (by omega)
   obtain ⟨i, ⟨h3, h4⟩, h5, h6⟩ := least (p := fun i => i < ops.size ∧ S i = false) i0 ⟨h1, h2⟩
   have : i ∈ Region.ready .any ops listed := by
    unfold Region.ready
    rw [List.mem_filter, List.mem_range]
    refine ⟨h3, ?_⟩
    rw [Array.getD_eq_getD_getElem?, hl i h3, Array.getElem?_eq_getElem h3, h4]
    simp only [Option.getD_some, Bool.not_false, Bool.true_and, Option.map_some]
    refine Array.all_eq_true_iff_forall_mem.2 (fun e he => ?_)
    cases hb : Region.binds .any e with
    | false => rfl
    | true =>
     have hlt : e.on < i := edgesOk_lt hed (.edge e.on i ops[i] e (Array.getElem?_eq_getElem h3) he hb rfl)
     have hSe : S e.on = true := by
      cases hs : S e.on with
      | true => rfl
      | false => exact absurd ⟨by omega, hs⟩ (h6 e.on hlt)
     rw [Array.getD_eq_getD_getElem?, hl e.on (by omega), hSe]
     rfl
   rw [hnil] at this
   cases this
  ·obtain ⟨h1, h2, h3⟩ := hready hl hsz hI j hj
   have ho := Array.getElem?_eq_getElem (xs := ops) h1
   unfold wpOp
   rw [ho]
   simp only
   refine hI.step hS hC hok hed hap ht hr0 hf0 hN hG ho h2 h3 Q _ (fun m' ι2 a2 w2 hI' => ?_)
   refine ih _ _ m' ι2 a2 w2 (by simp [hsz]) (fun i hi => ?_) ?_ hI'
   ·by_cases hij : i = j
    ·subst hij
     simp [hsz, h1]
    ·rw [Array.getElem?_setIfInBounds_ne (Ne.symm hij), hl i hi]
     simp [hij]
   ·have := (cnt_step h2 ops.size).1 h1
    omega
end
end Go.Vm
