/-
  Part of an evaluator for the model, proved sound: no condition.
-/
import Derived.Test.YtngmbcedamphmaaEVm11
set_option linter.unusedSimpArgs false
set_option linter.unusedVariables false
namespace Go.Vm
open Go
theorem least {p : Nat → Prop} : ∀ n, p n → ∃ i, p i ∧ i ≤ n ∧ ∀ j, j < i → ¬ p j := by
 intro n
 induction n using Nat.strongRecOn with
 | _ n ih =>
  intro h
  by_cases hx : ∃ m, m < n ∧ p m
  ·obtain ⟨m, h1, h2⟩ := hx
   obtain ⟨i, h3, h4, h5⟩ := ih m h1 h2
   exact ⟨i, h3, by omega, h5⟩
  ·exact ⟨n, h, Nat.le_refl _, fun j hj hp => hx ⟨j, hj, hp⟩⟩
def cnt (S : Nat → Bool) : Nat → Nat
 | 0 => 0
 | k + 1 => cnt S k + if S k = true then 0 else 1
theorem cnt_step {S : Nat → Bool} {j : Nat} (hj : S j = false) : ∀ n, (j < n → cnt S n = cnt (fun i => if i = j then true else S i) n + 1) ∧ (n ≤ j → cnt S n = cnt (fun i => if i = j then true else S i) n)
 | 0 => ⟨fun h => by omega, fun _ => rfl⟩
 | n + 1 => by
  obtain ⟨h1, h2⟩ := cnt_step hj n
  refine ⟨fun h => ?_, fun h => ?_⟩
  ·by_cases hn : n = j
   ·subst hn
    simp [cnt, hj, h2 (Nat.le_refl _)]
   ·simp only [cnt, hn, if_false]
    rw [h1 (by omega)]
    omega
  ·simp only [cnt, show n ≠ j by omega, if_false]
   rw [h2 (by omega)]
theorem cnt_zero {S : Nat → Bool} : ∀ n, cnt S n = 0 → ∀ i, i < n → S i = true
 | 0, _, i, h => by omega
 | n + 1, h, i, hi => by
  simp only [cnt] at h
  by_cases hin : i = n
  ·subst hin
   by_cases hs : S i = true
   ·exact hs
   ·simp [hs] at h
  ·exact cnt_zero n (by omega) i (by omega)
theorem cnt_all {S : Nat → Bool} : ∀ n, (∀ i, i < n → S i = false) → cnt S n = n
 | 0, _ => rfl
 | n + 1, h => by simp [cnt, h n (by omega), cnt_all n (fun i hi => h i (by omega))]
theorem cnt_pos {S : Nat → Bool} : ∀ n, cnt S n ≠ 0 → ∃ i, i < n ∧ S i = false
 | 0, h => absurd rfl h
 | n + 1, h => by
  by_cases hs : S n = true
  ·simp only [cnt, hs, if_true, Nat.add_zero] at h
   obtain ⟨i, h1, h2⟩ := cnt_pos n h
   exact ⟨i, by omega, h2⟩
  ·exact ⟨n, by omega, by simpa using hs⟩
section
variable {P : Program} {C : CallRel} {ops : Array Oper} {t0 : T} {H0 : AH} {Hf : Nat → AH} {tf : Nat → T} {kf : Nat → Kind} {vf : Nat → Value}
theorem draw_sim (hS : Snd P C) (hC : ∀ g args H v H', C g args H v H' → H.next ≤ H'.next ∧ H'.lo = H.lo) {G N : Nat} (hok : okOps G N ops = true) (hed : edgesOk ops = true) (hap : apartOk ops = true)
  (ht : Trace P C ops t0 H0 Hf tf kf vf) {ι : Inj} {a : Act} {w : World} (hr0 : R ι H0 w) (hf0 : FR H0.lo ι t0 a) (hN : a.tmps.size = N) (hG : G ≤ H0.lo) (Q : Exit → Act → World → Prop)
  (hQ : ∀ a' w' ι', After ι H0 (Hf ops.size) w w' ι' → FR H0.lo ι' (tf ops.size) a' → a'.tmps.size = N → a'.defers = a.defers → Q .normal a' w') :
  ∀ (fuel : Nat) (listed : Array Bool) (S : Nat → Bool) (m : Nat) (ι1 : Inj) (a1 : Act) (w1 : World), listed.size = ops.size → (∀ i, i < ops.size → listed[i]? = some (S i)) → cnt S ops.size = fuel →
   RInv P ops N t0 H0 Hf kf vf ι a w S m ι1 a1 w1 → wpAny P .any ops Q fuel listed a1 w1 := by
 have hready : ∀ {listed : Array Bool} {S : Nat → Bool} {m ι1 a1 w1}, (∀ i, i < ops.size → listed[i]? = some (S i)) → listed.size = ops.size → RInv P ops N t0 H0 Hf kf vf ι a w S m ι1 a1 w1 → ∀ i, i ∈ Region.ready .any ops listed → i < ops.size ∧ S i = false ∧ ∀ k, Dep ops k i → S k = true := by
  intro listed S m ι1 a1 w1 hl hsz hI i hi
  unfold Region.ready at hi
  rw [List.mem_filter, List.mem_range] at hi
  obtain ⟨h1, h2⟩ := hi
  rw [Bool.and_eq_true] at h2
  obtain ⟨h2, h3⟩ := h2
  rw [Array.getD_eq_getD_getElem?, hl i h1] at h2
  rw [Array.getElem?_eq_getElem h1] at h3
  simp only [Option.map_some, Option.getD_some] at h2 h3
  have hedge : ∀ e ∈ ops[i].after, bindsE e = true → S e.on = true := fun e he hb => by
   have h4 := (Array.all_eq_true_iff_forall_mem.1 h3) e he
   unfold bindsE at hb
   rw [hb] at h4
   simp only [Bool.not_true, Bool.false_or] at h4
   rw [Array.getD_eq_getD_getElem?] at h4
   by_cases hon : e.on < ops.size
   ·rw [hl _ hon] at h4; simpa using h4
   ·rw [Array.getElem?_eq_none (by omega)] at h4; cases h4
  refine ⟨h1, by simpa using h2, ?_⟩
  have key : ∀ k j, Dep ops k j → j = i → S k = true := by
   intro k j hd
   induction hd with
   | edge k j o e ho he hb hon =>
    intro hji
    subst hji
    have : ops[j] = o := by rw [Array.getElem?_eq_getElem h1] at ho; exact Option.some.inj ho
    exact hon ▸ hedge e (this ▸ he) hb
   | trans k q j h h' ih ih' =>
    intro hji
    have := edgesOk_lt hed h'
    exact hI.closed k q (by omega) (ih' hji) h
  exact fun k hd => key k i hd rfl
 intro fuel
 induction fuel with
 | zero =>
  intro listed S m ι1 a1 w1 hsz hl hc hI
  have hall := cnt_zero _ hc
  refine ⟨?_, ?_⟩
  ·refine List.eq_nil_iff_forall_not_mem.2 (fun i hi => ?_)
   obtain ⟨h1, h2, _⟩ := hready hl hsz hI i hi
   rw [hall i h1] at h2
   cases h2
  ·have hbeta : ∀ b, b < (Hf ops.size).next → b < (Hf (beta (fun i => (Hf i).next) b ops.size)).next ∧ beta (fun i => (Hf i).next) b ops.size ≤ ops.size ∧ ∀ k, k ≤ ops.size → b < (Hf k).next → beta (fun i => (Hf i).next) b ops.size ≤ k := fun b hb =>
    beta_spec (nx := fun i => (Hf i).next) (b := b) ops.size (fun i hi => (ht.mono hC hi).1) hb
   have hnoeff : ∀ e, m ≤ e → e < ops.size → kf e ≠ .eff := fun e h1 h2 h3 => by
    have := (hI.meff e h2 h3).1 (hall e h2)
    omega
   have hget : ∀ b, b < (Hf ops.size).next → (Hf ops.size).get b = (Gh ops.size Hf H0.lo m).get b := fun b hb => by
    obtain ⟨h1, h2, _⟩ := hbeta b hb
    have hm := hI.mle
    refine ht.stable hC (show max m (beta (fun i => (Hf i).next) b ops.size) ≤ ops.size by omega) (Nat.le_refl _) ?_ (fun e h3 h4 h5 => absurd h5 (hnoeff e (by omega) h4))
    have := (ht.le hC (show beta (fun i => (Hf i).next) b ops.size ≤ max m (beta (fun i => (Hf i).next) b ops.size) by omega) (by omega)).1
    omega
   have hlo : (Hf ops.size).lo = H0.lo := by rw [(ht.le hC (Nat.zero_le _) (Nat.le_refl _)).2, ht.h0]
   have hnx : H0.next ≤ (Hf ops.size).next := by rw [← ht.h0]; exact (ht.le hC (Nat.zero_le _) (Nat.le_refl _)).1
   refine hQ a1 w1 ι1 ⟨⟨hI.ext, hI.new, hnx, hlo, fun b hb hd => ?_, fun b h1 h2 => ?_⟩, ⟨fun b l o hb hg => ?_, fun b b' l l' hb hb' hg hg' he => ?_, fun b l hb => hI.r.dom b l hb, fun b hb => by
    obtain ⟨l, h1, h2, h3, h4⟩ := hI.r.low b (hlo ▸ hb)
    exact ⟨l, h1, h2, h3, fun e c hg => h4 e c (by rw [← hget b (hI.r.dom b l h1).1]; exact hg)⟩⟩, hI.fr⟩ (fun s => ?_) hI.size hI.defers
   ·have h1 := hI.dead b hb hd
    have hm := hI.mle
    rw [← h1]
    refine ht.stable hC hm (Nat.le_refl _) ?_ (fun e h3 h4 h5 => absurd h5 (hnoeff e h3 h4))
    have := (ht.le hC (Nat.zero_le m) hm).1
    rw [ht.h0] at this
    omega
   ·obtain ⟨h3, h4, h5⟩ := hbeta b h2
    have h6 : beta (fun i => (Hf i).next) b ops.size ≠ 0 := fun e => by rw [e, ht.h0] at h3; omega
    refine hI.cov (beta (fun i => (Hf i).next) b ops.size - 1) (by omega) (hall _ (by omega)) b ?_ (by rw [show beta (fun i => (Hf i).next) b ops.size - 1 + 1 = beta (fun i => (Hf i).next) b ops.size by omega]; exact h3)
    rcases Nat.lt_or_ge b (Hf (beta (fun i => (Hf i).next) b ops.size - 1)).next with h7 | h7
    ·have := h5 _ (by omega) h7; omega
    ·exact h7
   ·rw [hget b (hI.r.dom b l hb).1] at hg
    rw [hlo]
    exact hI.r.obj b l o hb hg
   ·rw [hget b (hI.r.dom b l hb).1] at hg
    rw [hget b' (hI.r.dom b' l' hb').1] at hg'
    exact hI.r.inj b b' l l' hb hb' hg hg' he
   ·have h1 := hI.slots s
    have h2 : svp ops vf t0 S s ops.size = svp ops vf t0 (fun _ => true) s ops.size := svp_congr _ (fun i hi _ => hall i hi)
    have h3 : ∀ k, k ≤ ops.size → (svp ops vf t0 (fun _ => true) s k).1 = tf k s := by
     intro k
     induction k with
     | zero => intro _; exact (congrFun ht.t0 s).symm
     | succ k ih =>
      intro hk
      obtain ⟨h4, h5⟩ := ht.step k ops[k] (Array.getElem?_eq_getElem (by omega))
      rw [h5]
      unfold svp
      rw [Array.getElem?_eq_getElem (by omega)]
      simp only [Option.bind_some, true_and]
      cases hd : ops[k].dst with
      | none => simp [put, ih (by omega)]
      | some d =>
       by_cases hds : d = s
       ·subst hds; simp [put]
       ·simp [put, hds, Ne.symm hds, ih (by omega)]
    rw [h2, h3 _ (Nat.le_refl _)] at h1
    exact h1
 | succ fuel ih =>
  intro listed S m ι1 a1 w1 hsz hl hc hI
  refine ⟨fun hnil => ?_, fun j hj => ?_⟩
  ·exfalso
   obtain ⟨i0, h1, h2⟩ := cnt_pos (S := S) ops.size (by omega)
   obtain ⟨i, ⟨h3, h4⟩, h5, h6⟩ := least (p := fun i => i < ops.size ∧ S i = false) i0 ⟨h1, h2⟩
   have : i ∈ Region.ready .any ops listed := by
    unfold Region.ready
    rw [List.mem_filter, List.mem_range]
    refine ⟨h3, ?_⟩
    rw [Array.getD_eq_getD_getElem?, hl i h3, Array.getElem?_eq_getElem h3, h4]
    simp only [Option.getD_some, Bool.not_false, Bool.true_and, Option.map_some]
    refine Array.all_eq_true_iff_forall_mem.2 (fun e he => ?_)
    cases hb : Region.binds .any e with
    | false => rfl
    | true =>
     have hlt : e.on < i := edgesOk_lt hed (.edge e.on i ops[i] e (Array.getElem?_eq_getElem h3) he hb rfl)
     have hSe : S e.on = true := by
      cases hs : S e.on with
      | true => rfl
      | false => exact absurd ⟨by omega, hs⟩ (h6 e.on hlt)
     rw [Array.getD_eq_getD_getElem?, hl e.on (by omega), hSe]
     rfl
   rw [hnil] at this
   cases this
  ·obtain ⟨h1, h2, h3⟩ := hready hl hsz hI j hj
   have ho := Array.getElem?_eq_getElem (xs := ops) h1
   unfold wpOp
   rw [ho]
   simp only
   refine hI.step hS hC hok hed hap ht hr0 hf0 hN hG ho h2 h3 Q _ (fun m' ι2 a2 w2 hI' => ?_)
   refine ih _ _ m' ι2 a2 w2 (by simp [hsz]) (fun i hi => ?_) ?_ hI'
   ·by_cases hij : i = j
    ·subst hij
     simp [hsz, h1]
    ·rw [Array.getElem?_setIfInBounds_ne (Ne.symm hij), hl i hi]
     simp [hij]
   ·have := (cnt_step h2 ops.size).1 h1
    omega
end
end Go.Vm
