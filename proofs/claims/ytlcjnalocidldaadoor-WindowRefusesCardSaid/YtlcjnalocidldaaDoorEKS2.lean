/-
 The memory's steps, and what stays true.
-/
import Derived.Test.YtlcjnalocidldaaDoorEKS1
set_option linter.unusedSimpArgs false
set_option linter.unusedVariables false
namespace Go.Vm.K17.M
open Go
def up {α : Type} (f : Nat → α) (t : Nat) (v : α) : Nat → α := fun j => if j = t then v else f j
@[simp] theorem up_self {α : Type} {f : Nat → α} {t : Nat} {v : α} : up f t v t = v := by simp [up]
theorem up_ne {α : Type} {f : Nat → α} {t j : Nat} {v : α} (h : j ≠ t) : up f t v j = f j := by simp [up, h]
def evd (a : A) (n : Int) : Ev := a.E.getD (n - 1).toNat ⟨0, false, 0, 0⟩
theorem evd_of {a : A} {n : Int} {e : Ev} (h : ev a n e) : evd a n = e := by
 obtain ⟨k, h1, h2⟩ := h
 unfold evd
 rw [show (n - 1).toNat = k from by omega, List.getD_eq_getElem?_getD, h2]; rfl
def cm (a : A) (t : Nat) (n : Int) : A :=
 ⟨a.E, up a.S t (a.S t ++ [n]), up a.H t (mS (a.H t) n true), if (evd a n).bar then a.W else up a.W t (mS (a.W t) (evd a n).at_ n), a.L⟩
def pu (a : A) (e : Ev) : A := ⟨a.E ++ [e], a.S, a.H, a.W, if e.bar then a.L else mS a.L e.at_ ((a.E.length : Int) + 1)⟩
def ac (a : A) (e : Ev) : A := cm (pu a e) e.thread.toNat ((a.E.length : Int) + 1)
theorem rd_cm {a : A} {t j : Nat} {n p : Int} {e : Ev} (he : ev a n e) : rd (cm a t n) j p = if j = t ∧ e.bar = false ∧ e.at_ = p then n else rd a j p := by
 unfold rd cm
 rw [evd_of he]
 show (mG ((if e.bar = true then a.W else up a.W t (mS (a.W t) e.at_ n)) j) p).getD 0 = _
 cases hb : e.bar with
 | true => simp
 | false =>
  simp only [Bool.false_eq_true, if_false]
  by_cases hj : j = t
  ·subst hj
   rw [up_self, mG_mS]
   by_cases hp : e.at_ = p
   ·simp [hp]
   ·simp [hp]
  ·rw [up_ne hj]; simp [hj]
theorem come_is {a : A} {N t : Nat} {n : Int} {e : Ev} (hE : a.E.length ≤ 1001) (ht : t < N) (hS : (a.S t).length ≤ 1001) (he : ev a n e) : storage_Storage_come (a.st N) t n = some ((cm a t n).st N) := by
 unfold storage_Storage_come
 show (ix (tb N a.S) t).bind _ = _
 rw [ix_tb ht]
 simp only [Option.bind_some]
 rw [ap_some (by simp; omega)]
 simp only [Option.bind_some]
 show (ix (tb N a.S) t).bind _ = _
 rw [ix_tb ht]
 simp only [Option.bind_some]
 show (ix (tb N a.H) t).bind _ = _
 rw [ix_tb ht]
 simp only [Option.bind_some]
 have hev := evd_of he
 obtain ⟨k, h1, h2⟩ := he
 have hk := (List.getElem?_eq_some_iff.1 h2).1
 show (ix a.E (w64 (n - 1))).bind _ = _
 rw [w64_id (by omega) (by omega), show n - 1 = (k : Int) from by omega, ix_nat, h2]
 simp only [Option.bind_some]
 have e1 : (tb N a.S).set (Int.toNat (t : Int)) (a.S t ++ [n]) = tb N (up a.S t (a.S t ++ [n])) := by rw [Int.toNat_natCast, tb_set]; rfl
 have e2 : (tb N a.H).set (Int.toNat (t : Int)) (mS (a.H t) n true) = tb N (up a.H t (mS (a.H t) n true)) := by rw [Int.toNat_natCast, tb_set]; rfl
 have e3 : ∀ v, (tb N a.W).set (Int.toNat (t : Int)) v = tb N (up a.W t v) := fun v => by rw [Int.toNat_natCast, tb_set]; rfl
 unfold A.st cm
 rw [hev]
 simp only [e1, e2, e3]
 cases hb : e.bar with
 | true => simp
 | false =>
  simp only [Bool.not_false, if_true, Bool.false_eq_true, if_false]
  rw [ix_tb ht]
  simp only [Option.bind_some]
theorem ev_pu {a : A} {e e' : Ev} {m : Int} : ev (pu a e) m e' ↔ ev a m e' ∨ (m = (a.E.length : Int) + 1 ∧ e' = e) := by
 unfold ev pu
 constructor
 ·rintro ⟨k, h1, h2⟩
  simp only at h2
  by_cases hk : k < a.E.length
  ·rw [List.getElem?_append_left hk] at h2; exact .inl ⟨k, h1, h2⟩
  ·have hk2 := (List.getElem?_eq_some_iff.1 h2).1
   simp at hk2
   have : k = a.E.length := by omega
   subst this
   simp at h2
   exact .inr ⟨by omega, h2.symm⟩
 ·rintro (⟨k, h1, h2⟩ | ⟨h1, h2⟩)
  ·exact ⟨k, h1, by rw [List.getElem?_append_left (List.getElem?_eq_some_iff.1 h2).1]; exact h2⟩
  ·exact ⟨a.E.length, by omega, by simp [h2]⟩
theorem accept_is {a : A} {N : Nat} {e : Ev} (hE : a.E.length ≤ 1000) (ht : 0 ≤ e.thread ∧ e.thread < N) (hS : (a.S e.thread.toNat).length ≤ 1001) :
  storage_Storage_accept (a.st N) e = some ((a.E.length : Int) + 1, (ac a e).st N) := by
 unfold storage_Storage_accept
 show (ap a.E [e]).bind _ = _
 rw [ap_some (by simp; omega)]
 simp only [Option.bind_some]
 have hn : ((a.E ++ [e]).length : Int) = (a.E.length : Int) + 1 := by simp
 have key : storage_Storage_accept_k1 (a.st N) e (a.E ++ [e]) (pu a e).L = some ((a.E.length : Int) + 1, (ac a e).st N) := by
  unfold storage_Storage_accept_k1
  rw [hn]
  have hT : e.thread = ((e.thread.toNat : Nat) : Int) := by omega
  have h1 := come_is (a := pu a e) (N := N) (t := e.thread.toNat) (n := (a.E.length : Int) + 1) (e := e) (by show (a.E ++ [e]).length ≤ 1001; simp; omega) (by omega) hS (ev_pu.2 (.inr ⟨rfl, rfl⟩))
  rw [← hT] at h1
  show (storage_Storage_come ((pu a e).st N) e.thread ((a.E.length : Int) + 1)).bind _ = _
  rw [h1]; rfl
 unfold pu at key
 cases hb : e.bar with
 | true =>
  rw [hb] at key
  simp only [if_true] at key
  simp only [Bool.not_true, Bool.false_eq_true, if_false]
  exact key
 | false =>
  rw [hb] at key
  simp only [Bool.false_eq_true, if_false] at key
  rw [hn]
  simp only [Bool.not_false, if_true]
  exact key
theorem Inv.come {N : Nat} {a : A} {t : Nat} {n : Int} {e : Ev} (i : Inv N a) (m : May N a t n e) : Inv N (cm a t n) := by
 have hT := i.thr n e m.he
 have hTN : e.thread.toNat < N := by omega
 have hne : e.thread.toNat ≠ t := fun h => m.new (h ▸ i.own n e m.he)
 have hS : ∀ j, j < N → ∀ x, x ∈ (cm a t n).S j ↔ x ∈ a.S j ∨ (j = t ∧ x = n) := by
  intro j hj x
  by_cases hjt : j = t
  ·subst hjt; show x ∈ up a.S j (a.S j ++ [n]) j ↔ _; rw [up_self]; simp
  ·show x ∈ up a.S t (a.S t ++ [n]) j ↔ _; rw [up_ne hjt]; simp [hjt]
 have hpre : ∀ x e', ev a x e' → pre ((cm a t n).S e'.thread.toNat) x = pre (a.S e'.thread.toNat) x := by
  intro x e' he'
  by_cases hjt : e'.thread.toNat = t
  ·rw [hjt]
   show pre (up a.S t (a.S t ++ [n]) t) x = _
   rw [up_self, pre_app _ _ _ (hjt ▸ i.own x e' he')]
  ·show pre (up a.S t (a.S t ++ [n]) e'.thread.toNat) x = _
   rw [up_ne hjt]
 have hrd : ∀ j, j < N → ∀ p, rd a j p ≤ rd (cm a t n) j p := by
  intro j hj p
  rw [rd_cm m.he]
  split
  ·rename_i h
   have := m.np h.2.1
   rw [h.2.2] at this
   rw [h.1]; omega
  ·omega
 constructor
 ·exact i.hE
 ·exact i.thr
 ·intro j hj x
  rw [hS j hj]
  by_cases hjt : j = t
  ·subst hjt
   show (mG (up a.H j (mS (a.H j) n true) j) x).getD false = true ↔ _
   rw [up_self, mG_mS]
   by_cases hx : n = x
   ·simp [hx]
   ·rw [if_neg hx, i.has j hj]
    exact ⟨.inl, fun h => h.elim id (fun h => (hx h.2.symm).elim)⟩
  ·show (mG (up a.H t (mS (a.H t) n true) j) x).getD false = true ↔ _
   rw [up_ne hjt, i.has j hj]; simp [hjt]
 ·intro j hj x hx
  rcases (hS j hj x).1 hx with hx | ⟨_, rfl⟩
  ·exact i.rng j hj x hx
  ·exact ev_rng m.he
 ·intro j hj
  by_cases hjt : j = t
  ·subst hjt
   show (up a.S j (a.S j ++ [n]) j).Nodup
   rw [up_self, List.nodup_append]
   exact ⟨i.nodup j hj, by simp, fun x hx y hy => by
    rcases List.mem_singleton.1 hy with rfl
    exact fun e => m.new (e ▸ hx)⟩
  ·show (up a.S t (a.S t ++ [n]) j).Nodup
   rw [up_ne hjt]; exact i.nodup j hj
 ·intro j hj p
  rw [rd_cm m.he, hS j hj]
  split
  ·rename_i h
   exact .inr ⟨.inr ⟨h.1, rfl⟩, ⟨e, m.he, h.2.1, h.2.2⟩⟩
  ·rcases i.now1 j hj p with h | h
   ·exact .inl h
   ·exact .inr ⟨.inl h.1, h.2⟩
 ·intro j hj x hx p hw
  rcases (hS j hj x).1 hx with hx | ⟨rfl, rfl⟩
  ·have := i.now2 j hj x hx p hw
   have := hrd j hj p
   omega
  ·obtain ⟨e', he', hb, hp⟩ := hw
   have := ev_inj m.he he'
   subst this
   rw [rd_cm m.he, if_pos ⟨rfl, hb, hp⟩]; omega
 ·intro x e' he'
  have := i.own x e' he'
  have ht := i.thr x e' he'
  exact (hS _ (by omega) x).2 (.inl this)
 ·exact i.last1
 ·exact i.last2
 ·intro x e' he' k hk
  rw [hpre x e' he'] at hk
  exact i.ord x e' he' k hk
 ·intro j hj x hx e' he' k hk e2 he2 hb
  rw [hpre x e' he'] at hk
  refine (hS j hj k).2 ?_
  rcases (hS j hj x).1 hx with hx | ⟨rfl, rfl⟩
  ·exact .inl (i.bars j hj x hx e' he' k hk e2 he2 hb)
  ·have := ev_inj m.he he'
   subst this
   exact .inl (m.bar k hk e2 he2 hb)
 ·intro j hj x hx e' he' hb k hk p hp
  rw [hpre x e' he'] at hk
  have := hrd j hj p
  rcases (hS j hj x).1 hx with hx | ⟨rfl, rfl⟩
  ·have := i.wrts j hj x hx e' he' hb k hk p hp
   omega
  ·have := ev_inj m.he he'
   subst this
   have := m.wrt hb k hk p hp
   omega
theorem Inv.acc {N : Nat} {a : A} {e : Ev} (i : Inv N a) (hE : a.E.length < 1000) (ht : 0 ≤ e.thread ∧ e.thread < N) : Inv N (ac a e) ∧ (∀ j, j < N → ∀ p, rd a j p ≤ rd (ac a e) j p) := by
 obtain ⟨T, hT⟩ := Int.eq_ofNat_of_zero_le ht.1
 have hTn : e.thread.toNat = T := by omega
 have hTN : T < N := by omega
 generalize hn : (a.E.length : Int) + 1 = n
 have hac : ac a e = cm (pu a e) T n := by unfold ac; rw [hTn, hn]
 rw [hac]
 have hen : ev (pu a e) n e := ev_pu.2 (.inr ⟨hn.symm, rfl⟩)
 have hev : ∀ x e', ev (pu a e) x e' ↔ ev a x e' ∨ (x = n ∧ e' = e) := fun x e' => by rw [ev_pu, hn]
 have hwr : ∀ x p, wr (pu a e) x p ↔ wr a x p ∨ (x = n ∧ e.bar = false ∧ e.at_ = p) := by
  intro x p
  constructor
  ·rintro ⟨e', he', hb, hp⟩
   rcases (hev x e').1 he' with h | ⟨h, rfl⟩
   ·exact .inl ⟨e', h, hb, hp⟩
   ·exact .inr ⟨h, hb, hp⟩
  ·rintro (⟨e', he', hb, hp⟩ | ⟨h, hb, hp⟩)
   ·exact ⟨e', (hev x e').2 (.inl he'), hb, hp⟩
   ·exact ⟨e, h ▸ hen, hb, hp⟩
 have hnn : ∀ j, j < N → n ∉ a.S j := fun j hj h => by have := i.rng j hj n h; omega
 have hS : ∀ j, j < N → ∀ x, x ∈ (cm (pu a e) T n).S j ↔ x ∈ a.S j ∨ (j = T ∧ x = n) := by
  intro j hj x
  by_cases hjt : j = T
  ·subst hjt; show x ∈ up a.S j (a.S j ++ [n]) j ↔ _; rw [up_self]; simp
  ·show x ∈ up a.S T (a.S T ++ [n]) j ↔ _; rw [up_ne hjt]; simp [hjt]
 have hpre : ∀ x e', ev a x e' → pre ((cm (pu a e) T n).S e'.thread.toNat) x = pre (a.S e'.thread.toNat) x := by
  intro x e' he'
  by_cases hjt : e'.thread.toNat = T
  ·rw [hjt]
   show pre (up a.S T (a.S T ++ [n]) T) x = _
   rw [up_self, pre_app _ _ _ (hjt ▸ i.own x e' he')]
  ·show pre (up a.S T (a.S T ++ [n]) e'.thread.toNat) x = _
   rw [up_ne hjt]
 have hpren : pre ((cm (pu a e) T n).S e.thread.toNat) n = a.S T := by
  rw [hTn]
  show pre (up a.S T (a.S T ++ [n]) T) n = _
  rw [up_self, pre_self _ _ (hnn T hTN)]
 have hrd0 : ∀ j p, rd (pu a e) j p = rd a j p := fun j p => rfl
 have hrd : ∀ j, j < N → ∀ p, rd a j p ≤ rd (cm (pu a e) T n) j p := by
  intro j hj p
  rw [rd_cm hen, hrd0]
  split
  ·have := rd_rng i hj p; omega
  ·omega
 refine ⟨?_, hrd⟩
 constructor
 ·show (a.E ++ [e]).length ≤ 1000; simp; omega
 ·intro x e' he'
  rcases (hev x e').1 he' with h | ⟨_, rfl⟩
  ·exact i.thr x e' h
  ·exact ht
 ·intro j hj x
  rw [hS j hj]
  by_cases hjt : j = T
  ·subst hjt
   show (mG (up a.H j (mS (a.H j) n true) j) x).getD false = true ↔ _
   rw [up_self, mG_mS]
   by_cases hx : n = x
   ·simp [hx]
   ·rw [if_neg hx, i.has j hj]
    exact ⟨.inl, fun h => h.elim id (fun h => (hx h.2.symm).elim)⟩
  ·show (mG (up a.H T (mS (a.H T) n true) j) x).getD false = true ↔ _
   rw [up_ne hjt, i.has j hj]; simp [hjt]
 ·intro j hj x hx
  show 1 ≤ x ∧ x ≤ ((a.E ++ [e]).length : Int)
  rw [List.length_append, List.length_singleton]
  rcases (hS j hj x).1 hx with hx | ⟨_, rfl⟩
  ·have := i.rng j hj x hx; omega
  ·omega
 ·intro j hj
  by_cases hjt : j = T
  ·subst hjt
   show (up a.S j (a.S j ++ [n]) j).Nodup
   rw [up_self, List.nodup_append]
   exact ⟨i.nodup j hj, by simp, fun x hx y hy => by
    rcases List.mem_singleton.1 hy with rfl
    exact fun e => hnn j hj (e ▸ hx)⟩
  ·show (up a.S T (a.S T ++ [n]) j).Nodup
   rw [up_ne hjt]; exact i.nodup j hj
 ·intro j hj p
  rw [rd_cm hen, hS j hj, hrd0]
  split
  ·rename_i h
   exact .inr ⟨.inr ⟨h.1, rfl⟩, (hwr _ _).2 (.inr ⟨rfl, h.2⟩)⟩
  ·rcases i.now1 j hj p with h | h
   ·exact .inl h
   ·exact .inr ⟨.inl h.1, (hwr _ _).2 (.inl h.2)⟩
 ·intro j hj x hx p hw
  have h1 := hrd j hj p
  rcases (hS j hj x).1 hx with hx | ⟨rfl, rfl⟩
  ·have hxr := i.rng j hj x hx
   rcases (hwr x p).1 hw with hw | ⟨h, _⟩
   ·have := i.now2 j hj x hx p hw; omega
   ·omega
  ·rcases (hwr _ p).1 hw with hw | ⟨_, hb, hp⟩
   ·obtain ⟨e', he', _⟩ := hw
    have := ev_rng he'; omega
   ·rw [rd_cm hen, if_pos ⟨rfl, hb, hp⟩]; omega
 ·intro x e' he'
  rcases (hev x e').1 he' with h | ⟨rfl, rfl⟩
  ·have := i.own x e' h
   have ht := i.thr x e' h
   exact (hS _ (by omega) x).2 (.inl this)
  ·rw [hTn]; exact (hS T hTN _).2 (.inr ⟨rfl, rfl⟩)
 ·intro p
  show (mG (if e.bar = true then a.L else mS a.L e.at_ ((a.E.length : Int) + 1)) p).getD 0 = 0 ∨ wr (pu a e) ((mG (if e.bar = true then a.L else mS a.L e.at_ ((a.E.length : Int) + 1)) p).getD 0) p
  rw [hn]
  cases hb : e.bar with
  | true =>
   simp only [if_true]
   rcases i.last1 p with h | h
   ·exact .inl h
   ·exact .inr ((hwr _ _).2 (.inl h))
  | false =>
   simp only [Bool.false_eq_true, if_false]
   rw [mG_mS]
   by_cases hp : e.at_ = p
   ·rw [if_pos hp]; exact .inr ((hwr _ _).2 (.inr ⟨rfl, hb, hp⟩))
   ·rw [if_neg hp]
    rcases i.last1 p with h | h
    ·exact .inl h
    ·exact .inr ((hwr _ _).2 (.inl h))
 ·intro x p hw
  show x ≤ (mG (if e.bar = true then a.L else mS a.L e.at_ ((a.E.length : Int) + 1)) p).getD 0
  rw [hn]
  rcases (hwr x p).1 hw with hw | ⟨rfl, hb, hp⟩
  ·have h1 := i.last2 x p hw
   have hxr : x ≤ a.E.length := by obtain ⟨e', he', _⟩ := hw; exact (ev_rng he').2
   cases hb : e.bar with
   | true => simp only [if_true]; exact h1
   | false =>
    simp only [Bool.false_eq_true, if_false]
    rw [mG_mS]
    by_cases hp : e.at_ = p
    ·rw [if_pos hp]; simp; omega
    ·rw [if_neg hp]; exact h1
  ·rw [hb]
   simp only [Bool.false_eq_true, if_false]
   rw [mG_mS, if_pos hp]; simp
 ·intro x e' he' k hk
  rcases (hev x e').1 he' with h | ⟨rfl, rfl⟩
  ·rw [hpre x e' h] at hk
   exact i.ord x e' h k hk
  ·rw [hpren] at hk
   have := i.rng T hTN k hk; omega
 ·intro j hj x hx e' he' k hk e2 he2 hb
  refine (hS j hj k).2 ?_
  rcases (hev x e').1 he' with h | ⟨rfl, rfl⟩
  ·rw [hpre x e' h] at hk
   have hxr := ev_rng h
   have hx' : x ∈ a.S j := by
    rcases (hS j hj x).1 hx with hx | ⟨_, rfl⟩
    ·exact hx
    ·omega
   have hkr := i.ord x e' h k hk
   rcases (hev k e2).1 he2 with h2 | ⟨rfl, _⟩
   ·exact .inl (i.bars j hj x hx' e' h k hk e2 h2 hb)
   ·omega
  ·rw [hpren] at hk
   rcases (hS j hj _).1 hx with hx | ⟨rfl, _⟩
   ·exact (hnn j hj hx).elim
   ·exact .inl hk
 ·intro j hj x hx e' he' hb k hk p hp
  have h1 := hrd j hj p
  rcases (hev x e').1 he' with h | ⟨rfl, rfl⟩
  ·rw [hpre x e' h] at hk
   have hxr := ev_rng h
   have hx' : x ∈ a.S j := by
    rcases (hS j hj x).1 hx with hx | ⟨_, rfl⟩
    ·exact hx
    ·omega
   have hkr := i.ord x e' h k hk
   rcases (hwr k p).1 hp with h2 | ⟨rfl, _⟩
   ·have := i.wrts j hj x hx' e' h hb k hk p h2; omega
   ·omega
  ·rw [hpren] at hk
   rcases (hS j hj _).1 hx with hx | ⟨rfl, _⟩
   ·exact (hnn j hj hx).elim
   ·rcases (hwr k p).1 hp with h2 | ⟨rfl, _⟩
    ·have := i.now2 j hj k hk p h2; omega
    ·exact (hnn j hj hk).elim
def a0 : A := ⟨[], fun _ => [], fun _ => [], fun _ => [], []⟩
theorem Inv.zero (N : Nat) : Inv N a0 := by
 have hno : ∀ n e, ¬ ev a0 n e := by rintro n e ⟨k, _, h⟩; simp [a0] at h
 constructor
 ·simp [a0]
 ·intro n e h; exact (hno n e h).elim
 ·intro t _ n; simp [a0, mG_nil]
 ·intro t _ n h; cases h
 ·intro t _; simp [a0]
 ·intro t _ p; exact .inl rfl
 ·intro t _ n h; cases h
 ·intro n e h; exact (hno n e h).elim
 ·intro p; exact .inl rfl
 ·rintro n p ⟨e, h, _⟩; exact (hno n e h).elim
 ·intro n e h; exact (hno n e h).elim
 ·intro t _ n h; cases h
 ·intro t _ n h; cases h
def nN (p : Int) : Nat := (min (max p 0) 8).toNat
theorem nN_le (p : Int) : nN p ≤ 8 := by unfold nN; omega
theorem New_is (p : Int) : storage_New p = some (a0.st (nN p)) := by
 unfold storage_New storage_New_l1
 have hp : (min (max p 0) 8) = (nN p : Int) := by unfold nN; omega
 have h8 := nN_le p
 refine (Ok.loop (B := fun s => storage_New_l1b p s.1 s.2.1 s.2.2.1 s.2.2.2) (P := fun r => r = a0.st (nN p)) (fun k s => s = (tb k (fun _ => []), tb k (fun _ => []), tb k (fun _ => []), (k : Int))) (nN p) (fun k s hk hs => ?_) (fun s hs => ?_) rfl).some_of
 ·subst hs
  show Ok (storage_New_l1b p _ _ _ k) _
  unfold storage_New_l1b
  rw [hp, if_pos (by simp; omega)]
  rw [ap_some (by simp; omega), Option.bind_some, ap_some (by simp; omega), Option.bind_some, ap_some (by simp; omega), Option.bind_some]
  refine .ret ?_
  show _ = _
  rw [w64_succ (by omega), tb_succ, tb_succ, tb_succ]
 ·subst hs
  show Ok (storage_New_l1b p _ _ _ _) _
  unfold storage_New_l1b
  rw [hp, if_neg (by simp)]
  exact .map (.ret rfl)
end Go.Vm.K17.M
