/-
 What leads to what: the graphs' functions, as plain facts.
-/
import Derived.Test.YtbmkccjfldmgiaaEPl3
import Derived.Test.YtbmkccjfldmgiaaEOGA21
set_option linter.unusedSimpArgs false
set_option linter.unusedVariables false
namespace Go.Vm.GA21
open Go
abbrev VA := List (List Bool) × Int × List Int
noncomputable abbrev vF : (VA → Option (Bool × List Int)) → VA → Option (Bool × List Int) := fun rec_ a => order_graph_visit_F (fun p0 p1 p2 => rec_ (p0, p1, p2)) a.1 a.2.1 a.2.2
theorem visit_mo : Mo vF := by
 intro f g hfg a
 show Lo (order_graph_visit_F (fun p0 p1 p2 => f (p0, p1, p2)) a.1 a.2.1 a.2.2) (order_graph_visit_F (fun p0 p1 p2 => g (p0, p1, p2)) a.1 a.2.1 a.2.2)
 unfold order_graph_visit_F order_graph_visit_l1
 refine .bindK fun x => .bindK fun x => .loop (fun s => ?_) _
 unfold order_graph_visit_l1b
 refine .ite (.bindK fun x => .bindK fun x => .bind (.ite (.bindK fun x => .bind (.ite (.refl _) (.bindK fun x => .bind (.ite (.bind (fun r h => hfg _ r h) fun _ => .refl _) (.refl _)) fun _ => .refl _)) fun _ => .refl _) (.refl _)) fun _ => .refl _) (.refl _)
section
variable {n : Nat} {G : Nat → Nat → Bool}
structure Inv (n : Nat) (G : Nat → Nat → Bool) (c : Nat → Int) : Prop where
 col : ∀ k, k < n → c k = 0 ∨ c k = 1 ∨ c k = 2
 clo : ∀ a b, Ed n G a b → c a = 2 → c b = 2
 acy : ∀ a, a < n → c a = 2 → ¬ Rch (Ed n G) a a
def wh (n : Nat) (c : Nat → Int) : Nat := (List.range n).countP (fun k => c k == 0)
theorem wh_le {c c' : Nat → Int} (h : ∀ k, k < n → c' k = 0 → c k = 0) : wh n c' ≤ wh n c := by
 unfold wh
 refine List.countP_mono_left fun x hx h2 => ?_
 have hx : x < n := by simpa using hx
 simpa using h x hx (by simpa using h2)
theorem wh_lt {c c' : Nat → Int} (h : ∀ k, k < n → c' k = 0 → c k = 0) {i : Nat} (hi : i < n) (h1 : c i = 0) (h2 : c' i ≠ 0) : wh n c' < wh n c := by
 unfold wh
 refine countP_strict _ (fun x hx h2 => ?_) ⟨i, by simpa using hi, by simpa using h1, by simpa using h2⟩
 have hx : x < n := by simpa using hx
 simpa using h x hx (by simpa using h2)
structure Pre (n : Nat) (G : Nat → Nat → Bool) (c : Nat → Int) (i : Nat) : Prop where
 inv : Inv n G c
 lt : i < n
 wt : c i = 0
 gr : ∀ a, a < n → c a = 1 → Rch (Ed n G) a i
def Post (n : Nat) (G : Nat → Nat → Bool) (c : Nat → Int) (i : Nat) (r : Bool × List Int) : Prop :=
 (r.1 = true ∧ ∃ a, Rch (Ed n G) a a) ∨ (r.1 = false ∧ ∃ c', r.2 = tb n c' ∧ Inv n G c' ∧ c' i = 2 ∧ (∀ a, a < n → c a ≠ 0 → c' a = c a) ∧ ∀ a, a < n → c' a = 1 → c a = 1)
theorem visit_it (hn : n ≤ 1000) : ∀ (m : Nat) (c : Nat → Int) (i : Nat), Pre n G c i → wh n c ≤ m → Ok (itF vF m (t2 n n G, (i : Int), tb n c)) (Post n G c i) := by
 intro m
 induction m with
 | zero =>
  intro c i h hm
  have := wh_lt (c := c) (c' := fun k => if k = i then 1 else c k) (fun k _ h9 => by
   by_cases hk : k = i
   ·subst hk; exact h.wt
   ·simpa [hk] using h9) h.lt h.wt (by simp)
  omega
 | succ m ih =>
  intro c i h hm
  have hi := h.lt
  show Ok (order_graph_visit_F (fun p0 p1 p2 => itF vF m (p0, p1, p2)) (t2 n n G) i (tb n c)) _
  unfold order_graph_visit_F order_graph_visit_l1
  rw [ix_tb hi, ix_tb hi]
  simp only [Option.bind_some, Int.toNat_natCast, tb_set]
  generalize hc1 : (fun j => if j = i then (1 : Int) else c j) = c1
  have hc1i : c1 i = 1 := by rw [← hc1]; simp
  have hc1o : ∀ j, j ≠ i → c1 j = c j := fun j hj => by rw [← hc1]; simp [hj]
  have hw1 : wh n c1 ≤ m := by
   have := wh_lt (n := n) (c := c) (c' := c1) (fun k _ h2 => by
    by_cases hk : k = i
    ·subst hk; exact h.wt
    ·rw [← hc1o k hk]; exact h2) hi h.wt (by rw [hc1i]; decide)
   omega
  refine Ok.loop (B := fun s => order_graph_visit_l1b (fun p0 p1 p2 => itF vF m (p0, p1, p2)) (t2 n n G) i (tb n (G i)) s.1 s.2) (fun k s => s.2 = (k : Int) ∧ ∃ c2, s.1 = tb n c2 ∧ Inv n G c2 ∧ (∀ a, a < n → c1 a ≠ 0 → c2 a = c1 a) ∧ (∀ a, a < n → c2 a = 1 → c1 a = 1) ∧ ∀ b, b < k → G i b = true → c2 b = 2) n (fun k s hk hs => ?_) (fun s hs => ?_) ⟨rfl, c1, rfl, ⟨fun k hk => ?_, fun a b hab ha => ?_, fun a ha h2 => ?_⟩, fun _ _ _ => rfl, fun _ _ h => h, fun b hb => by omega⟩
  ·obtain ⟨xs, j⟩ := s
   obtain ⟨h1, c2, h2, hI, hx, hg, hd⟩ := hs
   simp only at h1 h2
   subst h1 h2
   have hci : c2 i = 1 := by rw [hx i hi (by rw [hc1i]; decide), hc1i]
   have hw2 : wh n c2 ≤ m := by
    refine Nat.le_trans (wh_le fun k hk h0 => ?_) hw1
    by_cases h9 : c1 k = 0
    ·exact h9
    ·rw [hx k hk h9] at h0; exact h0
   show Ok (order_graph_visit_l1b _ (t2 n n G) i (tb n (G i)) (tb n c2) k) _
   unfold order_graph_visit_l1b
   rw [if_pos (decide_eq_true (by rw [tb_len]; omega)), ix_tb hi]
   simp only [Option.bind_some, ix_tb hk]
   have gone : (G i k = true → c2 k = 2) → Ok (some (Sum.inl (tb n c2, w64 ((k : Int) + 1))) : Option ((List Int × Int) ⊕ (Bool × List Int))) (Sum.elim (fun s => s.2 = ((k + 1 : Nat) : Int) ∧ ∃ c2, s.1 = tb n c2 ∧ Inv n G c2 ∧ (∀ a, a < n → c1 a ≠ 0 → c2 a = c1 a) ∧ (∀ a, a < n → c2 a = 1 → c1 a = 1) ∧ ∀ b, b < k + 1 → G i b = true → c2 b = 2) (Post n G c i)) := by
    intro hkk
    refine .ret ⟨w64_succ (by omega), c2, rfl, hI, hx, hg, fun b hb hgb => ?_⟩
    by_cases hbk : b = k
    ·subst hbk; exact hkk hgb
    ·exact hd b (by omega) hgb
   cases hG : G i k with
   | false => exact gone (by rw [hG]; intro h; cases h)
   | true =>
    simp only [if_true]
    have hik : Ed n G i k := ⟨hi, hk, hG⟩
    have ret : (∃ a, Rch (Ed n G) a a) → ∀ l, Ok ((some (true, l)).map Sum.inr : Option ((List Int × Int) ⊕ (Bool × List Int))) (Sum.elim (fun s => s.2 = ((k + 1 : Nat) : Int) ∧ ∃ c2, s.1 = tb n c2 ∧ Inv n G c2 ∧ (∀ a, a < n → c1 a ≠ 0 → c2 a = c1 a) ∧ (∀ a, a < n → c2 a = 1 → c1 a = 1) ∧ ∀ b, b < k + 1 → G i b = true → c2 b = 2) (Post n G c i)) := fun h l => .map (.ret (.inl ⟨rfl, h⟩))
    have toI : ∀ a, a < n → c2 a = 1 → a = i ∨ Rch (Ed n G) a i := by
     intro a ha h1
     by_cases hai : a = i
     ·exact .inl hai
     ·exact .inr (h.gr a ha (by rw [← hc1o a hai]; exact hg a ha h1))
    rcases hI.col k hk with h0 | h0 | h0
    ·rw [h0]
     simp only [show decide ((0 : Int) = 1) = false from rfl, show decide ((0 : Int) = 0) = true from rfl, Bool.false_eq_true, if_false, if_true, Option.bind_some]
     obtain ⟨r, hr, hp⟩ := ih c2 k ⟨hI, hk, h0, fun a ha h1 => (toI a ha h1).elim (fun e => e ▸ .one hik) (fun h => h.snoc hik)⟩ hw2
     rw [hr]
     simp only [Option.bind_some]
     rcases hp with ⟨hp, hcy⟩ | ⟨hp, c3, h3, hI3, hk3, hx3, hg3⟩
     ·rw [hp]; exact ret hcy _
     ·rw [hp, h3]
      refine .ret ⟨w64_succ (by omega), c3, rfl, hI3, fun a ha h1 => ?_, fun a ha h1 => hg a ha (hg3 a ha h1), fun b hb hgb => ?_⟩
      ·have := hx a ha h1
       rw [hx3 a ha (by rw [this]; exact h1), this]
      ·by_cases hbk : b = k
       ·subst hbk; exact hk3
       ·have := hd b (by omega) hgb
        rw [hx3 b (by omega) (by rw [this]; decide), this]
    ·rw [h0]
     simp only [show decide ((1 : Int) = 1) = true from rfl, if_true, Option.bind_some]
     exact ret ((toI k hk h0).elim (fun e => ⟨i, .one (e ▸ hik)⟩) (fun h1 => ⟨i, .cons hik h1⟩)) _
    ·rw [h0]
     simp only [show decide ((2 : Int) = 1) = false from rfl, show decide ((2 : Int) = 0) = false from rfl, Bool.false_eq_true, if_false, if_true, Option.bind_some]
     exact gone fun _ => h0
  ·obtain ⟨xs, j⟩ := s
   obtain ⟨h1, c2, h2, hI, hx, hg, hd⟩ := hs
   simp only at h1 h2
   subst h1 h2
   have hci : c2 i = 1 := by rw [hx i hi (by rw [hc1i]; decide), hc1i]
   show Ok (order_graph_visit_l1b _ (t2 n n G) i (tb n (G i)) (tb n c2) n) _
   unfold order_graph_visit_l1b
   rw [if_neg (by rw [tb_len]; simp), ix_tb hi]
   simp only [Option.bind_some, Int.toNat_natCast, tb_set]
   refine .map (.ret (.inr ⟨rfl, _, rfl, ⟨fun k hk => ?_, fun a b hab ha => ?_, fun a ha h2 hr => ?_⟩, by simp, fun a ha h0 => ?_, fun a ha h1 => ?_⟩))
   ·show (if k = i then (2 : Int) else c2 k) = 0 ∨ _
    by_cases h : k = i
    ·simp [h]
    ·simp only [h, if_false]; exact hI.col k hk
   ·show (if b = i then (2 : Int) else c2 b) = 2
    have ha : (if a = i then (2 : Int) else c2 a) = 2 := ha
    by_cases hb : b = i
    ·simp [hb]
    ·simp only [hb, if_false]
     by_cases hai : a = i
     ·subst hai; exact hd b hab.2.1 hab.2.2
     ·simp only [hai, if_false] at ha; exact hI.clo a b hab ha
   ·have h2 : (if a = i then (2 : Int) else c2 a) = 2 := h2
    by_cases hai : a = i
    ·subst hai
     have hstep : ∀ b, Ed n G a b → c2 b = 2 := fun b hb => hd b hb.2.1 hb.2.2
     have : c2 a = 2 := by
      cases hr with
      | one he => exact hstep _ he
      | cons he hr => exact hr.keep (p := fun x => c2 x = 2) (fun i j hij => hI.clo i j hij) (hstep _ he)
     rw [hci] at this; cases this
    ·simp only [hai, if_false] at h2; exact hI.acy a ha h2 hr
   ·show (if a = i then (2 : Int) else c2 a) = c a
    by_cases hai : a = i
    ·subst hai; exact absurd h.wt h0
    ·simp only [hai, if_false]
     rw [hx a ha (by rw [hc1o a hai]; exact h0), hc1o a hai]
   ·have h1 : (if a = i then (2 : Int) else c2 a) = 1 := h1
    by_cases hai : a = i
    ·subst hai; simp at h1
    ·simp only [hai, if_false] at h1
     rw [← hc1o a hai]; exact hg a ha h1
  ·by_cases hki : k = i
   ·subst hki; exact .inr (.inl hc1i)
   ·rw [hc1o k hki]; exact h.inv.col k hk
  ·have hai : a ≠ i := fun e => by subst e; rw [hc1i] at ha; cases ha
   rw [hc1o a hai] at ha
   have hb2 := h.inv.clo a b hab ha
   have hbi : b ≠ i := fun e => by subst e; rw [h.wt] at hb2; cases hb2
   rw [hc1o b hbi]; exact hb2
  ·have hai : a ≠ i := fun e => by subst e; rw [hc1i] at h2; cases h2
   rw [hc1o a hai] at h2
   exact h.inv.acy a ha h2
theorem visit_is (hn : n ≤ 1000) {c : Nat → Int} {i : Nat} (h : Pre n G c i) : Ok (order_graph_visit (t2 n n G) i (tb n c)) (Post n G c i) := by
 obtain ⟨r, h1, h2⟩ := visit_it hn (wh n c) c i h (Nat.le_refl _)
 exact ⟨r, recO_of visit_mo h1, h2⟩
theorem cyclic_is (hn : n ≤ 1000) (G : Nat → Nat → Bool) : Ok (order_graph_cyclic (t2 n n G)) (fun b => b = true ↔ ∃ i, Rch (Ed n G) i i) := by
 unfold order_graph_cyclic order_graph_cyclic_l1
 rw [tb_len, mk_tb (by omega)]
 simp only [Option.bind_some]
 refine Ok.loop (B := fun s => order_graph_cyclic_l1b (t2 n n G) s.1 s.2) (fun k s => s.2 = (k : Int) ∧ ∃ c, s.1 = tb n c ∧ Inv n G c ∧ (∀ a, a < n → c a ≠ 1) ∧ ∀ a, a < k → c a = 2) n (fun k s hk hs => ?_) (fun s hs => ?_) ⟨rfl, _, rfl, ⟨fun _ _ => .inl rfl, (fun _ _ _ h => by cases h), (fun _ _ h => by cases h)⟩, (fun _ _ h => by cases h), (fun _ h => by omega)⟩
 ·obtain ⟨xs, j⟩ := s
  obtain ⟨h1, c, h2, hI, hg, hd⟩ := hs
  simp only at h1 h2
  subst h1 h2
  show Ok (order_graph_cyclic_l1b (t2 n n G) (tb n c) k) _
  unfold order_graph_cyclic_l1b
  rw [if_pos (decide_eq_true (by rw [tb_len]; omega)), ix_tb hk]
  simp only [Option.bind_some]
  rcases hI.col k hk with h0 | h0 | h0
  ·rw [h0]
   simp only [show decide ((0 : Int) = 0) = true from rfl, if_true]
   obtain ⟨r, hr, hp⟩ := visit_is hn (G := G) (c := c) (i := k) ⟨hI, hk, h0, fun a ha h1 => absurd h1 (hg a ha)⟩
   rw [hr]
   simp only [Option.bind_some]
   rcases hp with ⟨hp, hcy⟩ | ⟨hp, c3, h3, hI3, hk3, hx3, hg3⟩
   ·rw [hp]
    exact .map (.ret ⟨fun _ => hcy, fun _ => rfl⟩)
   ·rw [hp, h3]
    refine .ret ⟨w64_succ (by omega), c3, rfl, hI3, fun a ha h1 => hg a ha (hg3 a ha h1), fun a ha => ?_⟩
    by_cases hak : a = k
    ·subst hak; exact hk3
    ·have := hd a (by omega)
     rw [hx3 a (by omega) (by rw [this]; decide), this]
  ·exact absurd h0 (hg k hk)
  ·rw [h0]
   refine .ret ⟨w64_succ (by omega), c, rfl, hI, hg, fun a ha => ?_⟩
   by_cases hak : a = k
   ·subst hak; exact h0
   ·exact hd a (by omega)
 ·obtain ⟨xs, j⟩ := s
  obtain ⟨h1, c, h2, hI, hg, hd⟩ := hs
  simp only at h1 h2
  subst h1 h2
  show Ok (order_graph_cyclic_l1b (t2 n n G) (tb n c) n) _
  unfold order_graph_cyclic_l1b
  rw [if_neg (by rw [tb_len]; simp)]
  refine .map (.ret ⟨(fun h => by cases h), fun ⟨i, hi⟩ => ?_⟩)
  have hin : i < n := by cases hi with
   | one h => exact h.1
   | cons h _ => exact h.1
  exact absurd hi (hI.acy i hin (hd i hin))
end
end Go.Vm.GA21
