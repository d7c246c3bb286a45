/-
 What a search marks: what can be reached.
-/
import Derived.Test.YtbmkccjfldmgiaaEP21ya
set_option linter.unusedSimpArgs false
set_option linter.unusedVariables false
namespace Go.Vm.GA21
open Go
def rowK (n : Nat) (R : Nat → List Bool) (i : Nat) (h : Nat → Bool) (a : Nat) : List Bool := if a = i then tb n h else R a
theorem rowK_at {n : Nat} {R : Nat → List Bool} {i : Nat} {h : Nat → Bool} : rowK n R i h i = tb n h := if_pos rfl
theorem rowK_set {n : Nat} {R : Nat → List Bool} {i : Nat} {h h' : Nat → Bool} : (tb n (rowK n R i h)).set i (tb n h') = tb n (rowK n R i h') := by
 rw [tb_set]
 apply tb_ext
 intro a ha
 unfold rowK
 by_cases hx : a = i
 ·rw [if_pos hx, if_pos hx]
 ·rw [if_neg hx, if_neg hx, if_neg hx]
def unm (n : Nat) (h : Nat → Bool) : Nat := (tb n h).countP (fun b => !b)
theorem unm_le {n : Nat} {h : Nat → Bool} : unm n h ≤ n := by
 unfold unm
 have := List.countP_le_length (p := fun b => !b) (l := tb n h)
 rw [tb_len] at this
 exact this
theorem unm_mark {h : Nat → Bool} {k : Nat} (hk : h k = false) : ∀ {n : Nat}, k < n → unm n (fun j => if j = k then true else h j) + 1 = unm n h
 | n + 1, hn => by
  unfold unm
  rw [tb_succ, tb_succ, List.countP_append, List.countP_append]
  by_cases h1 : n = k
  ·subst h1
   have e : tb n (fun j => if j = n then true else h j) = tb n h := tb_ext fun j hj => by rw [if_neg (by omega)]
   rw [e, if_pos rfl, hk]
   simp
  ·have ih := unm_mark hk (n := n) (by omega)
   unfold unm at ih
   rw [if_neg h1]
   omega
section
variable {n : Nat} {G : Nat → Nat → Bool}
structure BI (n : Nat) (G : Nat → Nat → Bool) (i : Nat) (h : Nat → Bool) (q : List Nat) : Prop where
 snd : ∀ k, k < n → h k = true → Rch (Ed n G) i k
 que : ∀ v ∈ q, v < n ∧ (v = i ∨ h v = true)
 clo : ∀ v, v < n → (v = i ∨ h v = true) → v ∈ q ∨ ∀ k, k < n → G v k = true → h k = true
 cnt : unm n h + q.length ≤ n + 1
structure CI (n : Nat) (G : Nat → Nat → Bool) (i v k M : Nat) (h : Nat → Bool) (q : List Nat) : Prop where
 snd : ∀ k, k < n → h k = true → Rch (Ed n G) i k
 que : ∀ u ∈ q, u < n ∧ (u = i ∨ h u = true)
 clo : ∀ u, u < n → (u = i ∨ h u = true) → u = v ∨ u ∈ q ∨ ∀ k, k < n → G u k = true → h k = true
 cnt : unm n h + q.length = M
 don : ∀ b, b < k → G v b = true → h b = true
theorem CI.mark {i v k M : Nat} {h : Nat → Bool} {q : List Nat} (c : CI n G i v k M h q) (hi : i < n) (hv : v < n) (hvi : v = i ∨ Rch (Ed n G) i v) (hk : k < n) (hg : G v k = true) (hh : h k = false) : CI n G i v (k + 1) M (fun j => if j = k then true else h j) (q ++ [k]) := by
 have up : ∀ b, h b = true → (if b = k then true else h b) = true := fun b hb => by
  split
  ·rfl
  ·exact hb
 refine ⟨fun b hb h1 => ?_, fun u hu => ?_, fun u hu h1 => ?_, ?_, fun b hb hgb => ?_⟩
 ·by_cases hbk : b = k
  ·subst hbk
   rcases hvi with e | e
   ·subst e; exact .one ⟨hv, hk, hg⟩
   ·exact e.snoc ⟨hv, hk, hg⟩
  ·simp only [hbk, if_false] at h1; exact c.snd b hb h1
 ·rcases List.mem_append.1 hu with hu | hu
  ·have := c.que u hu
   exact ⟨this.1, this.2.imp id (up u)⟩
  ·rcases List.mem_singleton.1 hu with rfl
   exact ⟨hk, .inr (if_pos rfl)⟩
 ·by_cases huk : u = k
  ·subst huk; exact .inr (.inl (by simp))
  ·simp only [huk, if_false] at h1
   rcases c.clo u hu h1 with e | e | e
   ·exact .inl e
   ·exact .inr (.inl (List.mem_append_left _ e))
   ·exact .inr (.inr fun b hb hgb => up b (e b hb hgb))
 ·have := unm_mark hh hk
  have := c.cnt
  rw [List.length_append, List.length_singleton]
  omega
 ·by_cases hbk : b = k
  ·simp [hbk]
  ·exact up b (c.don b (by omega) hgb)
theorem search_is (hn : n ≤ 1000) (R : Nat → List Bool) (i : Nat) (hi : i < n) : Ok (order_graph_closed_l2 (t2 n n G) i (tb n (rowK n R i (fun _ => false))) [(i : Int)]) (fun r => ∃ h, r = .inl (tb n (rowK n R i h), w64 ((i : Int) + 1)) ∧ ∀ k, k < n → (h k = true ↔ Rch (Ed n G) i k)) := by
 unfold order_graph_closed_l2
 refine Ok.loopM (B := fun s => order_graph_closed_l2b (t2 n n G) i s.1 s.2) (fun s => ∃ h q, s.1 = tb n (rowK n R i h) ∧ s.2 = q.map (fun (v : Nat) => (v : Int)) ∧ BI n G i h q) (fun s => (s.1.getD i []).countP (fun b => !b) + s.2.length) (fun s hs => ?_) ⟨fun _ => false, [i], rfl, rfl, ⟨(fun _ _ h => by cases h), fun v hv => ⟨by rcases List.mem_singleton.1 hv with rfl; exact hi, .inl (by simpa using hv)⟩, fun v hv h1 => .inl (by rcases h1 with rfl | h1; exact List.mem_singleton.2 rfl; cases h1), by have := unm_le (n := n) (h := fun _ => false); simp; omega⟩⟩
 obtain ⟨xs, ql⟩ := s
 obtain ⟨h, q, h1, h2, hB⟩ := hs
 simp only at h1 h2
 subst h1 h2
 show Ok (order_graph_closed_l2b (t2 n n G) i (tb n (rowK n R i h)) _) _
 unfold order_graph_closed_l2b
 cases q with
 | nil =>
  rw [if_neg (by simp)]
  refine .map (.ret ⟨h, rfl, fun k hk => ⟨hB.snd k hk, fun hr => ?_⟩⟩)
  have hcl : ∀ u w, Ed n G u w → (u = i ∨ h u = true) → h w = true := fun u w he hu => by
   rcases hB.clo u he.1 hu with h3 | h3
   ·cases h3
   ·exact h3 w he.2.1 he.2.2
  cases hr with
  | one he => exact hcl _ _ he (.inl rfl)
  | cons he hr => exact hr.keep (p := fun x => h x = true) (fun a b hab ha => hcl a b hab (.inr ha)) (hcl _ _ he (.inl rfl))
 | cons v q =>
  have hv := hB.que v (by simp)
  have hvi : v = i ∨ Rch (Ed n G) i v := hv.2.imp id (hB.snd v hv.1)
  rw [List.map_cons, if_pos (by simp), show ix ((v : Int) :: q.map (fun (v : Nat) => (v : Int))) 0 = some (v : Int) from rfl]
  simp only [Option.bind_some]
  rw [ix_tb hv.1]
  simp only [Option.bind_some]
  unfold order_graph_closed_l3
  have hcnt := hB.cnt
  rw [List.length_cons] at hcnt
  refine Ok.loop (B := fun s => order_graph_closed_l3b (t2 n n G) i v (tb n (G v)) s.1 s.2.1 s.2.2) (fun k s => s.2.2 = (k : Int) ∧ ∃ h' q', s.1 = tb n (rowK n R i h') ∧ s.2.1 = (v :: q').map (fun (v : Nat) => (v : Int)) ∧ CI n G i v k (unm n h + q.length) h' q') n (fun k s hk hs => ?_) (fun s hs => ?_) ⟨rfl, h, q, rfl, rfl, ⟨hB.snd, fun u hu => hB.que u (List.mem_cons_of_mem _ hu), fun u hu h1 => by rcases hB.clo u hu h1 with h3 | h3; exact (List.mem_cons.1 h3).imp id .inl; exact .inr (.inr h3), rfl, fun b hb => by omega⟩⟩
  ·obtain ⟨xs, ql, k'⟩ := s
   obtain ⟨h1, h', q', h2, h3, hC⟩ := hs
   simp only at h1 h2 h3
   subst h1 h2 h3
   have hcn := hC.cnt
   show Ok (order_graph_closed_l3b (t2 n n G) i v (tb n (G v)) (tb n (rowK n R i h')) _ k) _
   unfold order_graph_closed_l3b order_graph_closed_k1
   rw [if_pos (decide_eq_true (by rw [tb_len]; omega)), ix_tb hv.1]
   simp only [Option.bind_some, ix_tb hk]
   have gone : (G v k = true → h' k = true) → Ok (some (Sum.inl (tb n (rowK n R i h'), (v :: q').map (fun (v : Nat) => (v : Int)), w64 ((k : Int) + 1))) : Option ((List (List Bool) × List Int × Int) ⊕ (List (List Bool) × List Int) ⊕ (List (List Bool) × Int) ⊕ List (List Bool)))
     (Sum.elim (fun s => s.2.2 = ((k + 1 : Nat) : Int) ∧ ∃ h' q', s.1 = tb n (rowK n R i h') ∧ s.2.1 = (v :: q').map (fun (v : Nat) => (v : Int)) ∧ CI n G i v (k + 1) (unm n h + q.length) h' q')
      (Sum.elim (fun s' => (∃ h q, s'.1 = tb n (rowK n R i h) ∧ s'.2 = q.map (fun (v : Nat) => (v : Int)) ∧ BI n G i h q) ∧ (s'.1.getD i []).countP (fun b => !b) + s'.2.length < ((tb n (rowK n R i h)).getD i []).countP (fun b => !b) + ((v : Int) :: q.map (fun (v : Nat) => (v : Int))).length)
       (fun r => ∃ h, r = .inl (tb n (rowK n R i h), w64 ((i : Int) + 1)) ∧ ∀ k, k < n → (h k = true ↔ Rch (Ed n G) i k)))) := by
    intro hd
    refine .ret ⟨w64_succ (by omega), h', q', rfl, rfl, ⟨hC.snd, hC.que, hC.clo, hC.cnt, fun b hb hgb => ?_⟩⟩
    by_cases hbk : b = k
    ·subst hbk; exact hd hgb
    ·exact hC.don b (by omega) hgb
   cases hG : G v k with
   | false => exact gone (by rw [hG]; intro h; cases h)
   | true =>
    simp only [if_true, ix_tb hi, Option.bind_some, rowK_at, ix_tb hk]
    cases hh : h' k with
    | true => exact gone (fun _ => hh)
    | false =>
     simp only [Bool.not_false, if_true, Option.bind_some]
     have hq : ((v :: q').map (fun (v : Nat) => (v : Int))).length + [(k : Int)].length ≤ 16777216 := by simp; omega
     rw [ap_some hq]
     simp only [Option.bind_some, Int.toNat_natCast]
     rw [show (tb n h').set k true = tb n (fun j => if j = k then true else h' j) from tb_set, rowK_set]
     refine .ret ⟨w64_succ (by omega), _, q' ++ [k], rfl, by simp, hC.mark hi hv.1 hvi hk hG hh⟩
  ·obtain ⟨xs, ql, k'⟩ := s
   obtain ⟨h1, h', q', h2, h3, hC⟩ := hs
   simp only at h1 h2 h3
   subst h1 h2 h3
   have hcn := hC.cnt
   show Ok (order_graph_closed_l3b (t2 n n G) i v (tb n (G v)) (tb n (rowK n R i h')) _ n) _
   unfold order_graph_closed_l3b
   rw [if_neg (by rw [tb_len]; simp), List.map_cons, cutL_tail]
   refine .map (.ret ⟨⟨h', q', rfl, rfl, ⟨hC.snd, hC.que, fun u hu h1 => ?_, by omega⟩⟩, ?_⟩)
   ·rcases hC.clo u hu h1 with e | e | e
    ·subst e; exact .inr hC.don
    ·exact .inl e
    ·exact .inr e
   ·show ((tb n (rowK n R i h')).getD i []).countP (fun b => !b) + (q'.map (fun (v : Nat) => (v : Int))).length < ((tb n (rowK n R i h)).getD i []).countP (fun b => !b) + ((v : Int) :: q.map (fun (v : Nat) => (v : Int))).length
    rw [tb_getD hi, tb_getD hi, rowK_at, rowK_at, List.length_map, List.length_cons, List.length_map]
    have : (tb n h').countP (fun b => !b) + q'.length = (tb n h).countP (fun b => !b) + q.length := hcn
    omega
theorem closed_is (hn : n ≤ 1000) (G : Nat → Nat → Bool) : Ok (order_graph_closed (t2 n n G)) (fun r => ∃ G', r = t2 n n G' ∧ ∀ i j, i < n → j < n → (G' i j = true ↔ Rch (Ed n G) i j)) := by
 unfold order_graph_closed order_graph_closed_l1
 rw [tb_len, mk_tb (by omega)]
 simp only [Option.bind_some]
 refine Ok.loop (B := fun s => order_graph_closed_l1b (t2 n n G) s.1 s.2) (fun i s => s.2 = (i : Int) ∧ ∃ G', s.1 = tb n (fun a => if a < i then tb n (G' a) else []) ∧ ∀ a j, a < i → j < n → (G' a j = true ↔ Rch (Ed n G) a j)) n (fun i s hi hs => ?_) (fun s hs => ?_) ⟨rfl, fun _ _ => false, tb_ext fun a ha => by rw [if_neg (by omega)], fun a j h => by omega⟩
 ·obtain ⟨xs, i'⟩ := s
  obtain ⟨h1, G', h2, hG⟩ := hs
  simp only at h1 h2
  subst h1 h2
  show Ok (order_graph_closed_l1b (t2 n n G) _ i) _
  unfold order_graph_closed_l1b
  rw [tb_len, if_pos (decide_eq_true (by omega)), mk_tb (by omega)]
  simp only [Option.bind_some, ix_tb hi, Int.toNat_natCast]
  have e : (tb n (fun a => if a < i then tb n (G' a) else [])).set i (tb n (fun _ => false)) = tb n (rowK n (fun a => if a < i then tb n (G' a) else []) i (fun _ => false)) := by
   rw [tb_set]
   rfl
  rw [e]
  refine (search_is hn _ i hi).mono fun r hr => ?_
  obtain ⟨h, rfl, hh⟩ := hr
  refine ⟨w64_succ (by omega), fun a => if a = i then h else G' a, tb_ext fun a ha => ?_, fun a j ha hj => ?_⟩
  ·unfold rowK
   show (if a = i then tb n h else if a < i then tb n (G' a) else []) = if a < i + 1 then tb n (if a = i then h else G' a) else []
   by_cases hai : a = i
   ·rw [if_pos hai, if_pos (by omega), if_pos hai]
   ·rw [if_neg hai, if_neg hai]
    by_cases h3 : a < i
    ·rw [if_pos h3, if_pos (by omega)]
    ·rw [if_neg h3, if_neg (by omega)]
  ·by_cases hai : a = i
   ·subst hai; simp only [if_true]; exact hh j hj
   ·simp only [hai, if_false]; exact hG a j (by omega) hj
 ·obtain ⟨xs, i'⟩ := s
  obtain ⟨h1, G', h2, hG⟩ := hs
  simp only at h1 h2
  subst h1 h2
  show Ok (order_graph_closed_l1b (t2 n n G) _ n) _
  unfold order_graph_closed_l1b
  rw [tb_len, if_neg (by simp)]
  exact .map (.ret ⟨G', tb_ext fun a ha => by rw [if_pos ha], hG⟩)
end
end Go.Vm.GA21
