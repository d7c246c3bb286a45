/-
  Part of an evaluator for the model, proved sound: no condition.
-/
import Derived.Test.YtngmbcedamphmaaESp11
import Derived.Test.YtngmbcedamphmaaESp5
import Derived.SizedLaws
set_option linter.unusedSimpArgs false
set_option linter.unusedVariables false
namespace Go.Vm
open Go Go.RowKit
def RdW (P : Program) (t : TypeId) (sz : Nat) {α : Type} (RE : Vw → List Value → α → Prop) (OK : α → Prop) : Prop :=
 ∀ (HH : Type) (enc : TypeId × Value → HH) (w : World) (fuel : Nat) (cs : List Value) (x : DataW HH × List MemPlace), Sure w cs → DataW.trod enc P w 0 (fun _ => true) true fuel t cs = some x → (∀ n ∈ x.1.weights P t, n ≤ reachBytes) → cs.length = sz ∧ (∀ v ∈ cs, Good w v) ∧ ∃ y, RE (V0of w) (cs.map aV) y ∧ OK y
theorem Rd.w {P : Program} {t : TypeId} {sz : Nat} {α : Type} {RE : Vw → List Value → α → Prop} {OK : α → Prop} (h : Rd P t sz RE OK) : RdW P t sz RE OK :=
 fun HH enc w fuel cs x h1 h2 _ => h HH enc w fuel cs x h1 h2
theorem weightsAll_mem {HH : Type} {P : Program} {e : TypeId} {d : DataW HH} : ∀ {l : List (DataW HH)}, d ∈ l → ∀ n ∈ d.weights P e, n ∈ DataW.weightsAll P e l
 | a :: l, h, n, hn => by
  unfold DataW.weightsAll
  rw [List.mem_append]
  rcases List.mem_cons.1 h with rfl | h
  ·exact .inl hn
  ·exact .inr (weightsAll_mem h n hn)
theorem RdW.slice {P : Program} {t e : TypeId} {sz : Nat} {α : Type} {RE : Vw → List Value → α → Prop} {OK : α → Prop} (hu : P.underlying t = some (.slice e)) (hs : P.cellsOf e = sz) (hs0 : (sz == 0) = false) (hb0 : 0 < P.bytesOf e) (he : RdW P e sz RE OK) :
  RdW P t 1 (fun H cs xs => ∃ v, cs = [v] ∧ Sl sz RE H v xs) (fun xs => (∀ x ∈ xs, OK x) ∧ xs.length * P.bytesOf e ≤ reachBytes) := by
 intro HH enc w fuel cs x hsure h hwt
 cases fuel with
 | zero => cases h
 | succ fuel =>
  unfold DataW.trod at h
  rw [hu] at h
  split at h <;> rename_i h1 <;> first | cases h1 | skip
  all_goals first | (cases h; done) | skip
  ·exact ⟨rfl, fun v hv => by simp at hv; subst hv; exact Good.atom .nilSlice, [], ⟨_, rfl, .inl ⟨rfl, rfl⟩⟩, (fun x hx => by cases hx), by simp⟩
  ·rename_i a len cap
   simp only at h
   split at h
   ·rename_i hc
    obtain ⟨_, hle, hmax⟩ := hc
    obtain ⟨elems, h2, h3⟩ := Option.bind_eq_some_iff.1 h
    simp only [if_true] at h3
    obtain ⟨rest, h4, h5⟩ := Option.map_eq_some_iff.1 h3
    rw [hs] at h2 h4
    obtain ⟨hl, hg⟩ := mapM_get h2
    obtain ⟨hl2, hg2⟩ := mapM_get h4
    have hpos : 0 < w.heap.size := by
     rcases hsure with h | h
     ·exact h
     ·exact absurd rfl (h (.slice (some a) len cap) (by simp) a len cap)
    have hw1 : ∀ n ∈ (DataW.slice (elems.map (·.1)) (rest.map (·.1))).weights P t, n ≤ reachBytes := by
     subst h5; exact hwt
    have hw2 : DataW.weights P t (DataW.slice (elems.map (·.1)) (rest.map (·.1))) = ((elems.map (·.1)).length + (rest.map (·.1)).length) * P.bytesOf e :: (DataW.weightsAll P e (elems.map (·.1)) ++ DataW.weightsAll P e (rest.map (·.1))) := by
     rw [DataW.weights]
     simp only [hu]
    rw [hw2] at hw1
    have hlenb : len * P.bytesOf e ≤ reachBytes := by
     have := hw1 _ (List.mem_cons_self ..)
     rw [List.length_map, List.length_map, hl, List.length_range] at this
     exact Nat.le_trans (Nat.mul_le_mul_right _ (by omega)) this
    have hlen : len ≤ reachBytes := Nat.le_trans (by have h6 : len * 1 ≤ len * P.bytesOf e := Nat.mul_le_mul_left _ hb0; omega) hlenb
    -- each element's cells
    have key : ∀ k, k < len → ∃ cs : List Value, w.cells? 0 (a.add (k * sz)) sz = some cs ∧ (∀ v ∈ cs, Good w v) ∧ ∃ y, RE (V0of w) (cs.map aV) y ∧ OK y := by
     intro k hk
     have hk' : k < elems.length := by rw [hl]; simpa using hk
     have := hg k k _ (by simp [hk]) (List.getElem?_eq_getElem hk')
     obtain ⟨cs, h6, h7⟩ := Option.bind_eq_some_iff.1 this
     obtain ⟨h8, h9, h10⟩ := he HH enc w fuel cs _ (.inl hpos) h7 (fun n hn => hw1 n (List.mem_cons_of_mem _ (List.mem_append_left _ (weightsAll_mem (List.mem_map.2 ⟨_, List.getElem_mem hk', rfl⟩) n hn))))
     exact ⟨cs, h6, h9, h10⟩
    have hany : cap ≠ 0 → a.spot = none ∧ a.block < w.heap.size := by
     intro h0
     have hsz : sz ≠ 0 := by simpa using hs0
     by_cases hlen : len = 0
     ·have hk' : 0 < rest.length := by rw [hl2]; simp; omega
      have := hg2 0 0 _ (List.getElem?_range (by omega)) (List.getElem?_eq_getElem hk')
      obtain ⟨cs, h6, h7⟩ := Option.bind_eq_some_iff.1 this
      have := (cells_get h6).2.1 hsz
      rw [hlen, Nat.zero_add, Nat.zero_mul] at this
      simpa [Addr.add] using this
     ·obtain ⟨cs, h6, _⟩ := key 0 (by omega)
      have := (cells_get h6).2.1 hsz
      rw [Nat.zero_mul] at this
      simpa [Addr.add] using this
    by_cases h0 : cap = 0
    ·have : len = 0 := by omega
     subst h0 this
     refine ⟨rfl, fun v hv => ?_, [], ⟨_, rfl, .inr ⟨0, 0, 0, rfl, ⟨hpos, by simp⟩, fun i x hx => by simp at hx⟩⟩, (fun x hx => by cases hx), by simp⟩
     simp at hv
     subst hv
     unfold Good aV
     exact .slice 0 0 0 0 ⟨0, 0, 0, _⟩ a 0 (by unfold idI; rw [if_pos hpos]) (Nat.le_refl _) (fun h => absurd rfl h) (fun h => by omega)
    ·obtain ⟨hsp, hb⟩ := hany h0
     have hav : aV (.slice (some a) len cap) = .slice (some ⟨a.block, a.off, none⟩) len cap := by
      unfold aV
      split
      ·rename_i heq; injection heq with h1 h2 h3; exact absurd h3 h0
      ·cases a; simp at hsp; simp [hsp]
     have hgood : Good w (.slice (some a) len cap) := by
      unfold Good
      rw [hav]
      refine .slice a.block a.off len cap ⟨a.block, 0, 0, _⟩ a cap (by unfold idI; rw [if_pos hb]) hle (fun _ => ?_) (fun h => by omega)
      cases a
      simp at hsp
      simp [hsp]
     -- the list
     have hlist : ∀ n, n ≤ len → ∃ ys : List α, ys.length = n ∧ (∀ y ∈ ys, OK y) ∧ ∀ (k : Nat) (y : α), ys[k]? = some y → ∃ cs : List Value, cs.length = sz ∧ RE (V0of w) cs y ∧ ∀ (j : Nat) (u : Value), cs[j]? = some u → (H0of w).cell a.block (a.off + k * sz + j) = some u := by
      intro n
      induction n with
      | zero => exact fun _ => ⟨[], rfl, (fun y hy => nomatch hy), (fun k y hy => by simp at hy)⟩
      | succ n ih =>
       intro hn
       obtain ⟨ys, h6, h7, h8⟩ := ih (by omega)
       obtain ⟨cs, h9, h10, y, h11, h12⟩ := key n (by omega)
       obtain ⟨h13, _, h14⟩ := cells_get h9
       refine ⟨ys ++ [y], by simp [h6], fun z hz => ?_, fun k z hz => ?_⟩
       ·rcases List.mem_append.1 hz with hz | hz
        ·exact h7 z hz
        ·simp at hz; subst hz; exact h12
       ·by_cases hk : k < ys.length
        ·rw [List.getElem?_append_left hk] at hz
         exact h8 k z hz
        ·rw [List.getElem?_append_right (by omega)] at hz
         have hk' : k = n := by
          have := (List.getElem?_eq_some_iff.1 hz).1
          simp at this; omega
         subst hk'
         rw [h6, Nat.sub_self] at hz
         simp at hz
         subst hz
         refine ⟨cs.map aV, by simp [h13], h11, fun j u hu => ?_⟩
         rw [List.getElem?_map] at hu
         cases hcj : cs[j]? with
         | none => rw [hcj] at hu; cases hu
         | some v =>
          rw [hcj] at hu
          simp at hu
          subst hu
          have := h14 j v hcj
          rw [Addr.add_blk, Addr.add_off'] at this
          exact H0_cell this (h10 v (List.mem_of_getElem? hcj))
     obtain ⟨ys, h6, h7, h8⟩ := hlist len (Nat.le_refl _)
     refine ⟨rfl, fun v hv => ?_, ys, ⟨_, rfl, .inr ⟨a.block, a.off, cap, by rw [hav, h6], ⟨hb, by have : maxLen = 9223372036854775807 := rfl; omega⟩, h8⟩⟩, h7, by rw [h6]; exact hlenb⟩
     simp at hv
     subst hv
     exact hgood
   ·cases h
def OKw {α : Type} (OK : α → Prop) (xs : List α) : Prop := (∀ x ∈ xs, OK x) ∧ xs.length ≤ reachBytes
theorem RdW.sl {P : Program} {t e : TypeId} {α : Type} {R : RT α} {OK : α → Prop} (hu : P.underlying t = some (.slice e)) (hs : P.cellsOf e = R.sz) (hs0 : (R.sz == 0) = false) (hb0 : 0 < P.bytesOf e) (he : RdW P e R.sz R.rel OK) : RdW P t 1 (RT.sl R).rel (OKw OK) := by
 intro HH enc w fuel cs x hsure h hwt
 obtain ⟨h1, h2, y, ⟨v, h3, h4⟩, h5, h6⟩ := RdW.slice hu hs hs0 hb0 he HH enc w fuel cs x hsure h hwt
 refine ⟨h1, h2, y, ⟨v, h3, h4, fun b o n c e => .inr ?_⟩, h5, Nat.le_trans (by have h6 : y.length * 1 ≤ y.length * P.bytesOf e := Nat.mul_le_mul_left _ hb0; omega) h6⟩
 rcases h4 with ⟨h6, _⟩ | ⟨b', o', c', h6, ⟨h7, _⟩, _⟩
 ·rw [h6] at e; cases e
 ·rw [h6] at e; cases e
  exact h7
def OKv {α : Type} (b : Nat) (OK : α → Prop) (xs : List α) : Prop := (∀ x ∈ xs, OK x) ∧ xs.length * b ≤ reachBytes
theorem RdW.slv {P : Program} {t e : TypeId} {b : Nat} {α : Type} {R : RT α} {OK : α → Prop} (hu : P.underlying t = some (.slice e)) (hs : P.cellsOf e = R.sz) (hs0 : (R.sz == 0) = false) (hb0 : 0 < P.bytesOf e) (hbb : P.bytesOf e = b) (he : RdW P e R.sz R.rel OK) : RdW P t 1 (RT.sl R).rel (OKv b OK) := by
 intro HH enc w fuel cs x hsure h hwt
 obtain ⟨h1, h2, y, ⟨v, h3, h4⟩, h5, h6⟩ := RdW.slice hu hs hs0 hb0 he HH enc w fuel cs x hsure h hwt
 refine ⟨h1, h2, y, ⟨v, h3, h4, fun b o n c e => .inr ?_⟩, h5, hbb ▸ h6⟩
 rcases h4 with ⟨h6, _⟩ | ⟨b', o', c', h6, ⟨h7, _⟩, _⟩
 ·rw [h6] at e; cases e
 ·rw [h6] at e; cases e
  exact h7
theorem sized_at {HH : Type} {P : Program} {ts : List TypeId} {ds : List (DataW HH)} (h : (DataW.weightsEach P ts ds).all (· ≤ reachBytes) = true) {j : Nat} {t : TypeId} {d : DataW HH} (ht : ts[j]? = some t) (hd : ds[j]? = some d) : ∀ n ∈ d.weights P t, n ≤ reachBytes := by
 intro n hn
 have := List.all_eq_true.1 h n (DataW.weights_mem_each ht hd n hn)
 simpa using this
theorem nr {a b : Nat} (h : Nat.ble a b = true) : a ≤ b := Nat.le_of_ble_eq_true h
end Go.Vm
