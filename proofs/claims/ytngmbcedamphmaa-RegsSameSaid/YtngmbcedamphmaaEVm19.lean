/-
  Part of an evaluator for the model, proved sound: no condition.
-/
import Derived.Test.YtngmbcedamphmaaEVm22
import Derived.Below
import Derived.ChangeReads
set_option linter.unusedSimpArgs false
set_option linter.unusedVariables false
namespace Go.Vm
open Go Go.RowKit
noncomputable def idI (w : World) : Inj := fun b => if b < w.heap.size then some ⟨b, 0, 0, match w.heap[b]? with | some (.cells c _ _) => c.size | _ => 0⟩ else none
def aV : Value → Value
 | .slice (some _) 0 0 => .slice (some ⟨0, 0, none⟩) 0 0
 | v => v
def aA : Value → Value
 | .agg xs => .agg (xs.map aV)
 | v => aV v
def Good (w : World) (v : Value) : Prop := VR w.heap.size (idI w) (aV v) v
open Classical in
noncomputable def goodV (w : World) (v : Value) : Value := if Good w v then aV v else topV
noncomputable def H0of (w : World) : AH := { get := fun b => match w.heap[b]? with | some (.cells c _ _) => some (.cells 0 (c.toList.map (goodV w))) | _ => none, next := w.heap.size, lo := w.heap.size }
noncomputable def V0of (w : World) : Vw := ⟨fun b => b < w.heap.size, H0of w, fun b h => h, Nat.le_refl _⟩
theorem R.start (w : World) : R (idI w) (H0of w) w := by
 refine ⟨fun b l o hb hg => ?_, fun b b' l l' hb hb' _ _ he => ?_, fun b l hb => ?_, fun b hb => ?_⟩
 ·unfold idI at hb
  split at hb
  ·rename_i hlt
   cases hb
   unfold H0of at hg
   simp only at hg
   split at hg
   ·rename_i c elem frz hc
    cases hg
    refine ⟨c, elem, frz, hc, by simp [hc], rfl, by simp, fun o v ho => ?_, fun hlo => by simp [H0of] at hlo; omega⟩
    rw [List.getElem?_map] at ho
    rw [Nat.zero_add]
    cases hco : c.toList[o]? with
    | none => rw [hco] at ho; cases ho
    | some u =>
     rw [hco] at ho
     simp at ho
     subst ho
     refine ⟨u, by simpa using hco, ?_⟩
     unfold goodV
     split
     ·assumption
     ·exact .top u
   ·cases hg
  ·cases hb
 ·unfold idI at hb hb'
  split at hb
  ·split at hb'
   ·cases hb; cases hb'; exact he
   ·cases hb'
  ·cases hb
 ·unfold idI at hb
  split at hb
  ·cases hb; rename_i h; exact ⟨h, h⟩
  ·cases hb
 ·have hb : b < w.heap.size := hb
  refine ⟨_, by unfold idI; rw [if_pos hb], rfl, rfl, fun e c hg => ?_⟩
  unfold H0of at hg
  simp only at hg
  split at hg
  ·rename_i c' elem frz hc
   cases hg
   simp [hc]
  ·cases hg
theorem VR.aA {w : World} {v : Value} (h : ∀ u ∈ v.cells.toList, Good w u) : VR w.heap.size (idI w) (aA v) v := by
 have key : (∀ xs, v ≠ .agg xs) → VR w.heap.size (idI w) (Go.Vm.aA v) v := fun hn => by
  have h1 : v.cells = #[v] := by cases v <;> first | rfl | exact absurd rfl (hn _)
  have h2 : Go.Vm.aA v = aV v := by cases v <;> first | rfl | exact absurd rfl (hn _)
  rw [h2]
  exact h v (by rw [h1]; simp)
 cases v with
 | agg xs =>
  refine .agg _ _ (by simp) (fun i h1 h2 => ?_)
  rw [Array.getElem_map]
  exact h _ (by simp [Value.cells])
 | _ => exact key (fun xs e => by cases e)
theorem Good.atom {w : World} {v : Value} (h : Atom v) : Good w v := by
 unfold Good
 have : aV v = v := by cases h <;> rfl
 rw [this]
 exact VR.atom v h
theorem H0_cell {w : World} {b o : Nat} {v : Value} (h : w.cell? ⟨b, o, none⟩ = some v) (hg : Good w v) : (H0of w).cell b o = some (aV v) := by
 unfold World.cell? at h
 simp only at h
 unfold AH.cell H0of
 simp only
 split at h
 ·rename_i c e f hc
  simp at h
  rw [hc]
  simp only [List.getElem?_map, Array.getElem?_toList, h, Option.map_some]
  unfold goodV
  rw [if_pos hg]
 ·cases h
def Sure (w : World) (cs : List Value) : Prop := 0 < w.heap.size ∨ ∀ v ∈ cs, ∀ a n c, v ≠ .slice (some a) n c
theorem Sure.sub {w : World} {cs ds : List Value} (h : Sure w cs) (hs : ∀ v ∈ ds, v ∈ cs) : Sure w ds := h.imp id fun h v hv => h v (hs v hv)
def Rd (P : Program) (t : TypeId) (sz : Nat) {α : Type} (RE : Vw → List Value → α → Prop) (OK : α → Prop) : Prop :=
 ∀ (HH : Type) (enc : TypeId × Value → HH) (w : World) (fuel : Nat) (cs : List Value) (x : DataW HH × List MemPlace), Sure w cs → DataW.trod enc P w 0 (fun _ => true) true fuel t cs = some x → cs.length = sz ∧ (∀ v ∈ cs, Good w v) ∧ ∃ y, RE (V0of w) (cs.map aV) y ∧ OK y
theorem mapM_get {α β : Type} {g : α → Option β} : ∀ {l : List α} {xs : List β}, l.mapM g = some xs → xs.length = l.length ∧ ∀ (i : Nat) (a : α) (x : β), l[i]? = some a → xs[i]? = some x → g a = some x
 | [], xs, h => by cases h; exact ⟨rfl, fun i a x h => by simp at h⟩
 | a :: l, xs, h => by
  rw [List.mapM_cons] at h
  cases ha : g a with
  | none => rw [ha] at h; cases h
  | some y =>
   rw [ha] at h
   cases hl : l.mapM g with
   | none => rw [hl] at h; cases h
   | some ys =>
    rw [hl] at h
    cases h
    obtain ⟨h1, h2⟩ := mapM_get hl
    refine ⟨by simp [h1], fun i b x hb hx => ?_⟩
    cases i with
    | zero => simp at hb hx; subst hb hx; exact ha
    | succ i => exact h2 i b x (by simpa using hb) (by simpa using hx)
theorem Rd.int {P : Program} {t : TypeId} {k : IntKind} (hu : P.underlying t = some (.int k)) : Rd P t 1 (fun _ cs x => cs = [.int k x]) (fun x => (Lit.int k x).wf = true) := by
 intro HH enc w fuel cs x hsure h
 clear hsure
 cases fuel with
 | zero => cases h
 | succ fuel =>
  unfold DataW.trod at h
  rw [hu] at h
  split at h <;> rename_i h1 <;> first | cases h1 | skip
  all_goals first | (cases h; done) | skip
  split at h
  ·rename_i hk
   obtain ⟨rfl, hwf⟩ := hk
   exact ⟨rfl, fun v hv => by simp at hv; subst hv; exact Good.atom (.int _ _), _, rfl, hwf⟩
  ·cases h
theorem Rd.bool {P : Program} {t : TypeId} (hu : P.underlying t = some .bool) : Rd P t 1 (fun _ cs x => cs = [.bool x]) (fun _ => True) := by
 intro HH enc w fuel cs x hsure h
 clear hsure
 cases fuel with
 | zero => cases h
 | succ fuel =>
  unfold DataW.trod at h
  rw [hu] at h
  split at h <;> rename_i h1 <;> first | cases h1 | skip
  all_goals first | (cases h; done) | skip
  exact ⟨rfl, fun v hv => by simp at hv; subst hv; exact Good.atom (.bool _), _, rfl, trivial⟩
theorem Rd.str {P : Program} {t : TypeId} (hu : P.underlying t = some .string) : Rd P t 1 (fun _ cs x => cs = [.string x]) (fun x => x.size ≤ 9223372036854775807) := by
 intro HH enc w fuel cs x hsure h
 clear hsure
 cases fuel with
 | zero => cases h
 | succ fuel =>
  unfold DataW.trod at h
  rw [hu] at h
  split at h <;> rename_i h1 <;> first | cases h1 | skip
  all_goals first | (cases h; done) | skip
  split at h
  ·rename_i hk
   exact ⟨rfl, fun v hv => by simp at hv; subst hv; exact Good.atom (.string _), _, rfl, hk⟩
  ·cases h
theorem Addr.add_blk (a : Addr) (n : Nat) : (a.add n).block = a.block := by unfold Addr.add; split <;> rfl
theorem Addr.add_off' (a : Addr) (n : Nat) : (a.add n).off = a.off + n := by unfold Addr.add; split <;> simp_all
theorem cell_add {w : World} {a : Addr} {j : Nat} {v : Value} (h : w.cell? (a.add j) = some v) : w.cell? ⟨a.block, a.off + j, none⟩ = some v ∧ a.block < w.heap.size ∧ (j = 0 → a.spot = none) := by
 unfold World.cell? at h
 rw [Addr.add_blk, Addr.add_off'] at h
 split at h
 ·rename_i hc
  split at h
  ·cases h
  ·rename_i hs
   refine ⟨?_, (Array.getElem?_eq_some_iff.1 hc).1, fun h0 => ?_⟩
   ·unfold World.cell?
    simp only [hc]
    exact h
   ·subst h0
    simpa [Addr.add] using hs
 ·cases h
theorem cells_get {w : World} {a : Addr} {n : Nat} {cs : List Value} (h : w.cells? 0 a n = some cs) : cs.length = n ∧ (n ≠ 0 → a.spot = none ∧ a.block < w.heap.size) ∧ ∀ (j : Nat) (v : Value), cs[j]? = some v → w.cell? ⟨a.block, a.off + j, none⟩ = some v := by
 unfold World.cells? at h
 rw [if_pos (Nat.zero_le _)] at h
 obtain ⟨h1, h2⟩ := mapM_get h
 rw [List.length_range] at h1
 have key : ∀ (j : Nat) (v : Value), cs[j]? = some v → w.cell? ⟨a.block, a.off + j, none⟩ = some v ∧ a.block < w.heap.size ∧ (j = 0 → a.spot = none) := by
  intro j v hj
  have hlt : j < n := by rw [← h1]; exact (List.getElem?_eq_some_iff.1 hj).1
  exact cell_add (h2 j j v (by simp [hlt]) hj)
 refine ⟨h1, fun hn => ?_, fun j v hj => (key j v hj).1⟩
 have hlt : 0 < cs.length := by omega
 have := key 0 _ (List.getElem?_eq_getElem hlt)
 exact ⟨this.2.2 rfl, this.2.1⟩
theorem Rd.slice {P : Program} {t e : TypeId} {sz : Nat} {α : Type} {RE : Vw → List Value → α → Prop} {OK : α → Prop} (hu : P.underlying t = some (.slice e)) (hs : P.cellsOf e = sz) (hs0 : (sz == 0) = false) (he : Rd P e sz RE OK) :
  Rd P t 1 (fun H cs xs => ∃ v, cs = [v] ∧ Sl sz RE H v xs) (fun xs => ∀ x ∈ xs, OK x) := by
 intro HH enc w fuel cs x hsure h
 cases fuel with
 | zero => cases h
 | succ fuel =>
  unfold DataW.trod at h
  rw [hu] at h
  split at h <;> rename_i h1 <;> first | cases h1 | skip
  all_goals first | (cases h; done) | skip
  ·exact ⟨rfl, fun v hv => by simp at hv; subst hv; exact Good.atom .nilSlice, [], ⟨_, rfl, .inl ⟨rfl, rfl⟩⟩, fun x hx => by cases hx⟩
  ·rename_i a len cap
   simp only at h
   split at h
   ·rename_i hc
    obtain ⟨_, hle, hmax⟩ := hc
    obtain ⟨elems, h2, h3⟩ := Option.bind_eq_some_iff.1 h
    simp only [if_true] at h3
    obtain ⟨rest, h4, h5⟩ := Option.map_eq_some_iff.1 h3
    rw [hs] at h2 h4
    obtain ⟨hl, hg⟩ := mapM_get h2
    obtain ⟨hl2, hg2⟩ := mapM_get h4
    have hpos : 0 < w.heap.size := by
     rcases hsure with h | h
     ·exact h
     ·exact absurd rfl (h (.slice (some a) len cap) (by simp) a len cap)
    -- each element's cells
    have key : ∀ k, k < len → ∃ cs : List Value, w.cells? 0 (a.add (k * sz)) sz = some cs ∧ (∀ v ∈ cs, Good w v) ∧ ∃ y, RE (V0of w) (cs.map aV) y ∧ OK y := by
     intro k hk
     have hk' : k < elems.length := by rw [hl]; simpa using hk
     have := hg k k _ (by simp [hk]) (List.getElem?_eq_getElem hk')
     obtain ⟨cs, h6, h7⟩ := Option.bind_eq_some_iff.1 this
     obtain ⟨h8, h9, h10⟩ := he HH enc w fuel cs _ (.inl hpos) h7
     exact ⟨cs, h6, h9, h10⟩
    have hany : cap ≠ 0 → a.spot = none ∧ a.block < w.heap.size := by
     intro h0
     have hsz : sz ≠ 0 := by simpa using hs0
     by_cases hlen : len = 0
     ·have hk' : 0 < rest.length := by rw [hl2]; simp; omega
      have := hg2 0 0 _ (List.getElem?_range (by omega)) (List.getElem?_eq_getElem hk')
      obtain ⟨cs, h6, h7⟩ := Option.bind_eq_some_iff.1 this
      have := (cells_get h6).2.1 hsz
      rw [hlen, Nat.zero_add, Nat.zero_mul] at this
      simpa [Addr.add] using this
     ·obtain ⟨cs, h6, _⟩ := key 0 (by omega)
      have := (cells_get h6).2.1 hsz
      rw [Nat.zero_mul] at this
      simpa [Addr.add] using this
    by_cases h0 : cap = 0
    ·have : len = 0 := by omega
     subst h0 this
     refine ⟨rfl, fun v hv => ?_, [], ⟨_, rfl, .inr ⟨0, 0, 0, rfl, ⟨hpos, by simp⟩, fun i x hx => by simp at hx⟩⟩, fun x hx => by cases hx⟩
     simp at hv
     subst hv
     unfold Good aV
     exact .slice 0 0 0 0 ⟨0, 0, 0, _⟩ a 0 (by unfold idI; rw [if_pos hpos]) (Nat.le_refl _) (fun h => absurd rfl h) (fun h => by omega)
    ·obtain ⟨hsp, hb⟩ := hany h0
     have hav : aV (.slice (some a) len cap) = .slice (some ⟨a.block, a.off, none⟩) len cap := by
      unfold aV
      split
      ·rename_i heq; injection heq with h1 h2 h3; exact absurd h3 h0
      ·cases a; simp at hsp; simp [hsp]
     have hgood : Good w (.slice (some a) len cap) := by
      unfold Good
      rw [hav]
      refine .slice a.block a.off len cap ⟨a.block, 0, 0, _⟩ a cap (by unfold idI; rw [if_pos hb]) hle (fun _ => ?_) (fun h => by omega)
      cases a
      simp at hsp
      simp [hsp]
     -- the list
     have hlist : ∀ n, n ≤ len → ∃ ys : List α, ys.length = n ∧ (∀ y ∈ ys, OK y) ∧ ∀ (k : Nat) (y : α), ys[k]? = some y → ∃ cs : List Value, cs.length = sz ∧ RE (V0of w) cs y ∧ ∀ (j : Nat) (u : Value), cs[j]? = some u → (H0of w).cell a.block (a.off + k * sz + j) = some u := by
      intro n
      induction n with
      | zero => exact fun _ => ⟨[], rfl, (fun y hy => nomatch hy), (fun k y hy => by simp at hy)⟩
      | succ n ih =>
       intro hn
       obtain ⟨ys, h6, h7, h8⟩ := ih (by omega)
       obtain ⟨cs, h9, h10, y, h11, h12⟩ := key n (by omega)
       obtain ⟨h13, _, h14⟩ := cells_get h9
       refine ⟨ys ++ [y], by simp [h6], fun z hz => ?_, fun k z hz => ?_⟩
       ·rcases List.mem_append.1 hz with hz | hz
        ·exact h7 z hz
        ·simp at hz; subst hz; exact h12
       ·by_cases hk : k < ys.length
        ·rw [List.getElem?_append_left hk] at hz
         exact h8 k z hz
        ·rw [List.getElem?_append_right (by omega)] at hz
         have hk' : k = n := by
          have := (List.getElem?_eq_some_iff.1 hz).1
          simp at this; omega
         subst hk'
         rw [h6, Nat.sub_self] at hz
         simp at hz
         subst hz
         refine ⟨cs.map aV, by simp [h13], h11, fun j u hu => ?_⟩
         rw [List.getElem?_map] at hu
         cases hcj : cs[j]? with
         | none => rw [hcj] at hu; cases hu
         | some v =>
          rw [hcj] at hu
          simp at hu
          subst hu
          have := h14 j v hcj
          rw [Addr.add_blk, Addr.add_off'] at this
          exact H0_cell this (h10 v (List.mem_of_getElem? hcj))
     obtain ⟨ys, h6, h7, h8⟩ := hlist len (Nat.le_refl _)
     refine ⟨rfl, fun v hv => ?_, ys, ⟨_, rfl, .inr ⟨a.block, a.off, cap, by rw [hav, h6], ⟨hb, by have : maxLen = 9223372036854775807 := rfl; omega⟩, h8⟩⟩, h7⟩
     simp at hv
     subst hv
     exact hgood
   ·cases h
end Go.Vm
