/-
  Part of an evaluator for the model, proved sound: no condition.
-/
import Derived.Test.YtlcjnalocidldaaDoorEVm21
import Derived.Below
import Derived.ChangeReads
set_option linter.unusedSimpArgs false
set_option linter.unusedVariables false
namespace Go.Vm
open Go Go.RowKit
noncomputable def idI (w : World) : Inj := fun b => if b < w.heap.size then some ⟨b, 0, 0, match w.heap[b]? with | some (.cells c _ _) => c.size | _ => 0⟩ else none
def aV : Value → Value
 | .slice (some _) 0 0 => .slice (some ⟨0, 0, none⟩) 0 0
 | v => v
def aA : Value → Value
 | .agg xs => .agg (xs.map aV)
 | v => aV v
def Good (w : World) (v : Value) : Prop := VR w.heap.size (idI w) (aV v) v
open Classical in
noncomputable def goodV (w : World) (v : Value) : Value := if Good w v then aV v else topV
noncomputable def H0of (w : World) : AH := { get := fun b => match w.heap[b]? with | some (.cells c _ _) => some (.cells 0 (c.toList.map (goodV w))) | _ => none, next := w.heap.size, lo := w.heap.size }
noncomputable def V0of (w : World) : Vw := ⟨fun b => b < w.heap.size, H0of w, fun b h => h, Nat.le_refl _⟩
theorem R.start (w : World) : R (idI w) (H0of w) w := by
 refine ⟨fun b l o hb hg => ?_, fun b b' l l' hb hb' _ _ he => ?_, fun b l hb => ?_, fun b hb => ?_⟩
 ·unfold idI at hb
  split at hb
  ·rename_i hlt
   cases hb
   unfold H0of at hg
   simp only at hg
   split at hg
   ·rename_i c elem frz hc
    cases hg
    refine ⟨c, elem, frz, hc, by simp [hc], rfl, by simp, fun o v ho => ?_, fun hlo => by simp [H0of] at hlo; omega⟩
    rw [List.getElem?_map] at ho
    rw [Nat.zero_add]
    cases hco : c.toList[o]? with
    | none => rw [hco] at ho; cases ho
    | some u =>
     rw [hco] at ho
     simp at ho
     subst ho
     refine ⟨u, by simpa using hco, ?_⟩
     unfold goodV
     split
     ·assumption
     ·exact .top u
   ·cases hg
  ·cases hb
 ·unfold idI at hb hb'
  split at hb
  ·split at hb'
   ·cases hb; cases hb'; exact he
   ·cases hb'
  ·cases hb
 ·unfold idI at hb
  split at hb
  ·cases hb; rename_i h; exact ⟨h, h⟩
  ·cases hb
 ·have hb : b < w.heap.size := hb
  refine ⟨_, by unfold idI; rw [if_pos hb], rfl, rfl, fun e c hg => ?_⟩
  unfold H0of at hg
  simp only at hg
  split at hg
  ·rename_i c' elem frz hc
   cases hg
   simp [hc]
  ·cases hg
theorem VR.aA {w : World} {v : Value} (h : ∀ u ∈ v.cells.toList, Good w u) : VR w.heap.size (idI w) (aA v) v := by
 have key : (∀ xs, v ≠ .agg xs) → VR w.heap.size (idI w) (Go.Vm.aA v) v := fun hn => by
  have h1 : v.cells = #[v] := by cases v <;> first | rfl | exact absurd rfl (hn _)
  have h2 : Go.Vm.aA v = aV v := by cases v <;> first | rfl | exact absurd rfl (hn _)
  rw [h2]
  exact h v (by rw [h1]; simp)
 cases v with
 | agg xs =>
  refine .agg _ _ (by simp) (fun i h1 h2 => ?_)
  rw [Array.getElem_map]
  exact h _ (by simp [Value.cells])
 | _ => exact key (fun xs e => by cases e)
theorem Good.atom {w : World} {v : Value} (h : Atom v) : Good w v := by
 unfold Good
 have : aV v = v := by cases h <;> rfl
 rw [this]
 exact VR.atom v h
theorem H0_cell {w : World} {b o : Nat} {v : Value} (h : w.cell? ⟨b, o, none⟩ = some v) (hg : Good w v) : (H0of w).cell b o = some (aV v) := by
 unfold World.cell? at h
 simp only at h
 unfold AH.cell H0of
 simp only
 split at h
 ·rename_i c e f hc
  simp at h
  rw [hc]
  simp only [List.getElem?_map, Array.getElem?_toList, h, Option.map_some]
  unfold goodV
  rw [if_pos hg]
 ·cases h
def Sure (w : World) (cs : List Value) : Prop := 0 < w.heap.size ∨ ∀ v ∈ cs, ∀ a n c, v ≠ .slice (some a) n c
theorem Sure.sub {w : World} {cs ds : List Value} (h : Sure w cs) (hs : ∀ v ∈ ds, v ∈ cs) : Sure w ds := h.imp id fun h v hv => h v (hs v hv)
def Rd (P : Program) (t : TypeId) (sz : Nat) {α : Type} (RE : Vw → List Value → α → Prop) (OK : α → Prop) : Prop :=
 ∀ (HH : Type) (enc : TypeId × Value → HH) (w : World) (fuel : Nat) (cs : List Value) (x : DataW HH × List MemPlace), Sure w cs → DataW.trod enc P w 0 (fun _ => true) true fuel t cs = some x → cs.length = sz ∧ (∀ v ∈ cs, Good w v) ∧ ∃ y, RE (V0of w) (cs.map aV) y ∧ OK y
theorem mapM_get {α β : Type} {g : α → Option β} : ∀ {l : List α} {xs : List β}, l.mapM g = some xs → xs.length = l.length ∧ ∀ (i : Nat) (a : α) (x : β), l[i]? = some a → xs[i]? = some x → g a = some x
 | [], xs, h => by cases h; exact ⟨rfl, fun i a x h => by simp at h⟩
 | a :: l, xs, h => by
  rw [List.mapM_cons] at h
  cases ha : g a with
  | none => rw [ha] at h; cases h
  | some y =>
   rw [ha] at h
   cases hl : l.mapM g with
   | none => rw [hl] at h; cases h
   | some ys =>
    rw [hl] at h
    cases h
    obtain ⟨h1, h2⟩ := mapM_get hl
    refine ⟨by simp [h1], fun i b x hb hx => ?_⟩
    cases i with
    | zero => simp at hb hx; subst hb hx; exact ha
    | succ i => exact h2 i b x (by simpa using hb) (by simpa using hx)
theorem Rd.int {P : Program} {t : TypeId} {k : IntKind} (hu : P.underlying t = some (.int k)) : Rd P t 1 (fun _ cs x => cs = [.int k x]) (fun x => (Lit.int k x).wf = true) := by
 intro HH enc w fuel cs x hsure h
 clear hsure
 cases fuel with
 | zero => cases h
 | succ fuel =>
  unfold DataW.trod at h
  rw [hu] at h
  split at h <;> rename_i h1 <;> first | cases h1 | skip
  all_goals first | (cases h; done) | skip
  split at h
  ·rename_i hk
   obtain ⟨rfl, hwf⟩ := hk
   exact ⟨rfl, fun v hv => by simp at hv; subst hv; exact Good.atom (.int _ _), _, rfl, hwf⟩
  ·cases h
theorem Rd.bool {P : Program} {t : TypeId} (hu : P.underlying t = some .bool) : Rd P t 1 (fun _ cs x => cs = [.bool x]) (fun _ => True) := by
 intro HH enc w fuel cs x hsure h
 clear hsure
 cases fuel with
 | zero => cases h
 | succ fuel =>
  unfold DataW.trod at h
  rw [hu] at h
  split at h <;> rename_i h1 <;> first | cases h1 | skip
  all_goals first | (cases h; done) | skip
  exact ⟨rfl, fun v hv => by simp at hv; subst hv; exact Good.atom (.bool _), _, rfl, trivial⟩
theorem Addr.add_blk (a : Addr) (n : Nat) : (a.add n).block = a.block := by unfold Addr.add; split <;> rfl
theorem Addr.add_off' (a : Addr) (n : Nat) : (a.add n).off = a.off + n := by unfold Addr.add; split <;> simp_all
theorem cell_add {w : World} {a : Addr} {j : Nat} {v : Value} (h : w.cell? (a.add j) = some v) : w.cell? ⟨a.block, a.off + j, none⟩ = some v ∧ a.block < w.heap.size ∧ (j = 0 → a.spot = none) := by
 unfold World.cell? at h
 rw [Addr.add_blk, Addr.add_off'] at h
 split at h
 ·rename_i hc
  split at h
  ·cases h
  ·rename_i hs
   refine ⟨?_, (Array.getElem?_eq_some_iff.1 hc).1, fun h0 => ?_⟩
   ·unfold World.cell?
    simp only [hc]
    exact h
   ·subst h0
    simpa [Addr.add] using hs
 ·cases h
theorem cells_get {w : World} {a : Addr} {n : Nat} {cs : List Value} (h : w.cells? 0 a n = some cs) : cs.length = n ∧ (n ≠ 0 → a.spot = none ∧ a.block < w.heap.size) ∧ ∀ (j : Nat) (v : Value), cs[j]? = some v → w.cell? ⟨a.block, a.off + j, none⟩ = some v := by
 unfold World.cells? at h
 rw [if_pos (Nat.zero_le _)] at h
 obtain ⟨h1, h2⟩ := mapM_get h
 rw [List.length_range] at h1
 have key : ∀ (j : Nat) (v : Value), cs[j]? = some v → w.cell? ⟨a.block, a.off + j, none⟩ = some v ∧ a.block < w.heap.size ∧ (j = 0 → a.spot = none) := by
  intro j v hj
  have hlt : j < n := by rw [← h1]; exact (List.getElem?_eq_some_iff.1 hj).1
  exact cell_add (h2 j j v (by simp [hlt]) hj)
 refine ⟨h1, fun hn => ?_, fun j v hj => (key j v hj).1⟩
 have hlt : 0 < cs.length := by omega
 have := key 0 _ (List.getElem?_eq_getElem hlt)
 exact ⟨this.2.2 rfl, this.2.1⟩
theorem Rd.slice {P : Program} {t e : TypeId} {sz : Nat} {α : Type} {RE : Vw → List Value → α → Prop} {OK : α → Prop} (hu : P.underlying t = some (.slice e)) (hs : P.cellsOf e = sz) (hs0 : (sz == 0) = false) (he : Rd P e sz RE OK) :
  Rd P t 1 (fun H cs xs => ∃ v, cs = [v] ∧ Sl sz RE H v xs) (fun xs => ∀ x ∈ xs, OK x) := by
 intro HH enc w fuel cs x hsure h
 cases fuel with
 | zero => cases h
 | succ fuel =>
  unfold DataW.trod at h
  rw [hu] at h
  split at h <;> rename_i h1 <;> first | cases h1 | skip
  all_goals first | (cases h; done) | skip
  ·exact ⟨rfl, fun v hv => by simp at hv; subst hv; exact Good.atom .nilSlice, [], ⟨_, rfl, .inl ⟨rfl, rfl⟩⟩, fun x hx => by cases hx⟩
  ·rename_i a len cap
   simp only at h
   split at h
   ·rename_i hc
    obtain ⟨_, hle, hmax⟩ := hc
    obtain ⟨elems, h2, h3⟩ := Option.bind_eq_some_iff.1 h
    simp only [if_true] at h3
    obtain ⟨rest, h4, h5⟩ := Option.map_eq_some_iff.1 h3
    rw [hs] at h2 h4
    obtain ⟨hl, hg⟩ := mapM_get h2
    obtain ⟨hl2, hg2⟩ := mapM_get h4
    have hpos : 0 < w.heap.size := by
     rcases hsure with h | h
     ·exact h
     ·exact absurd rfl (h (.slice (some a) len cap) (by simp) a len cap)
    -- each element's cells
    have key : ∀ k, k < len → ∃ cs : List Value, w.cells? 0 (a.add (k * sz)) sz = some cs ∧ (∀ v ∈ cs, Good w v) ∧ ∃ y, RE (V0of w) (cs.map aV) y ∧ OK y := by
     intro k hk
     have hk' : k < elems.length := by rw [hl]; simpa using hk
     have := hg k k _ (by simp [hk]) (List.getElem?_eq_getElem hk')
     obtain ⟨cs, h6, h7⟩ := Option.bind_eq_some_iff.1 this
     obtain ⟨h8, h9, h10⟩ := he HH enc w fuel cs _ (.inl hpos) h7
     exact ⟨cs, h6, h9, h10⟩
    have hany : cap ≠ 0 → a.spot = none ∧ a.block < w.heap.size := by
     intro h0
     have hsz : sz ≠ 0 := by simpa using hs0
     by_cases hlen : len = 0
     ·have hk' : 0 < rest.length := by rw [hl2]; simp; omega
      have := hg2 0 0 _ (List.getElem?_range (by omega)) (List.getElem?_eq_getElem hk')
      obtain ⟨cs, h6, h7⟩ := Option.bind_eq_some_iff.1 this
      have := (cells_get h6).2.1 hsz
      rw [hlen, Nat.zero_add, Nat.zero_mul] at this
      simpa [Addr.add] using this
     ·obtain ⟨cs, h6, _⟩ := key 0 (by omega)
      have := (cells_get h6).2.1 hsz
      rw [Nat.zero_mul] at this
      simpa [Addr.add] using this
    by_cases h0 : cap = 0
    ·have : len = 0 := by omega
     subst h0 this
     refine ⟨rfl, fun v hv => ?_, [], ⟨_, rfl, .inr ⟨0, 0, 0, rfl, ⟨hpos, by simp⟩, fun i x hx => by simp at hx⟩⟩, fun x hx => by cases hx⟩
     simp at hv
     subst hv
     unfold Good aV
     exact .slice 0 0 0 0 ⟨0, 0, 0, _⟩ a 0 (by unfold idI; rw [if_pos hpos]) (Nat.le_refl _) (fun h => absurd rfl h) (fun h => by omega)
    ·obtain ⟨hsp, hb⟩ := hany h0
     have hav : aV (.slice (some a) len cap) = .slice (some ⟨a.block, a.off, none⟩) len cap := by
      unfold aV
      split
      ·rename_i heq; injection heq with h1 h2 h3; exact absurd h3 h0
      ·cases a; simp at hsp; simp [hsp]
     have hgood : Good w (.slice (some a) len cap) := by
      unfold Good
      rw [hav]
      refine .slice a.block a.off len cap ⟨a.block, 0, 0, _⟩ a cap (by unfold idI; rw [if_pos hb]) hle (fun _ => ?_) (fun h => by omega)
      cases a
      simp at hsp
      simp [hsp]
     -- the list
     have hlist : ∀ n, n ≤ len → ∃ ys : List α, ys.length = n ∧ (∀ y ∈ ys, OK y) ∧ ∀ (k : Nat) (y : α), ys[k]? = some y → ∃ cs : List Value, cs.length = sz ∧ RE (V0of w) cs y ∧ ∀ (j : Nat) (u : Value), cs[j]? = some u → (H0of w).cell a.block (a.off + k * sz + j) = some u := by
      intro n
      induction n with
      | zero => exact fun _ => ⟨[], rfl, (fun y hy => nomatch hy), (fun k y hy => by simp at hy)⟩
      | succ n ih =>
       intro hn
       obtain ⟨ys, h6, h7, h8⟩ := ih (by omega)
       obtain ⟨cs, h9, h10, y, h11, h12⟩ := key n (by omega)
       obtain ⟨h13, _, h14⟩ := cells_get h9
       refine ⟨ys ++ [y], by simp [h6], fun z hz => ?_, fun k z hz => ?_⟩
       ·rcases List.mem_append.1 hz with hz | hz
        ·exact h7 z hz
        ·simp at hz; subst hz; exact h12
       ·by_cases hk : k < ys.length
        ·rw [List.getElem?_append_left hk] at hz
         exact h8 k z hz
        ·rw [List.getElem?_append_right (by omega)] at hz
         have hk' : k = n := by
          have := (List.getElem?_eq_some_iff.1 hz).1
          simp at this; omega
         subst hk'
         rw [h6, Nat.sub_self] at hz
         simp at hz
         subst hz
         refine ⟨cs.map aV, by simp [h13], h11, fun j u hu => ?_⟩
         rw [List.getElem?_map] at hu
         cases hcj : cs[j]? with
         | none => rw [hcj] at hu; cases hu
         | some v =>
          rw [hcj] at hu
          simp at hu
          subst hu
          have := h14 j v hcj
          rw [Addr.add_blk, Addr.add_off'] at this
          exact H0_cell this (h10 v (List.mem_of_getElem? hcj))
     obtain ⟨ys, h6, h7, h8⟩ := hlist len (Nat.le_refl _)
     refine ⟨rfl, fun v hv => ?_, ys, ⟨_, rfl, .inr ⟨a.block, a.off, cap, by rw [hav, h6], ⟨hb, by have : maxLen = 9223372036854775807 := rfl; omega⟩, h8⟩⟩, h7⟩
     simp at hv
     subst hv
     exact hgood
   ·cases h
end Go.Vm
namespace Go.Vm
open Go
abbrev PH := List (Nat × AObj)
structure At where
 sat : Vw → PH → Prop
 up : ∀ V V' p, V.le V' → sat V p → sat V' p
structure StP (V : Vw) (p : PH) : Prop where
 nd : (p.map (·.1)).Nodup
 own : ∀ q ∈ p, V.H.lo ≤ q.1 ∧ q.1 < V.H.next ∧ ¬ V.F q.1 ∧ V.H.get q.1 = some q.2
inductive Sat (V : Vw) : PH → List At → Prop
 | nil : Sat V [] []
 | cons (p q : PH) (A : At) (As : List At) (h : A.sat V p) (h' : Sat V q As) : Sat V (p ++ q) (A :: As)
def Ow (V : Vw) (As : List At) : Prop := ∃ p, StP V p ∧ Sat V p As
theorem Ow.start (V : Vw) : Ow V [] := ⟨[], ⟨List.nodup_nil, fun q h => nomatch h⟩, .nil⟩
theorem StP.perm {V : Vw} {p q : PH} (h : StP V p) (hp : p.Perm q) : StP V q := ⟨(hp.map _).nodup_iff.1 h.nd, fun x hx => h.own x (hp.mem_iff.2 hx)⟩
theorem StP.left {V : Vw} {p q : PH} (h : StP V (p ++ q)) : StP V p := ⟨by
 have := h.nd
 rw [List.map_append] at this
 exact (List.nodup_append.1 this).1, fun x hx => h.own x (List.mem_append_left _ hx)⟩
theorem StP.right {V : Vw} {p q : PH} (h : StP V (p ++ q)) : StP V q := ⟨by
 have := h.nd
 rw [List.map_append] at this
 exact (List.nodup_append.1 this).2.1, fun x hx => h.own x (List.mem_append_right _ hx)⟩
theorem Sat.up {V V' : Vw} (hv : V.le V') {p : PH} {As : List At} (h : Sat V p As) : Sat V' p As := by
 induction h with
 | nil => exact .nil
 | cons p q A As h _ ih => exact .cons p q A As (A.up _ _ _ hv h) ih
theorem Sat.split {V : Vw} {p : PH} {A : At} {As : List At} (h : Sat V p (A :: As)) : ∃ p1 p2, p = p1 ++ p2 ∧ A.sat V p1 ∧ Sat V p2 As := by
 cases h with
 | cons p q A As h h' => exact ⟨p, q, rfl, h, h'⟩
theorem Sat.append {V : Vw} {p q : PH} {As Bs : List At} (h : Sat V p As) (h' : Sat V q Bs) : Sat V (p ++ q) (As ++ Bs) := by
 induction h with
 | nil => exact h'
 | cons p q A As h _ ih => rw [List.append_assoc]; exact .cons _ _ _ _ h ih
theorem Sat.apart {V : Vw} : ∀ {As Bs : List At} {p : PH}, Sat V p (As ++ Bs) → ∃ p1 p2, p = p1 ++ p2 ∧ Sat V p1 As ∧ Sat V p2 Bs
 | [], _, p, h => ⟨[], p, rfl, .nil, h⟩
 | A :: As, Bs, p, h => by
  obtain ⟨p1, p2, rfl, h1, h2⟩ := h.split
  obtain ⟨p3, p4, rfl, h3, h4⟩ := Sat.apart (As := As) h2
  exact ⟨p1 ++ p3, p4, by simp, .cons _ _ _ _ h1 h3, h4⟩
theorem Sat.perm {V : Vw} {As Bs : List At} (hp : As.Perm Bs) : ∀ {p : PH}, Sat V p As → ∃ q, p.Perm q ∧ Sat V q Bs := by
 induction hp with
 | nil => exact fun h => ⟨_, .refl _, h⟩
 | cons A _ ih =>
  intro p h
  obtain ⟨p1, p2, rfl, h1, h2⟩ := h.split
  obtain ⟨q, h3, h4⟩ := ih h2
  exact ⟨p1 ++ q, h3.append_left _, .cons _ _ _ _ h1 h4⟩
 | swap A B As =>
  intro p h
  obtain ⟨p1, p2, rfl, h1, h2⟩ := h.split
  obtain ⟨p3, p4, rfl, h3, h4⟩ := h2.split
  exact ⟨p3 ++ (p1 ++ p4), List.perm_append_comm_assoc _ _ _, .cons _ _ _ _ h3 (.cons _ _ _ _ h1 h4)⟩
 | trans _ _ ih ih' =>
  intro p h
  obtain ⟨q, h1, h2⟩ := ih h
  obtain ⟨r, h3, h4⟩ := ih' h2
  exact ⟨r, h1.trans h3, h4⟩
theorem Ow.perm {V : Vw} {As Bs : List At} (h : Ow V As) (hp : As.Perm Bs) : Ow V Bs := by
 obtain ⟨p, h1, h2⟩ := h
 obtain ⟨q, h3, h4⟩ := h2.perm hp
 exact ⟨q, h1.perm h3, h4⟩
theorem pick_perm {α : Type _} : ∀ {l : List α} {k : Nat} {a : α}, l[k]? = some a → (a :: l.eraseIdx k).Perm l
 | b :: l, 0, a, h => by simp at h; subst h; exact .refl _
 | b :: l, k + 1, a, h => (List.Perm.swap b a _).trans ((pick_perm (l := l) (k := k) (by simpa using h)).cons b)
theorem Ow.pick {V : Vw} {As : List At} (h : Ow V As) (k : Nat) {A : At} (hk : As[k]? = some A) : Ow V (A :: As.eraseIdx k) := h.perm (pick_perm hk).symm
theorem Ow.drop0 {V : Vw} {A : At} {As : List At} (h : Ow V (A :: As)) : Ow V As := by
 obtain ⟨p, h1, h2⟩ := h
 obtain ⟨p1, p2, rfl, h3, h4⟩ := h2.split
 exact ⟨p2, h1.right, h4⟩
theorem Ow.drop {V : Vw} {As : List At} (h : Ow V As) (k : Nat) {A : At} (hk : As[k]? = some A) : Ow V (As.eraseIdx k) := (h.pick k hk).drop0
theorem Ow.left {V : Vw} {As Bs : List At} (h : Ow V (As ++ Bs)) : Ow V As := by
 obtain ⟨p, h1, h2⟩ := h
 obtain ⟨p1, p2, rfl, h3, h4⟩ := h2.apart
 exact ⟨p1, h1.left, h3⟩
theorem eraseIdx_set {α : Type _} : ∀ (l : List α) (k : Nat) (b : α), (l.set k b).eraseIdx k = l.eraseIdx k
 | [], k, b => rfl
 | a :: l, 0, b => rfl
 | a :: l, k + 1, b => by simp [eraseIdx_set l k b]
theorem Ow.put {V : Vw} {As : List At} {k : Nat} {A B : At} (hk : As[k]? = some A) (h : Ow V (B :: As.eraseIdx k)) : Ow V (As.set k B) := by
 have hl := (List.getElem?_eq_some_iff.1 hk).1
 refine h.perm ?_
 have := pick_perm (l := As.set k B) (k := k) (a := B) (by simp [hl])
 rwa [eraseIdx_set] at this
theorem Ow.chg {V : Vw} {Bs As : List At} (ow : Ow V (Bs ++ As)) : ∃ p, StP V p ∧ Sat V p Bs ∧ ∀ (V' : Vw) (Bs' : List At) (p' : PH), V.le V' →
  (∀ c, V.H.lo ≤ c → c < V.H.next → c ∉ p.map (·.1) → ¬ V.F c → V'.H.get c = V.H.get c ∧ ¬ V'.F c) → StP V' p' → Sat V' p' Bs' → (∀ b ∈ p'.map (·.1), b ∈ p.map (·.1) ∨ V.H.next ≤ b) → Ow V' (Bs' ++ As) := by
 obtain ⟨p0, h1, h2⟩ := ow
 obtain ⟨p, q, rfl, h3, h4⟩ := h2.apart
 refine ⟨p, h1.left, h3, fun V' Bs' p' hle hk hst hsat hb => ⟨p' ++ q, ?_, hsat.append (h4.up hle)⟩⟩
 have hq := h1.right
 have hnd := h1.nd
 rw [List.map_append] at hnd
 have hdis := (List.nodup_append.1 hnd).2.2
 have hnot : ∀ x ∈ q, x.1 ∉ p.map (·.1) := fun x hx hm => hdis _ hm _ (List.mem_map_of_mem hx) rfl
 refine ⟨?_, fun x hx => ?_⟩
 ·rw [List.map_append]
  refine List.nodup_append.2 ⟨hst.nd, hq.nd, fun a ha b hb' e => ?_⟩
  subst e
  obtain ⟨x, hx, rfl⟩ := List.mem_map.1 hb'
  rcases hb _ ha with h5 | h5
  ·exact hnot x hx h5
  ·have := (hq.own x hx).2.1; omega
 ·rcases List.mem_append.1 hx with hx | hx
  ·exact hst.own x hx
  ·obtain ⟨h5, h6, h7, h8⟩ := hq.own x hx
   obtain ⟨h9, h10⟩ := hk x.1 h5 h6 (hnot x hx) h7
   exact ⟨by rw [hle.lo]; exact h5, Nat.lt_of_lt_of_le h6 hle.next, h10, h9.trans h8⟩
def At.pt (b : Nat) (x : AObj) : At := ⟨fun _ p => p = [(b, x)], fun _ _ _ _ h => h⟩
theorem StP.one {V : Vw} {b : Nat} {x : AObj} (h1 : V.H.lo ≤ b) (h2 : b < V.H.next) (h3 : ¬ V.F b) (h4 : V.H.get b = some x) : StP V [(b, x)] := ⟨by simp, fun q hq => by
 have : q = (b, x) := by simpa using hq
 subst this
 exact ⟨h1, h2, h3, h4⟩⟩
theorem Ow.own {V : Vw} {As : List At} (h : Ow V As) {k b : Nat} {x : AObj} (hk : As[k]? = some (.pt b x)) : Own (fun _ => True) V b x := by
 obtain ⟨p, h1, h2, _⟩ := Ow.chg (Bs := [.pt b x]) (h.pick k hk)
 obtain ⟨p1, p2, rfl, h3, h4⟩ := h2.split
 have h3 : p1 = [(b, x)] := h3
 subst h3
 obtain ⟨h5, h6, h7, h8⟩ := h1.own (b, x) (by simp)
 exact ⟨trivial, h5, h6, h7, h8⟩
theorem Ow.nw {V V' : Vw} {As : List At} {b : Nat} {x : AObj} (h : Ow V As) (n : Nw V b V' x) : Ow V' (.pt b x :: As) := by
 obtain ⟨p, h1, h2, h3⟩ := Ow.chg (Bs := []) h
 have hp : p = [] := by cases h2; rfl
 subst hp
 have hle := n.le
 obtain ⟨rfl, rfl⟩ := n
 refine h3 _ [.pt V.H.next x] [(V.H.next, x)] hle (fun c h4 h5 h6 h7 => ⟨by simp [Vw.new, AH.new, Nat.ne_of_lt h5], h7⟩) (.one V.lon (Nat.lt_succ_self _) (fun hf => by have := V.wf _ hf; omega) (by simp [Vw.new, AH.new])) (.cons [(V.H.next, x)] [] _ _ rfl .nil) (fun b hb => ?_)
 simp at hb
 exact .inr (by omega)
theorem Ow.st1 {V V' : Vw} {As : List At} {k b : Nat} {A B : At} {x y : AObj} (h : Ow V As) (hk : As[k]? = some A) (hA : ∀ p, StP V p → A.sat V p → p = [(b, x)]) (n : St V b V' y) (hB : B.sat V' [(b, y)]) : Ow V' (As.set k B) := by
 obtain ⟨p, h1, h2, h3⟩ := Ow.chg (Bs := [A]) (h.pick k hk)
 obtain ⟨p1, p2, rfl, h4, h5⟩ := h2.split
 have h6 := hA p1 h1.left h4
 subst h6
 cases h5
 obtain ⟨h7, h8, h9, h10⟩ := h1.own (b, x) (by simp)
 have hle := n.le (M := fun _ => True) ⟨trivial, h7, h8, h9, h10⟩
 obtain ⟨rfl⟩ := n
 refine Ow.put hk (h3 _ [B] [(b, y)] hle (fun c _ _ hc hf => ?_) (.one h7 h8 h9 (by simp [Vw.set, AH.upd])) (.cons [(b, y)] [] _ _ hB .nil) (fun c hc => by simp at hc; subst hc; simp))
 have : c ≠ b := by simpa using hc
 exact ⟨by simp [Vw.set, AH.upd, this], hf⟩
theorem Ow.st {V V' : Vw} {As : List At} {k b : Nat} {x y : AObj} (h : Ow V As) (hk : As[k]? = some (.pt b x)) (n : St V b V' y) : Ow V' (As.set k (.pt b y)) := h.st1 hk (fun p _ hp => hp) n rfl
theorem Ow.fz1 {V : Vw} {As : List At} {k b : Nat} {A : At} {x : AObj} (h : Ow V As) (hk : As[k]? = some A) (hA : ∀ p, StP V p → A.sat V p → p = [(b, x)]) (hl : ∀ c, some b = some c → c < V.H.next) : Ow (V.fz (some b) hl) (As.eraseIdx k) := by
 obtain ⟨p, h1, h2, h3⟩ := Ow.chg (Bs := [A]) (h.pick k hk)
 obtain ⟨p1, p2, rfl, h4, h5⟩ := h2.split
 have h6 := hA p1 h1.left h4
 subst h6
 cases h5
 refine h3 _ [] [] (V.fz_le (some b) hl) (fun c _ _ hc hf => ⟨rfl, fun hf' => ?_⟩) ⟨List.nodup_nil, fun q h => nomatch h⟩ .nil (fun c hc => by simp at hc)
 have hcb : c ≠ b := by simpa using hc
 exact hf'.elim hf (fun e => hcb (by cases e; rfl))
structure RT (α : Type) where
 sz : Nat
 rel : Vw → List Value → α → Prop
 ty : Ty sz rel
def Fz {α : Type} (R : RT α) (V : Vw) (v : Value) (xs : List α) : Prop := Sl R.sz R.rel V v xs ∧ ∀ b o n c, v = .slice (some ⟨b, o, none⟩) n c → c = R.sz ∨ b < V.H.lo
section
variable {α : Type} {R : RT α} {V V' : Vw} {v : Value} {xs : List α}
theorem Fz.up (h : Fz R V v xs) (he : V.le V') : Fz R V' v xs := ⟨h.1.up R.ty he, fun b o n c e => (h.2 b o n c e).imp id (fun h => by rw [he.lo]; exact h)⟩
theorem Fz.one (h : Fz R V v xs) : One v = true := h.1.one
theorem Fz.nil : Fz R V (.slice none 0 0) [] := ⟨.nil, fun b o n c e => by cases e⟩
end
def RT.int (k : IntKind) : RT Int := ⟨1, fun _ cs x => cs = [.int k x], ⟨fun _ _ _ h => by rw [h]; rfl, fun _ _ _ h => by rw [h]; rfl, fun _ _ _ _ _ h => h⟩⟩
def RT.bool : RT Bool := ⟨1, fun _ cs x => cs = [.bool x], ⟨fun _ _ _ h => by rw [h]; rfl, fun _ _ _ h => by rw [h]; rfl, fun _ _ _ _ _ h => h⟩⟩
def RT.sl {α : Type} (R : RT α) : RT (List α) := ⟨1, fun V cs xs => ∃ v, cs = [v] ∧ Fz R V v xs, ⟨fun _ _ _ ⟨_, h, _⟩ => by rw [h]; rfl, fun _ _ _ ⟨v, h, h2⟩ => by rw [h]; simp [h2.one], fun _ _ _ _ he ⟨v, h, h2⟩ => ⟨v, h, h2.up he⟩⟩⟩
def At.os {α : Type} (R : RT α) (v : Value) (xs : List α) : At where
 sat V p := xs.length ≤ 9223372036854775807 ∧ ((p = [] ∧ v = .slice none 0 0 ∧ xs = []) ∨ ∃ b o cs, v = .slice (some ⟨b, o, none⟩) xs.length R.sz ∧ p = [(b, .cells R.sz cs)] ∧ o ≤ cs.length ∧ Rows R.rel V (cs.drop o) xs)
 up V V' p hle h := ⟨h.1, h.2.imp id (fun ⟨b, o, cs, h1, h2, h3, h4⟩ => ⟨b, o, cs, h1, h2, h3, h4.up R.ty hle⟩)⟩
section
variable {α : Type} {R : RT α} {V V' : Vw} {v : Value} {xs : List α} {As : List At} {k : Nat}
theorem Ow.nil (h : Ow V As) (R : RT α) : Ow V (.os R (.slice none 0 0) [] :: As) := by
 obtain ⟨p, h1, h2⟩ := h
 exact ⟨p, h1, .cons [] p _ _ ⟨Nat.zero_le _, .inl ⟨rfl, rfl, rfl⟩⟩ h2⟩
theorem Ow.osat (h : Ow V As) (hk : As[k]? = some (.os R v xs)) : ∃ p, StP V p ∧ (At.os R v xs).sat V p := by
 obtain ⟨p, h1, h2, _⟩ := Ow.chg (Bs := [.os R v xs]) (h.pick k hk)
 obtain ⟨p1, p2, rfl, h3, h4⟩ := h2.split
 exact ⟨p1, h1.left, h3⟩
theorem Ow.oslen (h : Ow V As) (hk : As[k]? = some (.os R v xs)) {P : Program} {C : CallRel} {o : Oper} {t : T} {H1 : AH} {x : Operand} {ty e : TypeId}
  (ho : o.op = .call { callee := .builtin .len, args := #[x], argTypes := #[ty] }) (hx : aev t x = v) (hu : P.underlying ty = some (.slice e)) : Step P C o t H1 .pure (.int .i64 xs.length) H1 := by
 obtain ⟨p, _, _, ⟨_, rfl, rfl⟩ | ⟨b, o, cs, rfl, _⟩⟩ := h.osat hk
 ·exact S.lenNil ho hx hu
 ·exact S.len ho hx hu
theorem Ow.osone (h : Ow V As) (hk : As[k]? = some (.os R v xs)) : One v = true := by
 obtain ⟨p, _, _, ⟨_, rfl, rfl⟩ | ⟨b, o, cs, rfl, _⟩⟩ := h.osat hk <;> rfl
theorem Ow.osne (h : Ow V As) (hk : As[k]? = some (.os R v xs)) : v ≠ topV := by
 obtain ⟨p, _, _, ⟨_, rfl, rfl⟩ | ⟨b, o, cs, rfl, _⟩⟩ := h.osat hk <;> simp [topV]
theorem Ow.oscells (h : Ow V As) (hk : As[k]? = some (.os R v xs)) : v.cells = #[v] := by
 obtain ⟨p, _, _, ⟨_, rfl, rfl⟩ | ⟨b, o, cs, rfl, _⟩⟩ := h.osat hk <;> rfl
theorem Ow.osget (h : Ow V As) (hk : As[k]? = some (.os R v xs)) {i : Nat} {x : α} (hx : xs[i]? = some x) :
  ∃ b o r, v = .slice (some ⟨b, o, none⟩) xs.length R.sz ∧ b < V.H.next ∧ R.rel V r x ∧ ∀ (j : Nat) (u : Value), r[j]? = some u → V.H.cell b (o + i * R.sz + j) = some u := by
 obtain ⟨p, h1, _, ⟨_, rfl, rfl⟩ | ⟨b, o, cs, rfl, rfl, h4, h5⟩⟩ := h.osat hk
 ·simp at hx
 ·obtain ⟨h6, h7, h8, h9⟩ := h1.own (b, .cells R.sz cs) (by simp)
  obtain ⟨r, h10, h11⟩ := h5.at R.ty hx
  refine ⟨b, o, r, rfl, h7, h10, fun j u hj => S.cellB h9 ?_⟩
  have := h11 j u hj
  rw [List.getElem?_drop] at this
  rw [← this, Nat.add_assoc]
theorem Ow.osfz (h : Ow V As) (hk : As[k]? = some (.os R v xs)) : ∃ V', V'.H = V.H ∧ V.le V' ∧ Fz R V' v xs ∧ Ow V' (As.eraseIdx k) := by
 obtain ⟨p, h1, hm, h2⟩ := h.osat hk
 rcases h2 with ⟨_, rfl, rfl⟩ | ⟨b, o, cs, rfl, rfl, h4, h5⟩
 ·exact ⟨V, rfl, .refl V, .nil, h.drop k hk⟩
 ·obtain ⟨h6, h7, h8, h9⟩ := h1.own (b, .cells R.sz cs) (by simp)
  have hl : ∀ c, some b = some c → c < V.H.next := fun c e => by cases e; exact h7
  refine ⟨V.fz (some b) hl, rfl, V.fz_le _ hl, ⟨?_, fun b' o' n c e => by cases e; exact .inl rfl⟩, h.fz1 hk (b := b) (x := .cells R.sz cs) (fun p hp hs => ?_) hl⟩
  ·refine .inr ⟨b, o, R.sz, rfl, ⟨.inr rfl, hm⟩, fun i x hx => ?_⟩
   obtain ⟨r, h10, h11⟩ := (h5.up R.ty (V.fz_le (some b) hl)).at R.ty hx
   refine ⟨r, R.ty.len _ _ _ h10, h10, fun j u hj => S.cellB h9 ?_⟩
   have := h11 j u hj
   rw [List.getElem?_drop] at this
   rw [← this, Nat.add_assoc]
  ·obtain ⟨_, ⟨_, h, _⟩ | ⟨b', o', cs', h, rfl, _⟩⟩ := hs
   ·cases h
   ·cases h
    have := (hp.own (b, .cells R.sz cs') (by simp)).2.2.2
    rw [h9] at this
    cases this
    rfl
end
end Go.Vm
namespace Go.Vm
open Go
def ix {α : Type} (xs : List α) (i : Int) : Option α := if 0 ≤ i then xs[i.toNat]? else none
def ap {α : Type} (xs ys : List α) : Option (List α) := if xs.length + ys.length ≤ 16777216 then some (xs ++ ys) else none
def apw {α : Type} (xs ys : List α) : Option (List α) := if xs.length + ys.length ≤ 17592186044416 then some (xs ++ ys) else none
def apk {α : Type} (L : Nat) (xs ys : List α) : Option (List α) := if xs.length + ys.length ≤ L then some (xs ++ ys) else none
def mk {α : Type} (n : Int) (z : α) : Option (List α) := if 0 ≤ n ∧ n ≤ 16777216 then some (List.replicate n.toNat z) else none
def cutL {α : Type} (xs : List α) (l h : Int) : Option (List α) := if 0 ≤ l ∧ l ≤ h ∧ h ≤ xs.length then some ((xs.take h.toNat).drop l.toNat) else none
abbrev w64 (x : Int) : Int := IntKind.i64.wrap x
theorem ix_ge {α : Type} {xs : List α} {i : Int} {x : α} (h : ix xs i = some x) : 0 ≤ i := by
 unfold ix at h; split at h
 ·assumption
 ·cases h
theorem ix_get {α : Type} {xs : List α} {i : Int} {x : α} (h : ix xs i = some x) : xs[i.toNat]? = some x := by
 unfold ix at h; split at h
 ·exact h
 ·cases h
theorem ix_lt {α : Type} {xs : List α} {i : Int} {x : α} (h : ix xs i = some x) : i < xs.length := by
 have h1 := ix_ge h
 have h2 := (List.getElem?_eq_some_iff.1 (ix_get h)).1
 omega
theorem ap_eq {α : Type} {xs ys zs : List α} (h : ap xs ys = some zs) : xs ++ ys = zs ∧ xs.length + ys.length ≤ 16777216 := by
 unfold ap at h; split at h
 ·cases h; exact ⟨rfl, by assumption⟩
 ·cases h
theorem mk_eq {α : Type} {n : Int} {z : α} {zs : List α} (h : mk n z = some zs) : ∃ k : Nat, n = k ∧ k ≤ 16777216 ∧ zs = List.replicate k z := by
 unfold mk at h; split at h
 ·cases h; exact ⟨n.toNat, by omega, by omega, rfl⟩
 ·cases h
theorem cutL_eq {α : Type} {xs zs : List α} {l h : Int} (e : cutL xs l h = some zs) : ∃ i j : Nat, l = i ∧ h = j ∧ i ≤ j ∧ j ≤ xs.length ∧ zs = (xs.take j).drop i := by
 unfold cutL at e; split at e
 ·cases e; exact ⟨l.toNat, h.toNat, by omega, by omega, by omega, by omega, rfl⟩
 ·cases e
theorem bindS {α β : Type} {e : Option α} {k : α → Option β} {r : β} (h : e.bind k = some r) : ∃ x, e = some x ∧ k x = some r := Option.bind_eq_some_iff.1 h
theorem ifT {α : Type} {b : Bool} {x y r : α} (hb : b = true) (h : (if b = true then x else y) = r) : x = r := by rwa [if_pos hb] at h
theorem ifF {α : Type} {b : Bool} {x y r : α} (hb : b = false) (h : (if b = true then x else y) = r) : y = r := by rwa [if_neg (by rw [hb]; decide)] at h
def itO {σ ρ : Type} (B : σ → Option (σ ⊕ ρ)) : Nat → σ → Option ρ
 | 0, _ => none
 | n + 1, s => (B s).bind (Sum.elim (itO B n) some)
open Classical in
noncomputable def loopO {σ ρ : Type} (B : σ → Option (σ ⊕ ρ)) (s : σ) : Option ρ := if h : ∃ n r, itO B n s = some r then itO B h.choose s else none
theorem itO_mono {σ ρ : Type} {B : σ → Option (σ ⊕ ρ)} {r : ρ} : ∀ {n m : Nat} {s : σ}, itO B n s = some r → n ≤ m → itO B m s = some r
 | 0, _, _, h, _ => by cases h
 | n + 1, 0, _, _, h => by omega
 | n + 1, m + 1, s, h, hm => by
  obtain ⟨x, h1, h2⟩ := bindS (k := Sum.elim (itO B n) some) h
  show (B s).bind (Sum.elim (itO B m) some) = some r
  rw [h1]
  cases x with
  | inl s' => exact itO_mono (n := n) h2 (by omega)
  | inr r' => exact h2
theorem loopO_some {σ ρ : Type} {B : σ → Option (σ ⊕ ρ)} {s : σ} {r : ρ} : loopO B s = some r ↔ ∃ n, itO B n s = some r := by
 unfold loopO
 constructor
 ·intro h
  split at h
  ·exact ⟨_, h⟩
  ·cases h
 ·rintro ⟨n, hn⟩
  have hex : ∃ n r, itO B n s = some r := ⟨n, r, hn⟩
  rw [dif_pos hex]
  obtain ⟨r', hr'⟩ := hex.choose_spec
  have h1 := itO_mono hr' (Nat.le_max_left hex.choose n)
  have h2 := itO_mono hn (Nat.le_max_right hex.choose n)
  rw [hr', ← h1, h2]
theorem loopO_eq {σ ρ : Type} (B : σ → Option (σ ⊕ ρ)) (s : σ) : loopO B s = (B s).bind (Sum.elim (loopO B) some) := by
 have key : ∀ r, loopO B s = some r ↔ (B s).bind (Sum.elim (loopO B) some) = some r := by
  intro r
  rw [loopO_some]
  constructor
  ·rintro ⟨n, hn⟩
   cases n with
   | zero => cases hn
   | succ n =>
    obtain ⟨x, h1, h2⟩ := bindS (k := Sum.elim (itO B n) some) hn
    rw [h1]
    cases x with
    | inl s' => exact loopO_some.2 ⟨n, h2⟩
    | inr r' => exact h2
  ·intro h
   obtain ⟨x, h1, h2⟩ := bindS h
   cases x with
   | inl s' =>
    obtain ⟨n, hn⟩ := loopO_some.1 (show loopO B s' = some r from h2)
    exact ⟨n + 1, by show (B s).bind _ = _; rw [h1]; exact hn⟩
   | inr r' => exact ⟨1, by show (B s).bind _ = _; rw [h1]; exact h2⟩
 cases h : loopO B s with
 | some r => exact ((key r).1 h).symm
 | none =>
  cases h2 : (B s).bind (Sum.elim (loopO B) some) with
  | none => rfl
  | some r => rw [(key r).2 h2] at h; cases h
theorem loopO_inv {σ ρ : Type} {B : σ → Option (σ ⊕ ρ)} (I : σ → Prop) (μ : σ → Nat) (Post : ρ → Prop) (step : ∀ s, I s → (∃ s', B s = some (.inl s') ∧ I s' ∧ μ s' < μ s) ∨ ∃ r, B s = some (.inr r) ∧ Post r) (s : σ) (h : I s) : ∃ r, loopO B s = some r ∧ Post r := by
 have key : ∀ (n : Nat) (s : σ), μ s = n → I s → ∃ r, loopO B s = some r ∧ Post r := by
  intro n
  induction n using Nat.strongRecOn with
  | _ n ih =>
   intro s hn hI
   rcases step s hI with ⟨s', h1, h2, h3⟩ | ⟨r, h1, h2⟩
   ·obtain ⟨r, h4, h5⟩ := ih (μ s') (by omega) s' rfl h2
    exact ⟨r, by rw [loopO_eq, h1]; exact h4, h5⟩
   ·exact ⟨r, by rw [loopO_eq, h1]; rfl, h2⟩
 exact key _ s rfl h
theorem backS {σ ρ : Type} {s : σ} {x : σ ⊕ ρ} {f : σ → Option ρ} {r : ρ} (h : some (Sum.inl s) = some x) (h2 : Sum.elim f some x = some r) : f s = some r := by cases h; exact h2
theorem exitS {σ ρ : Type} {e : Option ρ} {x : σ ⊕ ρ} {f : σ → Option ρ} {r : ρ} (h : e.map Sum.inr = some x) (h2 : Sum.elim f some x = some r) : e = some r := by
 obtain ⟨y, h3, rfl⟩ := Option.map_eq_some_iff.1 h
 rw [h3]; exact h2
theorem itS {σ ρ : Type} {B : σ → Option (σ ⊕ ρ)} {n : Nat} {s : σ} {r : ρ} (h : itO B n s = some r) : ∃ m x, n = m + 1 ∧ B s = some x ∧ Sum.elim (itO B m) some x = some r := by
 cases n with
 | zero => cases h
 | succ n => obtain ⟨x, h1, h2⟩ := bindS (k := Sum.elim (itO B n) some) h; exact ⟨n, x, rfl, h1, h2⟩
section
variable {P : Program} {G N : Nat}
theorem WP.seqJ {a b : Code} {Q : XQ} {l : List (Nat × Value)} {H : AH} (J : List (Nat × Value) → AH → Prop) (hb : ∀ l H, J l H → WP P G N b Q l H) (ha : WP P G N a (sq J Q) l H) : WP P G N (.seq a b) Q l H :=
 WP.seq (ha.mono fun e l' H' h => by
  cases e with
  | normal => exact hb _ _ h
  | exit id => exact h
  | ret => exact h)
def Jn (I : List (Nat × Value) → Vw → Prop) (l : List (Nat × Value)) (H : AH) : Prop := ∃ l2 V, V.H = H ∧ I l2 V ∧ ∀ p ∈ l2, fr l p.1 = p.2
theorem WP.seqI {a b : Code} {Q : XQ} {l : List (Nat × Value)} {H : AH} (I : List (Nat × Value) → Vw → Prop) (hb : ∀ l V, I l V → WP P G N b Q l V.H) (ha : WP P G N a (sq (Jn I) Q) l H) : WP P G N (.seq a b) Q l H :=
 WP.seqJ (Jn I) (fun l H ⟨l2, V, h1, h2, h3⟩ => by subst h1; exact WP.weak l2 h3 (hb l2 V h2)) ha
theorem WP.loopI2 {c : Code} {Q : XQ} {l : List (Nat × Value)} {V : Vw} (I : Nat → List (Nat × Value) → Vw → Prop) (n : Nat) (l0 : List (Nat × Value)) (h : I n l0 V) (hl : ∀ p ∈ l0, fr l p.1 = p.2)
  (round : ∀ n l V, I n l V → WP P G N c (sq (Jn fun l' V' => ∃ n', n' < n ∧ I n' l' V') Q) l V.H) : WP P G N (.loop c) Q l V.H :=
 WP.loopE I (fun n l V hI => (round n l V hI).mono fun e l' H' hq => by
  cases e with
  | normal => obtain ⟨l2, V', h1, ⟨n', h2, h3⟩, h4⟩ := hq; exact ⟨n', l2, V', h1, h3, h2, h4⟩
  | exit id => exact hq
  | ret => exact hq) n l0 V h l hl
theorem Ct.of {g : FuncId} {args : Array Value} {V : Vw} {fn : Func} {c : Code} {Post : Value → Vw → Prop} (hG : G ≤ V.H.lo) (h1 : P.funcs[g]? = some fn) (h2 : fn.body = some c) (h3 : args.size ≤ fn.ntmps)
  (h : WP P G fn.ntmps c (fin P fn (fun v H' => ∃ V', V'.H = H' ∧ V.le V' ∧ Post v V')) (initL args) V.H) : ∃ v V', Cl P G g args V.H v V'.H ∧ V.le V' ∧ Post v V' := by
 obtain ⟨v, H', h4, V', rfl, h5, h6⟩ := Cl.of (Post := fun v H' => ∃ V', V'.H = H' ∧ V.le V' ∧ Post v V') hG h1 h2 h3 h
 exact ⟨v, V', h4, h5, h6⟩
end
section
variable {P : Program} {G N : Nat} {dr : Bool} {ops : Array Oper} {i : Nat} {hist : Hist} {l : List (Nat × Value)} {V : Vw} {Q : LQ} {o : Oper} {d : Tmp} {As : List At} {k : Nat}
theorem O.box {e : TypeId} {x : Operand} {v : Value} {cs : List Value} (ow : Ow V As) (ho : ops[i]? = some o) (hd : o.dst = some d) (hg : GOk ops l o) (hop : o.op = .box e x) (hx : aev (fr l) x = v) (hv : v ≠ topV) (hc : v.cells.toList = cs)
  (hk : okU dr ops i (.alloc V.H.next) V.H (V.H.new (.cells 0 cs)) hist) (h : ∀ b V1, V.le V1 → Ow V1 (.pt b (.cells 0 cs) :: As) → WU dr P G ops (i + 1) (hadd dr (i, .alloc b, V.H, V1.H) hist) ((d, .pointer (some ⟨b, 0, none⟩)) :: l) V1.H Q) : WU dr P G ops i hist l V.H Q :=
 U.box ho hd hg hop hx hv hc hk (fun b V1 n => h b V1 n.le (ow.nw n))
theorem O.alloc {e : TypeId} {z : Value} {n m : Nat} {cs : List Value} (ow : Ow V As) (ho : ops[i]? = some o) (hd : o.dst = some d) (hg : GOk ops l o) (hop : o.op = .alloc e) (hi : tinfo P e z n m) (hz : constB z = true) (hc : z.cells.toList = cs)
  (hk : okU dr ops i (.alloc V.H.next) V.H (V.H.new (.cells n cs)) hist) (h : ∀ b V1, V.le V1 → Ow V1 (.pt b (.cells n cs) :: As) → WU dr P G ops (i + 1) (hadd dr (i, .alloc b, V.H, V1.H) hist) ((d, .pointer (some ⟨b, 0, none⟩)) :: l) V1.H Q) : WU dr P G ops i hist l V.H Q :=
 U.alloc ho hd hg hop hi hz hc hk (fun b V1 n => h b V1 n.le (ow.nw n))
theorem O.store {ty : TypeId} {x y : Operand} {b off esz : Nat} {c cs : List Value} {v z : Value} {n m : Nat} (ow : Ow V As) (hk0 : As[k]? = some (.pt b (.cells esz c))) (ho : ops[i]? = some o) (hd : o.dst = none) (hg : GOk ops l o) (hop : o.op = .store ty x y) (hx : aev (fr l) x = .pointer (some ⟨b, off, none⟩)) (hy : aev (fr l) y = v) (hi : tinfo P ty z n m)
  (hv : v ≠ topV) (hcs : v.cells.toList = cs) (hs : cs.length = n) (hb : off + n ≤ c.length) (h1 : cs.all One = true) {c' : List Value} (hc' : splice c off cs = c') (hk : okU dr ops i .eff V.H (V.H.upd b (some (.cells esz c'))) hist)
  (h : ∀ V1, V.le V1 → Ow V1 (As.set k (.pt b (.cells esz c'))) → WU dr P G ops (i + 1) (hadd dr (i, .eff, V.H, V1.H) hist) l V1.H Q) : WU dr P G ops i hist l V.H Q :=
 U.store ho hd hg hop hx hy hi (ow.own hk0) hv hcs hs hb h1 hc' hk (fun V1 s => h V1 (s.le (ow.own hk0)) (ow.st hk0 s))
theorem O.call {xs : Array Operand} {ts : Array TypeId} {g : FuncId} {as : List Value} {Post : Value → Vw → Prop} (ho : ops[i]? = some o) (hd : o.dst = some d) (hg : GOk ops l o) (hop : o.op = .call { callee := .value (.func g), args := xs, argTypes := ts }) (he : enterable P g)
  (ha : xs.toList.map (aev (fr l)) = as) (hc : ∃ v V', Cl P G g as.toArray V.H v V'.H ∧ V.le V' ∧ Post v V') (hk : ∀ v V1, V.le V1 → Post v V1 → okU dr ops i .eff V.H V1.H hist) (h : ∀ v V1, V.le V1 → Post v V1 → WU dr P G ops (i + 1) (hadd dr (i, .eff, V.H, V1.H) hist) ((d, v) :: l) V1.H Q) : WU dr P G ops i hist l V.H Q := by
 obtain ⟨v, V', h1, h2, h3⟩ := hc
 refine U.k ho hd hg (S.call hop Fu he (args := as.toArray) ?_ h1) (hk v V' h2 h3) (h v V' h2 h3)
 rw [← ha]
 apply Array.ext'
 simp
theorem O.callv {f : Operand} {us vs : Array Value} {xs : Array Operand} {ts : Array TypeId} {g : FuncId} {as : List Value} {Post : Value → Vw → Prop} (ho : ops[i]? = some o) (hd : o.dst = some d) (hg : GOk ops l o) (hop : o.op = .call { callee := .value f, args := xs, argTypes := ts }) (hf : aev (fr l) f = .func (.func g) us vs) (he : enterable P g)
  (ha : xs.toList.map (aev (fr l)) = as) (hc : ∃ v V', Cl P G g (us ++ as.toArray ++ vs) V.H v V'.H ∧ V.le V' ∧ Post v V') (hk : ∀ v V1, V.le V1 → Post v V1 → okU dr ops i .eff V.H V1.H hist) (h : ∀ v V1, V.le V1 → Post v V1 → WU dr P G ops (i + 1) (hadd dr (i, .eff, V.H, V1.H) hist) ((d, v) :: l) V1.H Q) : WU dr P G ops i hist l V.H Q := by
 obtain ⟨v, V', h1, h2, h3⟩ := hc
 refine U.k ho hd hg (S.call hop hf he (args := us ++ as.toArray ++ vs) ?_ h1) (hk v V' h2 h3) (h v V' h2 h3)
 rw [← ha]
 congr 2
 apply Array.ext'
 simp
theorem Fz.at {α : Type} {R : RT α} {v : Value} {xs : List α} (h : Fz R V v xs) {i : Int} {x : α} (hx : ix xs i = some x) :
  ∃ b o c cs, v = .slice (some ⟨b, o, none⟩) xs.length c ∧ V.F b ∧ R.rel V cs x ∧ ∀ (j : Nat) (u : Value), cs[j]? = some u → V.H.cell b (o + i.toNat * R.sz + j) = some u := by
 obtain ⟨b, o, c, cs, h1, h2, h3, h4, h5⟩ := h.1.at (ix_get hx)
 exact ⟨b, o, c, cs, h1, h2, h4, h5⟩
def SrcOk {α : Type} (P : Program) (R : RT α) (V : Vw) (vy : Value) (ty : TypeId) (ys : List α) : Prop := ∃ vs, Src P V.H R.sz vy ty ys.length vs ∧ Rows R.rel V vs ys
theorem Ow.src {α : Type} {R : RT α} {v : Value} {xs : List α} (ow : Ow V As) (hk : As[k]? = some (.os R v xs)) {t e : TypeId} (hu : P.underlying t = some (.slice e)) : SrcOk P R V v t xs := by
 obtain ⟨p, h1, hm, ⟨_, rfl, rfl⟩ | ⟨b, o, cs, rfl, rfl, h4, h5⟩⟩ := ow.osat hk
 ·exact ⟨[], .nil t e hu, .nil⟩
 ·obtain ⟨h6, h7, h8, h9⟩ := h1.own (b, .cells R.sz cs) (by simp)
  refine ⟨cs.drop o, .slice t e b o _ _ _ hu (h5.len R.ty) (fun j u hj => S.cellB h9 ?_), h5⟩
  rwa [List.getElem?_drop] at hj
theorem O.append0 {α : Type} {R : RT α} {xs ys zs : List α} {x y : Operand} {ty ty' e : TypeId} {z : Value} {m : Nat} {vx vy : Value} (ow : Ow V As) (hk0 : As[k]? = some (.os R vx xs)) (ho : ops[i]? = some o) (hd : o.dst = some d) (hg : GOk ops l o) (hop : o.op = .call { callee := .builtin .append, args := #[x, y], argTypes := #[ty, ty'] })
  (hx : aev (fr l) x = vx) (hy : aev (fr l) y = vy) (hu : P.underlying ty = some (.slice e)) (hi : tinfo P e z R.sz m) (hz : z.cells.size = R.sz) (hsz : (R.sz == 0) = false) (hb : (xs.length + ys.length) * m ≤ 2 ^ 47) (hb2 : xs.length + ys.length < 2 ^ 60) (hY : SrcOk P R V vy ty' ys)
  (hap : xs ++ ys = zs) (hk : ∀ V1 : Vw, (∀ c, c < V.H.next → (∀ p, StP V p → (At.os R vx xs).sat V p → c ∉ p.map (·.1)) → V1.H.get c = V.H.get c) → okU dr ops i .eff V.H V1.H hist)
  (h : ∀ v' V1, V.le V1 → Ow V1 (As.set k (.os R v' zs)) → WU dr P G ops (i + 1) (hadd dr (i, .eff, V.H, V1.H) hist) ((d, v') :: l) V1.H Q) : WU dr P G ops i hist l V.H Q := by
 subst hap
 obtain ⟨vs, hsrc, hrows⟩ := hY
 obtain ⟨q, h2, h3, h4, h5⟩ := tinfo_get hi
 have hmax : (xs ++ ys).length ≤ 9223372036854775807 := by rw [List.length_append]; omega
 by_cases hn : ys.length = 0
 ·have : ys = [] := List.length_eq_zero_iff.1 hn
  subst this
  have hvs : vs = [] := by cases hrows; rfl
  subst hvs
  have hvx : (∃ b off n c, vx = .slice (some ⟨b, off, none⟩) n c) ∨ vx = .slice none 0 0 := by
   obtain ⟨p, _, _, ⟨_, rfl, rfl⟩ | ⟨b, o, cs, rfl, _⟩⟩ := ow.osat hk0
   ·exact .inr rfl
   ·exact .inl ⟨_, _, _, _, rfl⟩
  refine U.k ho hd hg (.app _ _ (.idle x y ty ty' e q hop hu h2 (by rw [hx]; exact hvx) (by rw [hy, h4]; exact hsrc))) (hk V (fun _ _ _ => rfl)) ?_
  have hset : As.set k (.os R vx (xs ++ [])) = As := by
   rw [List.append_nil]
   apply List.ext_getElem?
   intro j
   rw [List.getElem?_set]
   split
   ·rename_i hjk; subst hjk; rw [hk0]; simp [(List.getElem?_eq_some_iff.1 hk0).1]
   ·rfl
  have := h vx V (.refl V) (by rw [hset]; exact ow)
  rw [hx]
  exact this
 ·obtain ⟨p, h6, h7, h8⟩ := Ow.chg (Bs := [.os R vx xs]) (ow.pick k hk0)
  obtain ⟨p1, p2, rfl, h9, h10⟩ := h7.split
  cases h10
  have h6' := h6.left
  rcases h9 with ⟨hxm, ⟨rfl, rfl, rfl⟩ | ⟨b, o', cs, rfl, rfl, ho', hrx⟩⟩
  ·have n : Ap V none V.H.next (V.app none (.cells R.sz vs)) (.cells R.sz vs) := ⟨rfl, rfl⟩
   have hno : ∀ c, (none : Option Nat) = some c → OwnO (fun _ => True) V c := fun c hc => by cases hc
   have hrec := h (.slice (some ⟨V.H.next, 0, none⟩) ys.length R.sz) (V.app none (.cells R.sz vs)) (n.le hno) ?_
   ·refine U.k ho hd hg (.app _ _ (.put x y ty ty' e q z 0 ys.length [] vs V.H hop hu h2 h3 (by rw [h4]; exact hz) (by rw [hy, h4]; exact hsrc) (by rw [hx]; exact .nil) hn (fun v hv => List.all_eq_true.1 (hrows.one R.ty) v hv) (by rw [h5, Nat.zero_add]; simpa using hb) (by simpa using hb2) (by rw [h4]; simpa using hsz)))
     (hk (V.app none (.cells R.sz vs)) (fun c hc _ => n.get hc (by simp)) |> fun h => by simpa [h4, Vw.app] using h) ?_
    simpa [MRes.get, Vw.app, h4] using hrec
   ·refine Ow.put hk0 (h8 _ [.os R (.slice (some ⟨V.H.next, 0, none⟩) ys.length R.sz) ([] ++ ys)] [(V.H.next, .cells R.sz vs)] (n.le hno) (fun c _ hc _ hf => ⟨n.get hc (by simp), hf⟩) ?_ (.cons [(V.H.next, .cells R.sz vs)] [] _ _ ⟨hmax, .inr ⟨V.H.next, 0, vs, by simp, rfl, Nat.zero_le _, ?_⟩⟩ .nil) (fun c hc => by simp at hc; subst hc; exact .inr (Nat.le_refl _)))
    ·exact .one V.lon (Nat.lt_succ_self _) (fun hf => by have := V.wf _ hf; omega) (by simp [Vw.app, AH.new])
    ·exact hrows.up R.ty (n.le hno)
  ·obtain ⟨q1, q2, q3, q4⟩ := h6'.own (b, .cells R.sz cs) (by simp)
   have n : Ap V (some b) V.H.next (V.app (some b) (.cells R.sz (cs.drop o' ++ vs))) (.cells R.sz (cs.drop o' ++ vs)) := ⟨rfl, rfl⟩
   have hno : ∀ c, some b = some c → OwnO (fun _ => True) V c := fun c hc => by cases hc; exact ⟨trivial, q1, q2, q3⟩
   have hcl : cs.length = o' + xs.length * R.sz := by
    have := hrx.len R.ty
    rw [List.length_drop] at this
    omega
   have hds := Dst.slice (H := V.H) (size := R.sz) b o' xs.length cs q1 q4 hcl
   have hrec := h (.slice (some ⟨V.H.next, 0, none⟩) (xs.length + ys.length) R.sz) (V.app (some b) (.cells R.sz (cs.drop o' ++ vs))) (n.le hno) ?_
   ·refine U.k ho hd hg (.app _ _ (.put x y ty ty' e q z xs.length ys.length (cs.drop o') vs (V.H.upd b none) hop hu h2 h3 (by rw [h4]; exact hz) (by rw [hy, h4]; exact hsrc) (by rw [hx, h4]; exact hds) hn (fun v hv => List.all_eq_true.1 (hrows.one R.ty) v hv) (by rw [h5]; exact hb) hb2 (by rw [h4]; simpa using hsz)))
     (hk (V.app (some b) (.cells R.sz (cs.drop o' ++ vs))) (fun c hc hne => n.get hc (fun e => hne _ h6' ⟨hxm, .inr ⟨b, o', cs, rfl, rfl, ho', hrx⟩⟩ (by cases e; simp))) |> fun h => by simpa [h4, Vw.app] using h) ?_
    simpa [MRes.get, Vw.app, h4, AH.upd] using hrec
   ·refine Ow.put hk0 (h8 _ [.os R (.slice (some ⟨V.H.next, 0, none⟩) (xs.length + ys.length) R.sz) (xs ++ ys)] [(V.H.next, .cells R.sz (cs.drop o' ++ vs))] (n.le hno) (fun c _ hc hcb hf => ⟨n.get hc (fun e => hcb (by cases e; simp)), hf⟩) ?_ (.cons [(V.H.next, _)] [] _ _ ⟨hmax, .inr ⟨V.H.next, 0, _, by simp, rfl, Nat.zero_le _, ?_⟩⟩ .nil) (fun c hc => by simp at hc; subst hc; exact .inr (Nat.le_refl _)))
    ·exact .one V.lon (by simp [Vw.app, AH.new, AH.upd]) (fun hf => by have := V.wf _ hf; omega) (by simp [Vw.app, AH.new, AH.upd])
    ·exact (hrx.append hrows).up R.ty (n.le hno)
theorem O.append {α : Type} {R : RT α} {xs ys zs : List α} {x y : Operand} {ty ty' e : TypeId} {z : Value} {m : Nat} {vx vy : Value} (ow : Ow V As) (hk0 : As[k]? = some (.os R vx xs)) (ho : ops[i]? = some o) (hd : o.dst = some d) (hg : GOk ops l o) (hop : o.op = .call { callee := .builtin .append, args := #[x, y], argTypes := #[ty, ty'] })
  (hx : aev (fr l) x = vx) (hy : aev (fr l) y = vy) (hu : P.underlying ty = some (.slice e)) (hi : tinfo P e z R.sz m) (hz : z.cells.size = R.sz) (hsz : (R.sz == 0) = false) (hm : m ≤ 4194304) (hY : SrcOk P R V vy ty' ys)
  (hap : ap xs ys = some zs) (hk : ∀ V1 : Vw, (∀ c, c < V.H.next → (∀ p, StP V p → (At.os R vx xs).sat V p → c ∉ p.map (·.1)) → V1.H.get c = V.H.get c) → okU dr ops i .eff V.H V1.H hist)
  (h : ∀ v' V1, V.le V1 → Ow V1 (As.set k (.os R v' zs)) → WU dr P G ops (i + 1) (hadd dr (i, .eff, V.H, V1.H) hist) ((d, v') :: l) V1.H Q) : WU dr P G ops i hist l V.H Q := by
 obtain ⟨e0, hlen⟩ := ap_eq hap
 exact O.append0 ow hk0 ho hd hg hop hx hy hu hi hz hsz (Nat.le_trans (Nat.mul_le_mul hlen hm) (by decide)) (Nat.lt_of_le_of_lt hlen (by decide)) hY e0 hk h
end
end Go.Vm
