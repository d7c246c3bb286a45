/-
  Part of an evaluator for the model, proved sound: no condition.
-/
import Derived.Test.YtlcjnalocidldaaDoorEVm3
set_option linter.unusedSimpArgs false
set_option linter.unusedVariables false
namespace Go.Vm
open Go
def splice (c : List Value) (off : Nat) (vs : List Value) : List Value := c.take off ++ vs ++ c.drop (off + vs.length)
theorem splice_length {c : List Value} {off : Nat} {vs : List Value} (h : off + vs.length ≤ c.length) : (splice c off vs).length = c.length := by
 simp [splice]; omega
theorem splice_get {c : List Value} {off : Nat} {vs : List Value} (h : off + vs.length ≤ c.length) (o : Nat) :
  (splice c off vs)[o]? = if off ≤ o ∧ o < off + vs.length then vs[o - off]? else c[o]? := by
 unfold splice
 by_cases h1 : o < off
 ·rw [if_neg (by omega), List.append_assoc, List.getElem?_append_left (by simp; omega), List.getElem?_take_of_lt h1]
 ·by_cases h2 : o < off + vs.length
  ·rw [if_pos ⟨by omega, h2⟩, List.getElem?_append_left (by simp; omega), List.getElem?_append_right (by simp; omega)]
   simp [Nat.min_eq_left (show off ≤ c.length by omega)]
  ·rw [if_neg (by omega), List.getElem?_append_right (by simp; omega)]
   simp only [List.length_append, List.length_take, List.getElem?_drop, Nat.min_eq_left (show off ≤ c.length by omega)]
   congr 1
   omega
theorem run_store_row {P : Program} {w : World} {g : Nat} {cs : Array Value} {elem : TypeId} {fr : Nat × Nat} (hg : w.heap[g]? = some (.cells cs elem fr)) (off : Nat) (vs : List Value)
  (hb : off + vs.length ≤ cs.size) (hf : ∀ o, o < cs.size → w.frozen? ⟨g, o, none⟩ = false) (h1 : ∀ v ∈ vs, One v = true) :
  ∃ w', (storeCells ⟨g, off, none⟩ vs).run P w = .ok () w' ∧ w'.heap.size = w.heap.size ∧ (∀ c, c ≠ g → w'.heap[c]? = w.heap[c]?) ∧
   (∃ cs', w'.heap[g]? = some (.cells cs' elem fr) ∧ cs'.toList = splice cs.toList off vs) ∧ Env w w' := by
 have key : ∀ (vs : List Value) (off i : Nat) (cs : Array Value) (w : World), w.heap[g]? = some (.cells cs elem fr) → off + i + vs.length ≤ cs.size → (∀ o, o < cs.size → w.frozen? ⟨g, o, none⟩ = false) → (∀ v ∈ vs, One v = true) →
   ∃ w', (storeCells ⟨g, off, none⟩ vs i).run P w = .ok () w' ∧ w'.heap.size = w.heap.size ∧ (∀ c, c ≠ g → w'.heap[c]? = w.heap[c]?) ∧
   (∃ cs', w'.heap[g]? = some (.cells cs' elem fr) ∧ cs'.toList = splice cs.toList (off + i) vs) ∧ Env w w' := by
  intro vs
  induction vs with
  | nil =>
   intro off i cs w hg hb hf h1
   exact ⟨w, rfl, rfl, fun _ _ => rfl, ⟨cs, hg, by simp [splice]⟩, Env.refl w⟩
  | cons v vs ih =>
   intro off i cs w hg hb hf h1
   simp at hb
   have hlt : off + i < cs.size := by omega
   have hcell : w.cell? ⟨g, off + i, none⟩ = some cs[off + i] := by simp [World.cell?, hg, hlt]
   have hst : (store ((⟨g, off, none⟩ : Addr).add i) v).run P w = .ok () (w.setCell ⟨g, off + i, none⟩ v) := by
    rw [add_none, run_store P w _ v _ (by have := h1 v (by simp); cases v <;> first | rfl | (simp [One] at this))]
    simp [hcell, hf (off + i) hlt]
   have hg' : (w.setCell ⟨g, off + i, none⟩ v).heap[g]? = some (.cells (cs.setIfInBounds (off + i) v) elem fr) := by
    simp [World.setCell, Array.getElem?_modify, hg]
   have hoth : ∀ c, c ≠ g → (w.setCell ⟨g, off + i, none⟩ v).heap[c]? = w.heap[c]? := fun c hc => by
    simp [World.setCell, Array.getElem?_modify, Ne.symm hc]
   have hsz : (w.setCell ⟨g, off + i, none⟩ v).heap.size = w.heap.size := by simp [World.setCell]
   obtain ⟨w', h2, h3, h4, ⟨cs', h5, h6⟩, h7⟩ := ih off (i + 1) _ _ hg' (by simp; omega) (fun o ho => by
    simp at ho
    have := hf o ho
    simp only [World.frozen?, hg, hg'] at this ⊢
    exact this) (fun v hv => h1 v (by simp [hv]))
   refine ⟨w', ?_, h3.trans hsz, fun c hc => (h4 c hc).trans (hoth c hc), ⟨cs', h5, ?_⟩, Env.trans ⟨rfl, rfl, rfl⟩ h7⟩
   ·simp [storeCells, hst, h2]
   ·rw [h6]
    apply List.ext_getElem?
    intro o
    rw [splice_get (by simp; omega), splice_get (by simp; omega)]
    simp only [Array.toList_setIfInBounds, List.length_cons]
    by_cases ha : off + (i + 1) ≤ o ∧ o < off + (i + 1) + vs.length
    ·rw [if_pos ha, if_pos (by omega), show o - (off + i) = (o - (off + (i + 1))) + 1 by omega, List.getElem?_cons_succ]
    ·rw [if_neg ha]
     by_cases hb : o = off + i
     ·subst hb
      rw [if_pos (by omega)]
      simp [hlt]
     ·rw [if_neg (by omega), List.getElem?_set_ne (by omega)]
 have := key vs off 0 cs w hg (by omega) hf h1
 simpa using this
inductive MRes where
 | val (v : Value)
 | unit
def MRes.next : MRes → Next
 | .val v => .value v
 | .unit => .skip
def MRes.get : MRes → Value
 | .val v => v
 | .unit => undef
def MRes.rel (lo : Nat) (ι : Inj) : MRes → MRes → Prop
 | .val v, .val u => VR lo ι v u
 | .unit, .unit => True
 | _, _ => False
def After (ι : Inj) (H H' : AH) (w w' : World) (ι' : Inj) : Prop := NN ι ι' H H' w ∧ R ι' H' w' ∧ Fr ι H w w'
def mset (es : List (Int × Value)) (k : Int) (v : Value) : List (Int × Value) := match mix es k with
 | some j => es.set j (k, v)
 | none => es ++ [(k, v)]
def mdel (es : List (Int × Value)) (k : Int) : List (Int × Value) := match mix es k with
 | some j => es.eraseIdx j
 | none => es
inductive MOp (P : Program) (ρ : Operand → Value) (H : AH) (o : Oper) : MRes → AH → Prop
 | store (t : TypeId) (x y : Operand) (b off esz : Nat) (c : List Value) (i : TypeInfo) (ho : o.op = .store t x y) (hx : ρ x = .pointer (some ⟨b, off, none⟩)) (hlo : H.lo ≤ b)
   (hg : H.get b = some (.cells esz c)) (hy : ρ y ≠ topV) (hi : P.info? t = some i) (hs : (ρ y).cells.size = i.size) (hb : off + i.size ≤ c.length) (h1 : ∀ v ∈ (ρ y).cells.toList, One v = true) :
   MOp P ρ H o .unit (H.upd b (some (.cells esz (splice c off (ρ y).cells.toList))))
 | storeT (t : TypeId) (x y : Operand) (b off : Nat) (ty : TypeId) (c : List Value) (i : TypeInfo) (ho : o.op = .store t x y) (hx : ρ x = .pointer (some ⟨b, off, none⟩)) (hlo : H.lo ≤ b)
   (hg : H.get b = some (.tcells ty c)) (hy : ρ y ≠ topV) (hi : P.info? t = some i) (hs : (ρ y).cells.size = i.size) (hb : off + i.size ≤ c.length) (h1 : ∀ v ∈ (ρ y).cells.toList, One v = true) :
   MOp P ρ H o .unit (H.upd b (some (.tcells ty (splice c off (ρ y).cells.toList))))
 | mapUpdate (t kt e : TypeId) (x y z : Operand) (b : Nat) (es : List (Int × Value)) (k : Int) (ho : o.op = .mapUpdate t x y z) (hx : ρ x = .map (some b)) (hy : ρ y = .int .i64 k) (hu : P.underlying t = some (.map kt e)) (hk : P.underlying kt = some (.int .i64))
   (hlo : H.lo ≤ b) (hg : H.get b = some (.amap es)) : MOp P ρ H o .unit (H.upd b (some (.amap (mset es k (ρ z)))))
 | delete (t t' kt e : TypeId) (x y : Operand) (b : Nat) (es : List (Int × Value)) (k : Int) (ho : o.op = .call { callee := .builtin .delete, args := #[x, y], argTypes := #[t, t'] }) (hx : ρ x = .map (some b)) (hy : ρ y = .int .i64 k) (hu : P.underlying t = some (.map kt e)) (hk : P.underlying kt = some (.int .i64))
   (hlo : H.lo ≤ b) (hg : H.get b = some (.amap es)) : MOp P ρ H o (.val (.tuple #[])) (H.upd b (some (.amap (mdel es k))))
 | clear (t et : TypeId) (x : Operand) (b off n esz : Nat) (c : List Value) (i : TypeInfo) (z : Value) (ho : o.op = .call { callee := .builtin .clear, args := #[x], argTypes := #[t] }) (hx : ρ x = .slice (some ⟨b, off, none⟩) n esz)
   (hu : P.underlying t = some (.slice et)) (hi : P.info? et = some i) (hz : i.zero = some z) (hc : constB z = true) (hzs : z.cells.size = esz) (hlo : H.lo ≤ b) (hg : H.get b = some (.cells esz c)) (hb : off + n * esz ≤ c.length) :
   MOp P ρ H o (.val (.tuple #[])) (H.upd b (some (.cells esz (c.take off))))
 | cut (t e : TypeId) (x y : Operand) (b off n esz m : Nat) (c : List Value) (kk : IntKind) (i : TypeInfo) (ho : o.op = .slice t x none (some y) none) (hx : ρ x = .slice (some ⟨b, off, none⟩) n esz) (hy : ρ y = .int kk m)
   (hu : P.underlying t = some (.slice e)) (hi : P.info? e = some i) (hs : esz = i.size) (hle : m ≤ n) (hlo : H.lo ≤ b) (hg : H.get b = some (.cells esz c)) :
   MOp P ρ H o (.val (.slice (some ⟨b, off, none⟩) m esz)) (H.upd b (some (.cells esz (c.take (off + m * esz)))))
 | clearNil (t et : TypeId) (x : Operand) (ho : o.op = .call { callee := .builtin .clear, args := #[x], argTypes := #[t] }) (hx : ρ x = .slice none 0 0) (hu : P.underlying t = some (.slice et)) : MOp P ρ H o (.val (.tuple #[])) H
theorem sameBits_int (k : IntKind) (n : Int) : Instr.sameBits 10000 (.int k n) (.int k n) = true := by simp [Instr.sameBits]
theorem Stmp.modify {cs : Array MapEntry} {clock : Nat} (h : Stmp cs clock) (j : Nat) (k : Int) (u : Value) : Stmp (cs.modify j (fun e => { e with key := .int .i64 k, val := u })) clock := by
 have e : (cs.modify j (fun e => { e with key := .int .i64 k, val := u })).toList.map (·.born) = cs.toList.map (·.born) := by
  apply List.ext_getElem?
  intro i
  rw [List.getElem?_map, List.getElem?_map, Array.getElem?_toList, Array.getElem?_toList, Array.getElem?_modify]
  cases cs[i]? with
  | none => split <;> rfl
  | some x => split <;> rfl
 refine ⟨by rw [e]; exact h.1, fun x hx => ?_⟩
 have h2 : x.born ∈ cs.toList.map (·.born) := by rw [← e]; exact List.mem_map_of_mem hx
 obtain ⟨y, hy, hb⟩ := List.mem_map.1 h2
 rw [← hb]
 exact h.2 y hy
theorem Stmp.push {cs : Array MapEntry} {clock : Nat} (h : Stmp cs clock) (k u : Value) : Stmp (cs.push { key := k, val := u, born := clock }) (clock + 1) := by
 refine ⟨?_, fun x hx => ?_⟩
 ·rw [Array.toList_push, List.map_append, List.nodup_append]
  refine ⟨h.1, by simp, fun a ha b hb => ?_⟩
  obtain ⟨y, hy, rfl⟩ := List.mem_map.1 ha
  have := h.2 y hy
  simp at hb
  omega
 ·rw [Array.toList_push] at hx
  rcases List.mem_append.1 hx with hx | hx
  ·have := h.2 x hx; omega
  ·rw [List.mem_singleton.1 hx]
   exact Nat.lt_succ_self _
theorem Stmp.erase {cs : Array MapEntry} {clock : Nat} (h : Stmp cs clock) (j : Nat) : Stmp (cs.eraseIdxIfInBounds j) clock := by
 have e : (cs.eraseIdxIfInBounds j).toList = cs.toList.eraseIdx j := by
  by_cases hj : j < cs.size
  ·rw [Array.eraseIdxIfInBounds, dif_pos hj, Array.toList_eraseIdx]
  ·rw [Array.eraseIdxIfInBounds, dif_neg hj, List.eraseIdx_of_length_le (by simpa using hj)]
 refine ⟨?_, fun x hx => h.2 x ?_⟩
 ·rw [e]
  exact h.1.sublist (List.Sublist.map _ (List.eraseIdx_sublist _ _))
 ·rw [e] at hx
  exact List.mem_of_mem_eraseIdx hx
theorem ObjRel.mset {lo : Nat} {ι : Inj} {b : Nat} {l : Loc} {w : World} {es : List (Int × Value)} {k : Int} {v u : Value} {cs : Array MapEntry} {clock : Nat} (hlt : l.blk < w.heap.size) (h2 : cs.size = es.length) (hst : Stmp cs clock)
  (h3 : ∀ (i : Nat) (q : Int) (v : Value), es[i]? = some (q, v) → ∃ e, cs[i]? = some e ∧ e.key = .int .i64 q ∧ VR lo ι v e.val) (hv : VR lo ι v u) :
  ∃ (cs' : Array MapEntry) (clock' : Nat), ObjRel lo ι b l { w with heap := w.heap.setIfInBounds l.blk (.map cs' clock') } (.amap (Vm.mset es k v)) ∧
   (match mix es k with | some j => cs' = cs.modify j (fun e => { e with key := .int .i64 k, val := u }) ∧ clock' = clock | none => cs' = cs.push { key := .int .i64 k, val := u, born := clock } ∧ clock' = clock + 1) := by
 unfold Vm.mset
 cases hm : mix es k with
 | some j =>
  refine ⟨cs.modify j (fun e => { e with key := .int .i64 k, val := u }), clock, ⟨cs.modify j (fun e => { e with key := .int .i64 k, val := u }), clock, by simp [hlt], by simp [h2], fun i q x hi => ?_, hst.modify j k u⟩, rfl, rfl⟩
  rw [List.getElem?_set] at hi
  by_cases hij : j = i
  ·subst hij
   rw [if_pos rfl] at hi
   split at hi
   ·cases hi
    rename_i hjl
    have : j < cs.size := by omega
    refine ⟨{ cs[j] with key := .int .i64 k, val := u }, ?_, rfl, hv⟩
    rw [Array.getElem?_modify]
    simp [this]
   ·cases hi
  ·rw [if_neg hij] at hi
   obtain ⟨e, h4, h5, h6⟩ := h3 i q x hi
   exact ⟨e, by rw [Array.getElem?_modify]; simp [hij, h4], h5, h6⟩
 | none =>
  refine ⟨cs.push { key := .int .i64 k, val := u, born := clock }, clock + 1, ⟨cs.push { key := .int .i64 k, val := u, born := clock }, clock + 1, by simp [hlt], by simp [h2], fun i q x hi => ?_, hst.push _ u⟩, rfl, rfl⟩
  by_cases hil : i < es.length
  ·rw [List.getElem?_append_left hil] at hi
   obtain ⟨e, h4, h5, h6⟩ := h3 i q x hi
   exact ⟨e, by rw [Array.getElem?_push]; simp [show i ≠ cs.size by omega, h4], h5, h6⟩
  ·have hil2 : i = es.length := by
    have := (List.getElem?_eq_some_iff.1 hi).1
    simp at this; omega
   subst hil2
   rw [List.getElem?_append_right (Nat.le_refl _)] at hi
   simp at hi
   obtain ⟨rfl, rfl⟩ := hi
   exact ⟨{ key := .int .i64 k, val := u, born := clock }, by rw [Array.getElem?_push]; simp [h2], rfl, hv⟩
theorem ObjRel.mdel {lo : Nat} {ι : Inj} {b : Nat} {l : Loc} {w : World} {es : List (Int × Value)} {k : Int} {cs : Array MapEntry} {clock : Nat} (hlt : l.blk < w.heap.size) (h2 : cs.size = es.length) (hst : Stmp cs clock)
  (h3 : ∀ (i : Nat) (q : Int) (v : Value), es[i]? = some (q, v) → ∃ e, cs[i]? = some e ∧ e.key = .int .i64 q ∧ VR lo ι v e.val) :
  ObjRel lo ι b l { w with heap := w.heap.setIfInBounds l.blk (.map (match mix es k with | some j => cs.eraseIdxIfInBounds j | none => cs) clock) } (.amap (Vm.mdel es k)) := by
 unfold Vm.mdel
 cases hm : mix es k with
 | none => exact ⟨cs, clock, by simp [hlt], h2, h3, hst⟩
 | some j =>
  have hj : j < es.length := (List.findIdx?_eq_some_iff_getElem.1 hm).1
  refine ⟨cs.eraseIdxIfInBounds j, clock, by simp [hlt], ?_, fun i q x hi => ?_, hst.erase j⟩
  ·rw [Array.eraseIdxIfInBounds, dif_pos (by omega)]
   simp [List.length_eraseIdx, hj, h2]
  ·rw [List.getElem?_eraseIdx] at hi
   rw [Array.eraseIdxIfInBounds, dif_pos (by omega)]
   have he : (cs.eraseIdx j (by omega))[i]? = (cs.toList.eraseIdx j)[i]? := by
    rw [← Array.getElem?_toList, Array.toList_eraseIdx]
   rw [he, List.getElem?_eraseIdx]
   split at hi
   ·rename_i hlt; obtain ⟨e, h4, h5, h6⟩ := h3 i q x hi; exact ⟨e, by simpa [hlt] using h4, h5, h6⟩
   ·rename_i hlt; obtain ⟨e, h4, h5, h6⟩ := h3 (i + 1) q x hi; exact ⟨e, by simpa [hlt] using h4, h5, h6⟩
theorem map_inv {lo : Nat} {ι : Inj} {b : Nat} {u : Value} (h : VR lo ι (.map (some b)) u) : ∃ l, ι b = some l ∧ u = .map (some l.blk) := by
 cases h with
 | atom _ h => cases h
 | map b l h => exact ⟨l, h, rfl⟩
theorem Atom.one {v : Value} (h : Atom v) : One v = true := by cases h <;> rfl
theorem MOp.sim {P : Program} {ρ σ : Operand → Value} {H H' : AH} {o : Oper} {m : MRes} {ι : Inj} {w : World} (hr : R ι H w) (h : MOp P ρ H o m H')
  (hv : ∀ x ∈ o.op.operands, VR H.lo ι (ρ x) (σ x)) : ∃ m' ι' w', MRes.rel H.lo ι' m m' ∧ After ι H H' w w' ι' ∧ (execOp σ o).run P w = .ok m'.next w' := by
 cases h with
 | store t x y b off esz c i ho hx hlo hg hy hi hs hb h1 =>
  have h2 := hv x (by simp [ho, Op.operands])
  rw [hx] at h2
  obtain ⟨l, hl, he⟩ := h2.ptr_inv
  have h3 := hv y (by simp [ho, Op.operands])
  obtain ⟨h4, h5⟩ := h3.cells hy
  obtain ⟨cs, elem, fr, h6, h7, h8, h9, h10, h11⟩ := hr.obj b l _ hl hg
  have hone : ∀ v ∈ (σ y).cells.toList, One v = true := fun v hv => by
   obtain ⟨j, hj⟩ := List.getElem?_of_mem hv
   rw [Array.getElem?_toList] at hj
   obtain ⟨h12, h13⟩ := Array.getElem?_eq_some_iff.1 hj
   have h14 : j < (ρ y).cells.size := by omega
   exact h13 ▸ (h5 j h14 h12).one (h1 _ (by simp))
  have hlen : (σ y).cells.toList.length = i.size := by simp; omega
  obtain ⟨w', h12, h13, h14, ⟨cs', h15, h16⟩, henv⟩ := run_store_row (P := P) h6 (l.base + off) (σ y).cells.toList (by omega) (unfz h6 (h11 hlo)) hone
  obtain ⟨h17, h18, h19⟩ := hr.write (w' := w') (x := .cells esz (splice c off (ρ y).cells.toList)) hl hlo (by rw [hg]; simp) h13 h14 henv ⟨cs', elem, fr, h15, by
    have : cs'.toList.length = cs.toList.length := by rw [h16]; exact splice_length (by rw [hlen]; simp; omega)
    simpa [h7] using this, h8, by
    have : cs'.toList.length = cs.toList.length := by rw [h16]; exact splice_length (by rw [hlen]; simp; omega)
    rw [splice_length (by simp; omega)]; simp at this; omega, fun o v hov => by
    rw [splice_get (by simp; omega)] at hov
    rw [← Array.getElem?_toList, h16, splice_get (by rw [hlen]; simp; omega)]
    simp only [Array.length_toList] at hov ⊢
    by_cases hin : off ≤ o ∧ o < off + (ρ y).cells.size
    ·rw [if_pos hin] at hov
     rw [if_pos (by omega), show l.base + o - (l.base + off) = o - off by omega]
     rw [Array.getElem?_toList] at hov ⊢
     obtain ⟨h20, h21⟩ := Array.getElem?_eq_some_iff.1 hov
     have h22 : o - off < (σ y).cells.size := by omega
     exact ⟨_, Array.getElem?_eq_getElem h22, h21 ▸ h5 _ h20 h22⟩
    ·rw [if_neg hin] at hov
     rw [if_neg (by omega), Array.getElem?_toList]
     exact h10 o v hov, fun hlo' => by
    have h20 : cs'.size = cs.size := by
     have : cs'.toList.length = cs.toList.length := by rw [h16]; exact splice_length (by rw [hlen]; simp; omega)
     simpa using this
    rw [h20]
    exact h11 hlo⟩
  refine ⟨.unit, ι, w', trivial, ⟨h18, h17, h19⟩, ?_⟩
  simp [execOp, ho, Instr.storeAt, he, Instr.sureAddr, storeVar, run_siz hi, ← h4, hs, h12, MRes.next]
 | storeT t x y b off ty c i ho hx hlo hg hy hi hs hb h1 =>
  have h2 := hv x (by simp [ho, Op.operands])
  rw [hx] at h2
  obtain ⟨l, hl, he⟩ := h2.ptr_inv
  have h3 := hv y (by simp [ho, Op.operands])
  obtain ⟨h4, h5⟩ := h3.cells hy
  obtain ⟨cs, h6, h8, h9, h10⟩ := hr.obj b l _ hl hg
  have hone : ∀ v ∈ (σ y).cells.toList, One v = true := fun v hv => by
   obtain ⟨j, hj⟩ := List.getElem?_of_mem hv
   rw [Array.getElem?_toList] at hj
   obtain ⟨h12, h13⟩ := Array.getElem?_eq_some_iff.1 hj
   have h14 : j < (ρ y).cells.size := by omega
   exact h13 ▸ (h5 j h14 h12).one (h1 _ (by simp))
  have hlen : (σ y).cells.toList.length = i.size := by simp; omega
  obtain ⟨w', h12, h13, h14, ⟨cs', h15, h16⟩, henv⟩ := run_store_row (P := P) h6 (l.base + off) (σ y).cells.toList (by omega) (unfz h6 (.inl rfl)) hone
  obtain ⟨h17, h18, h19⟩ := hr.write (w' := w') (x := .tcells ty (splice c off (ρ y).cells.toList)) hl hlo (by rw [hg]; simp) h13 h14 henv ⟨cs', h15, h8, by
    have : cs'.toList.length = cs.toList.length := by rw [h16]; exact splice_length (by rw [hlen]; simp; omega)
    rw [splice_length (by simp; omega)]; simp at this; omega, fun o v hov => by
    rw [splice_get (by simp; omega)] at hov
    rw [← Array.getElem?_toList, h16, splice_get (by rw [hlen]; simp; omega)]
    simp only [Array.length_toList] at hov ⊢
    by_cases hin : off ≤ o ∧ o < off + (ρ y).cells.size
    ·rw [if_pos hin] at hov
     rw [if_pos (by omega), show o - (l.base + off) = o - off by omega]
     rw [Array.getElem?_toList] at hov ⊢
     obtain ⟨h20, h21⟩ := Array.getElem?_eq_some_iff.1 hov
     have h22 : o - off < (σ y).cells.size := by omega
     exact ⟨_, Array.getElem?_eq_getElem h22, h21 ▸ h5 _ h20 h22⟩
    ·rw [if_neg hin] at hov
     rw [if_neg (by omega), Array.getElem?_toList]
     exact h10 o v hov⟩
  refine ⟨.unit, ι, w', trivial, ⟨h18, h17, h19⟩, ?_⟩
  simp [execOp, ho, Instr.storeAt, he, Instr.sureAddr, storeVar, run_siz hi, ← h4, hs, h12, MRes.next]
 | mapUpdate t kt e x y z b es k ho hx hy hu hk hlo hg =>
  have h1 := hv x (by simp [ho, Op.operands])
  have h2 := hv y (by simp [ho, Op.operands])
  have h2' := hv z (by simp [ho, Op.operands])
  rw [hx] at h1
  rw [hy] at h2
  have he2 := h2.int_eq
  obtain ⟨l, hl, he⟩ := map_inv h1
  obtain ⟨cs, clock, h3, h4, h5, hst⟩ := hr.obj b l _ hl hg
  have hlt := (hr.dom b l hl).2
  have h6 := findNow_rel (lo := H.lo) (ι := ι) (k := k) es cs.toList 0 (by simpa using h4) (fun i q v hi => by
   obtain ⟨e, h7, h8, h9⟩ := h5 i q v hi
   exact ⟨e, by simpa using h7, h8, h9⟩)
  have hck : ∀ em, (Instr.checkKey em 10000 kt (.int .i64 k)).run P w = .ok () w := fun em => by
   unfold Instr.checkKey
   simp [run_und hk]
  obtain ⟨cs', clock', ho1, ho2⟩ := ObjRel.mset (b := b) (l := l) (w := w) (k := k) (v := ρ z) (u := σ z) (clock := clock) hlt h4 hst h5 h2'
  obtain ⟨h17, h18, h19⟩ := hr.write (w' := { w with heap := w.heap.setIfInBounds l.blk (.map cs' clock') }) hl hlo (by rw [hg]; simp) (by simp) (fun c hc => by simp [Array.getElem?_setIfInBounds, Ne.symm hc]) ⟨rfl, rfl, rfl⟩ ho1
  refine ⟨.unit, ι, _, trivial, ⟨h18, h17, h19⟩, ?_⟩
  cases hm : mix es k with
  | none =>
   rw [hm] at h6 ho2
   obtain ⟨h7, h8⟩ := h6
   obtain ⟨rfl, rfl⟩ := ho2
   simp [execOp, ho, Instr.mapUpdate, run_und hu, he, he2, run_getObj_map h3, hck, Instr.findKey, run_und hk, h8, run_setObj_map _ h3, MRes.next]
  | some j =>
   rw [hm] at h6 ho2
   obtain ⟨e', v, q1, q2, q3, q4, q5, q6⟩ := h6
   obtain ⟨rfl, rfl⟩ := ho2
   have q1' : cs[j]? = some e' := by simpa using q1
   simp [execOp, ho, Instr.mapUpdate, run_und hu, he, he2, run_getObj_map h3, hck, Instr.findKey, run_und hk, q6, q1', q4, Instr.keyThatStays, sameBits_int, run_setObj_map _ h3, MRes.next]
 | delete t t' kt e x y b es k ho hx hy hu hk hlo hg =>
  have h1 := hv x (by simp [ho, Op.operands, Call.operands])
  have h2 := hv y (by simp [ho, Op.operands, Call.operands])
  rw [hx] at h1
  rw [hy] at h2
  have he2 := h2.int_eq
  obtain ⟨l, hl, he⟩ := map_inv h1
  obtain ⟨cs, clock, h3, h4, h5, hst⟩ := hr.obj b l _ hl hg
  have hlt := (hr.dom b l hl).2
  have h6 := findNow_rel (lo := H.lo) (ι := ι) (k := k) es cs.toList 0 (by simpa using h4) (fun i q v hi => by
   obtain ⟨e, h7, h8, h9⟩ := h5 i q v hi
   exact ⟨e, by simpa using h7, h8, h9⟩)
  have hck : ∀ em, (Instr.checkKey em 10000 kt (.int .i64 k)).run P w = .ok () w := fun em => by
   unfold Instr.checkKey
   simp [run_und hk]
  have ho1 := ObjRel.mdel (b := b) (l := l) (w := w) (k := k) (clock := clock) hlt h4 hst h5
  obtain ⟨h17, h18, h19⟩ := hr.write (w' := { w with heap := w.heap.setIfInBounds l.blk _ }) hl hlo (by rw [hg]; simp) (by simp) (fun c hc => by simp [Array.getElem?_setIfInBounds, Ne.symm hc]) ⟨rfl, rfl, rfl⟩ ho1
  refine ⟨.val (.tuple #[]), ι, _, .tuple _ _ rfl (fun i h1 => by simp at h1), ⟨h18, h17, h19⟩, ?_⟩
  cases hm : mix es k with
  | none =>
   rw [hm] at h6
   obtain ⟨h7, h8⟩ := h6
   simp [execOp, ho, resolve, invoke, builtin, Builtin.delete_, run_und hu, he, he2, run_getObj_map h3, hck, Instr.findKey, run_und hk, h8, run_setObj_map _ h3, MRes.next]
  | some j =>
   rw [hm] at h6
   obtain ⟨e', v, q1, q2, q3, q4, q5, q6⟩ := h6
   simp [execOp, ho, resolve, invoke, builtin, Builtin.delete_, run_und hu, he, he2, run_getObj_map h3, hck, Instr.findKey, run_und hk, q6, run_setObj_map _ h3, MRes.next]
 | clear t et x b off n esz c i z ho hx hu hi hz hc hzs hlo hg hb =>
  have h1 := hv x (by simp [ho, Op.operands, Call.operands])
  rw [hx] at h1
  generalize hσ : σ x = u at h1
  cases h1 with
  | atom _ h => cases h
  | slice b o n c l a' c' h hc' ha hs =>
   obtain ⟨cs, elem, fr, h6, h7, h8, h9, h10, h11⟩ := hr.obj b l _ h hg
   have hzv : ∀ w, (zeroValue et).run P w = .ok z w := fun w => by simp [zeroValue, typeInfo, hi, hz]
   have htr : ∀ (cs' : Array Value), cs'.size = cs.size → (∀ j, j < l.base + off → cs'[j]? = cs[j]?) → ∀ w' : World, w'.heap[l.blk]? = some (.cells cs' elem fr) → ObjRel H.lo ι b l w' (.cells esz (c.take off)) := fun cs' q1 q2 w' q3 =>
    ⟨cs', elem, fr, q3, by rw [q1]; exact h7, h8, by rw [q1, List.length_take]; have := Nat.min_le_right off c.length; omega, (fun j v hj => by
     rw [List.getElem?_take] at hj
     split at hj
     ·rename_i hlt
      obtain ⟨v', q4, q5⟩ := h10 j v hj
      exact ⟨v', by rw [q2 _ (by omega)]; exact q4, q5⟩
     ·cases hj), fun hlo' => by rw [q1]; exact h11 hlo'⟩
   by_cases hn : n = 0
   ·subst hn
    obtain ⟨h17, h18, h19⟩ := hr.write (w' := w) (x := .cells esz (c.take off)) h hlo (by rw [hg]; simp) rfl (fun _ _ => rfl) ⟨rfl, rfl, rfl⟩ (htr cs rfl (fun _ _ => rfl) w h6)
    refine ⟨.val (.tuple #[]), ι, w, .tuple _ _ rfl (fun i h1 => by simp at h1), ⟨h18, h17, h19⟩, ?_⟩
    simp [execOp, ho, resolve, invoke, builtin, Builtin.clear_, run_und hu, hσ, MRes.next]
   ·have hc0 : c' ≠ 0 := by omega
    have hr' := ha hc0
    subst hr'
    have hzl : (Builtin.zeroCells z.cells n).toList.length = n * esz := by simp [Builtin.zeroCells, hzs]
    have hone : ∀ v ∈ (Builtin.zeroCells z.cells n).toList, One v = true := fun v hv => by
     obtain ⟨j, hj, rfl⟩ := List.mem_iff_getElem.1 hv
     rw [hzl] at hj
     simp only [Builtin.zeroCells, Array.getElem_toList, Array.getElem_map, Array.getElem_range]
     have hm : j % z.cells.size < z.cells.size := Nat.mod_lt _ (by
      rw [hzs]
      rcases Nat.eq_zero_or_pos esz with e | e
      ·rw [e] at hj; omega
      ·exact e)
     rw [getElem!_pos z.cells _ hm]
     exact (constB_cells hc _ hm).one
    obtain ⟨w', h12, h13, h14, ⟨cs', h15, h16⟩, henv⟩ := run_store_row (P := P) h6 (l.base + off) (Builtin.zeroCells z.cells n).toList (by rw [hzl]; omega) (unfz h6 (h11 hlo)) hone
    have hlen : cs'.toList.length = cs.toList.length := by rw [h16]; exact splice_length (by rw [hzl]; simp; omega)
    obtain ⟨h17, h18, h19⟩ := hr.write (w' := w') (x := .cells esz (c.take off)) h hlo (by rw [hg]; simp) h13 h14 henv (htr cs' (by simpa using hlen) (fun j hj => by
     rw [← Array.getElem?_toList, h16, splice_get (by rw [hzl]; simp; omega), if_neg (by omega), Array.getElem?_toList]) w' h15)
    refine ⟨.val (.tuple #[]), ι, w', .tuple _ _ rfl (fun i h1 => by simp at h1), ⟨h18, h17, h19⟩, ?_⟩
    obtain ⟨k, rfl⟩ : ∃ k, n = k + 1 := ⟨n - 1, by omega⟩
    simp [execOp, ho, resolve, invoke, builtin, Builtin.clear_, run_und hu, hσ, hzv, h12, MRes.next]
 | cut t e x y b off n esz m c kk i ho hx hy hu hi hs hle hlo hg =>
  obtain ⟨u, hu', hrun⟩ := POp.sim (lo := H.lo) (ι := ι) (P := P) (.sliceS t x none (some y) none b off n esz 0 m e i ho hx hu hi (.inl ⟨rfl, rfl⟩) (.inr ⟨y, kk, rfl, hy⟩) (.inl rfl) (Nat.zero_le _) hle (.inl hs)) hv w
  have h1 := hv x (by simp [ho, Op.operands])
  rw [hx] at h1
  obtain ⟨l, a', c', hl, _⟩ := h1.slice_inv
  obtain ⟨cs, elem, fr, h6, h7, h8, h9, h10, h11⟩ := hr.obj b l _ hl hg
  obtain ⟨h17, h18, h19⟩ := hr.write (w' := w) (x := .cells esz (c.take (off + m * esz))) hl hlo (by rw [hg]; simp) rfl (fun _ _ => rfl) ⟨rfl, rfl, rfl⟩ ⟨cs, elem, fr, h6, h7, h8, by rw [List.length_take]; have := Nat.min_le_right (off + m * esz) c.length; omega, (fun j v hj => by
   rw [List.getElem?_take] at hj
   split at hj
   ·exact h10 j v hj
   ·cases hj), h11⟩
  rw [Nat.zero_mul, Nat.add_zero, Nat.sub_zero] at hu'
  refine ⟨.val u, ι, w, hu', ⟨h18, h17, h19⟩, ?_⟩
  simp [hrun, MRes.next]
 | clearNil t et x ho hx hu =>
  have h1 := hv x (by simp [ho, Op.operands, Call.operands])
  rw [hx] at h1
  have hσ := h1.atom_eq .nilSlice
  refine ⟨.val (.tuple #[]), ι, w, .tuple _ _ rfl (fun i h1 => by simp at h1), ⟨NN.refl _ _ _, hr, Fr.refl _ _ _⟩, ?_⟩
  simp [execOp, ho, resolve, invoke, builtin, Builtin.clear_, run_und hu, hσ, MRes.next]
end Go.Vm
