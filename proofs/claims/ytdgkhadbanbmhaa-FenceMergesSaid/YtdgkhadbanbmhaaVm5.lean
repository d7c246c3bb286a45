/-
  Part of an evaluator for the model, proved sound: no condition.
-/
import Derived.Test.YtdgkhadbanbmhaaVm4
set_option linter.unusedSimpArgs false
set_option linter.unusedVariables false
namespace Go.Vm
open Go

/-! ## Operations that write -/

def splice (c : List Value) (off : Nat) (vs : List Value) : List Value := c.take off ++ vs ++ c.drop (off + vs.length)

theorem splice_length {c : List Value} {off : Nat} {vs : List Value} (h : off + vs.length ≤ c.length) : (splice c off vs).length = c.length := by
  simp [splice]; omega

theorem splice_get {c : List Value} {off : Nat} {vs : List Value} (h : off + vs.length ≤ c.length) (o : Nat) :
    (splice c off vs)[o]? = if off ≤ o ∧ o < off + vs.length then vs[o - off]? else c[o]? := by
  unfold splice
  by_cases h1 : o < off
  · rw [if_neg (by omega), List.append_assoc, List.getElem?_append_left (by simp; omega), List.getElem?_take_of_lt h1]
  · by_cases h2 : o < off + vs.length
    · rw [if_pos ⟨by omega, h2⟩, List.getElem?_append_left (by simp; omega), List.getElem?_append_right (by simp; omega)]
      simp [Nat.min_eq_left (show off ≤ c.length by omega)]
    · rw [if_neg (by omega), List.getElem?_append_right (by simp; omega)]
      simp only [List.length_append, List.length_take, List.getElem?_drop, Nat.min_eq_left (show off ≤ c.length by omega)]
      congr 1
      omega

/-- Stores into a row: what the world is then. -/
theorem run_store_row {P : Program} {w : World} {g : Nat} {cs : Array Value} {elem : TypeId} {fr : Nat × Nat} (hg : w.heap[g]? = some (.cells cs elem fr)) (off : Nat) (vs : List Value)
    (hb : off + vs.length ≤ cs.size) (hf : ∀ o, o < cs.size → w.frozen? ⟨g, o, none⟩ = false) (h1 : ∀ v ∈ vs, One v = true) :
    ∃ w', (storeCells ⟨g, off, none⟩ vs).run P w = .ok () w' ∧ w'.heap.size = w.heap.size ∧ (∀ c, c ≠ g → w'.heap[c]? = w.heap[c]?) ∧
      (∃ cs', w'.heap[g]? = some (.cells cs' elem fr) ∧ cs'.toList = splice cs.toList off vs) ∧ Env w w' := by
  have key : ∀ (vs : List Value) (off i : Nat) (cs : Array Value) (w : World), w.heap[g]? = some (.cells cs elem fr) → off + i + vs.length ≤ cs.size → (∀ o, o < cs.size → w.frozen? ⟨g, o, none⟩ = false) → (∀ v ∈ vs, One v = true) →
      ∃ w', (storeCells ⟨g, off, none⟩ vs i).run P w = .ok () w' ∧ w'.heap.size = w.heap.size ∧ (∀ c, c ≠ g → w'.heap[c]? = w.heap[c]?) ∧
      (∃ cs', w'.heap[g]? = some (.cells cs' elem fr) ∧ cs'.toList = splice cs.toList (off + i) vs) ∧ Env w w' := by
    intro vs
    induction vs with
    | nil =>
      intro off i cs w hg hb hf h1
      exact ⟨w, rfl, rfl, fun _ _ => rfl, ⟨cs, hg, by simp [splice]⟩, Env.refl w⟩
    | cons v vs ih =>
      intro off i cs w hg hb hf h1
      simp at hb
      have hlt : off + i < cs.size := by omega
      have hcell : w.cell? ⟨g, off + i, none⟩ = some cs[off + i] := by simp [World.cell?, hg, hlt]
      have hst : (store ((⟨g, off, none⟩ : Addr).add i) v).run P w = .ok () (w.setCell ⟨g, off + i, none⟩ v) := by
        rw [add_none, run_store P w _ v _ (by have := h1 v (by simp); cases v <;> first | rfl | (simp [One] at this))]
        simp [hcell, hf (off + i) hlt]
      have hg' : (w.setCell ⟨g, off + i, none⟩ v).heap[g]? = some (.cells (cs.setIfInBounds (off + i) v) elem fr) := by
        simp [World.setCell, Array.getElem?_modify, hg]
      have hoth : ∀ c, c ≠ g → (w.setCell ⟨g, off + i, none⟩ v).heap[c]? = w.heap[c]? := fun c hc => by
        simp [World.setCell, Array.getElem?_modify, Ne.symm hc]
      have hsz : (w.setCell ⟨g, off + i, none⟩ v).heap.size = w.heap.size := by simp [World.setCell]
      obtain ⟨w', h2, h3, h4, ⟨cs', h5, h6⟩, h7⟩ := ih off (i + 1) _ _ hg' (by simp; omega) (fun o ho => by
        simp at ho
        have := hf o ho
        simp only [World.frozen?, hg, hg'] at this ⊢
        exact this) (fun v hv => h1 v (by simp [hv]))
      refine ⟨w', ?_, h3.trans hsz, fun c hc => (h4 c hc).trans (hoth c hc), ⟨cs', h5, ?_⟩, Env.trans ⟨rfl, rfl, rfl⟩ h7⟩
      · simp [storeCells, hst, h2]
      · rw [h6]
        apply List.ext_getElem?
        intro o
        rw [splice_get (by simp; omega), splice_get (by simp; omega)]
        simp only [Array.toList_setIfInBounds, List.length_cons]
        by_cases ha : off + (i + 1) ≤ o ∧ o < off + (i + 1) + vs.length
        · rw [if_pos ha, if_pos (by omega), show o - (off + i) = (o - (off + (i + 1))) + 1 by omega, List.getElem?_cons_succ]
        · rw [if_neg ha]
          by_cases hb : o = off + i
          · subst hb
            rw [if_pos (by omega)]
            simp [hlt]
          · rw [if_neg (by omega), List.getElem?_set_ne (by omega)]
  have := key vs off 0 cs w hg (by omega) hf h1
  simpa using this

inductive MRes where
  | val (v : Value)
  | unit

def MRes.next : MRes → Next
  | .val v => .value v
  | .unit => .skip
def MRes.get : MRes → Value
  | .val v => v
  | .unit => undef
def MRes.rel (lo : Nat) (ι : Inj) : MRes → MRes → Prop
  | .val v, .val u => VR lo ι v u
  | .unit, .unit => True
  | _, _ => False

/-- What a machine's step leaves, against what the abstract one does. -/
def After (ι : Inj) (H H' : AH) (w w' : World) (ι' : Inj) : Prop := NN ι ι' H H' w ∧ R ι' H' w' ∧ Fr ι H w w'

inductive MOp (P : Program) (ρ : Operand → Value) (H : AH) (o : Oper) : MRes → AH → Prop
  | store (t : TypeId) (x y : Operand) (b off esz : Nat) (c : List Value) (i : TypeInfo) (ho : o.op = .store t x y) (hx : ρ x = .pointer (some ⟨b, off, none⟩)) (hlo : H.lo ≤ b)
      (hg : H.get b = some (.cells esz c)) (hy : ρ y ≠ topV) (hi : P.info? t = some i) (hs : (ρ y).cells.size = i.size) (hb : off + i.size ≤ c.length) (h1 : ∀ v ∈ (ρ y).cells.toList, One v = true) :
      MOp P ρ H o .unit (H.upd b (some (.cells esz (splice c off (ρ y).cells.toList))))

theorem MOp.sim {P : Program} {ρ σ : Operand → Value} {H H' : AH} {o : Oper} {m : MRes} {ι : Inj} {w : World} (hr : R ι H w) (h : MOp P ρ H o m H')
    (hv : ∀ x ∈ o.op.operands, VR H.lo ι (ρ x) (σ x)) : ∃ m' ι' w', MRes.rel H.lo ι' m m' ∧ After ι H H' w w' ι' ∧ (execOp σ o).run P w = .ok m'.next w' := by
  cases h with
  | store t x y b off esz c i ho hx hlo hg hy hi hs hb h1 =>
    have h2 := hv x (by simp [ho, Op.operands])
    rw [hx] at h2
    obtain ⟨l, hl, he⟩ := h2.ptr_inv
    have h3 := hv y (by simp [ho, Op.operands])
    obtain ⟨h4, h5⟩ := h3.cells hy
    obtain ⟨cs, elem, fr, h6, h7, h8, h9, h10, h11⟩ := hr.obj b l _ hl hg
    have hone : ∀ v ∈ (σ y).cells.toList, One v = true := fun v hv => by
      obtain ⟨j, hj⟩ := List.getElem?_of_mem hv
      rw [Array.getElem?_toList] at hj
      obtain ⟨h12, h13⟩ := Array.getElem?_eq_some_iff.1 hj
      have h14 : j < (ρ y).cells.size := by omega
      exact h13 ▸ (h5 j h14 h12).one (h1 _ (by simp))
    have hlen : (σ y).cells.toList.length = i.size := by simp; omega
    obtain ⟨w', h12, h13, h14, ⟨cs', h15, h16⟩, henv⟩ := run_store_row (P := P) h6 (l.base + off) (σ y).cells.toList (by omega) (h11 hlo) hone
    obtain ⟨h17, h18, h19⟩ := hr.write (w' := w') (x := .cells esz (splice c off (ρ y).cells.toList)) hl hlo (by rw [hg]; simp) h13 h14 henv ⟨cs', elem, fr, h15, by
        have : cs'.toList.length = cs.toList.length := by rw [h16]; exact splice_length (by rw [hlen]; simp; omega)
        simpa [h7] using this, h8, by
        have : cs'.toList.length = cs.toList.length := by rw [h16]; exact splice_length (by rw [hlen]; simp; omega)
        rw [splice_length (by simp; omega)]; simp at this; omega, fun o v hov => by
        rw [splice_get (by simp; omega)] at hov
        rw [← Array.getElem?_toList, h16, splice_get (by rw [hlen]; simp; omega)]
        simp only [Array.length_toList] at hov ⊢
        by_cases hin : off ≤ o ∧ o < off + (ρ y).cells.size
        · rw [if_pos hin] at hov
          rw [if_pos (by omega), show l.base + o - (l.base + off) = o - off by omega]
          rw [Array.getElem?_toList] at hov ⊢
          obtain ⟨h20, h21⟩ := Array.getElem?_eq_some_iff.1 hov
          have h22 : o - off < (σ y).cells.size := by omega
          exact ⟨_, Array.getElem?_eq_getElem h22, h21 ▸ h5 _ h20 h22⟩
        · rw [if_neg hin] at hov
          rw [if_neg (by omega), Array.getElem?_toList]
          exact h10 o v hov, fun hlo' o ho => by
        have h20 : cs'.size = cs.size := by
          have : cs'.toList.length = cs.toList.length := by rw [h16]; exact splice_length (by rw [hlen]; simp; omega)
          simpa using this
        have := h11 hlo o (by omega)
        simp only [World.frozen?, h6, h15] at this ⊢
        exact this⟩
    refine ⟨.unit, ι, w', trivial, ⟨h18, h17, h19⟩, ?_⟩
    simp [execOp, ho, Instr.storeAt, he, Instr.sureAddr, storeVar, run_siz hi, ← h4, hs, h12, MRes.next]

end Go.Vm
