/-
  Part of an evaluator for the model, proved sound: no condition.
-/
import Derived.Test.YtlcjnalocidldaaDoorEVm2
import Derived.Laws.IdiomStrings
set_option linter.unusedSimpArgs false
set_option linter.unusedVariables false
namespace Go.Vm
open Go
theorem cell_congr {H G : AH} {b o : Nat} (h : G.get b = H.get b) : G.cell b o = H.cell b o := by unfold AH.cell; rw [h]
def mget (l : List (Int × Value)) (k : Int) : Option Value := (l.find? fun p => p.1 == k).map (·.2)
def mix (l : List (Int × Value)) (k : Int) : Option Nat := l.findIdx? fun p => p.1 == k
theorem findNow_rel {lo : Nat} {ι : Inj} {k : Int} : ∀ (es : List (Int × Value)) (cs : List MapEntry) (n : Nat), cs.length = es.length →
  (∀ (i : Nat) (q : Int) (v : Value), es[i]? = some (q, v) → ∃ e, cs[i]? = some e ∧ e.key = .int .i64 q ∧ VR lo ι v e.val) →
  match mix es k with
  | some j => ∃ e v, cs[j]? = some e ∧ mget es k = some v ∧ es[j]? = some (k, v) ∧ e.key = .int .i64 k ∧ VR lo ι v e.val ∧ Instr.findNow (.int .i64) (.int .i64 k) cs n = some (some (n + j, e.val))
  | none => mget es k = none ∧ Instr.findNow (.int .i64) (.int .i64 k) cs n = some none := by
 intro es
 induction es with
 | nil =>
  intro cs n hl _
  have : cs = [] := List.length_eq_zero_iff.1 hl
  subst this
  exact ⟨rfl, rfl⟩
 | cons p es ih =>
  intro cs n hl h
  match cs, hl with
  | c :: cs, hl =>
   obtain ⟨e, h1, h2, h3⟩ := h 0 p.1 p.2 rfl
   have h1 : c = e := by simpa using h1
   subst h1
   by_cases hk : p.1 = k
   ·subst hk
    have hm : mix (p :: es) p.1 = some 0 := by simp [mix, List.findIdx?_cons]
    rw [hm]
    refine ⟨c, p.2, rfl, by simp [mget], rfl, h2, h3, ?_⟩
    unfold Instr.findNow
    simp [Instr.sameNow, h2]
   ·have hb : (p.1 == k) = false := by simpa using hk
    have hkk : (k == p.1) = false := by simpa using Ne.symm hk
    have := ih cs (n + 1) (by simpa using hl) (fun i q v hi => by simpa using h (i + 1) q v (by simpa using hi))
    have hm : mix (p :: es) k = (mix es k).map (· + 1) := by simp [mix, List.findIdx?_cons, hb]
    have hg : mget (p :: es) k = mget es k := by simp [mget, List.find?_cons, hb]
    rw [hm, hg]
    have hf : Instr.findNow (.int .i64) (.int .i64 k) (c :: cs) n = Instr.findNow (.int .i64) (.int .i64 k) cs (n + 1) := by
     conv => lhs; unfold Instr.findNow
     simp [Instr.sameNow, h2, hkk]
    rw [hf]
    cases hmx : mix es k with
    | none => rw [hmx] at this; exact this
    | some j =>
     rw [hmx] at this
     obtain ⟨e, v, q1, q2, q3, q4, q5, q6⟩ := this
     exact ⟨e, v, by simpa using q1, q2, by simpa using q3, q4, q5, by rw [q6]; show some (some (n + 1 + j, e.val)) = some (some (n + (j + 1), e.val)); rw [Nat.add_assoc, Nat.add_comm 1 j]⟩
theorem run_getObj_map {P : Program} {w : World} {r : Nat} {es : Array MapEntry} {clock : Nat} (hb : w.heap[r]? = some (.map es clock)) : (getObj r).run P w = .ok (.map es clock) w := by simp [getObj, Sem.run, hb]
theorem run_setObj_map {P : Program} {w : World} {r : Nat} {es : Array MapEntry} {clock : Nat} (o : Obj) (hb : w.heap[r]? = some (.map es clock)) : (setObj r o).run P w = .ok () { w with heap := w.heap.setIfInBounds r o } := by simp [setObj, Sem.run, hb]
def lookV (ok : Bool) (es : List (Int × Value)) (k : Int) (z : Value) : Value := match mget es k with
 | some v => if ok then .tuple #[v, .bool true] else v
 | none => if ok then .tuple #[z, .bool false] else z
inductive LOp (P : Program) (ρ : Operand → Value) (H : AH) (o : Oper) : Nat → Value → Prop
 | load1 (t : TypeId) (x : Operand) (b off : Nat) (d : TypeDesc) (v : Value) (ho : o.op = .load t x) (hx : ρ x = .pointer (some ⟨b, off, none⟩))
   (hu : P.underlying t = some d) (ha : isAggD d = false) (hc : H.cell b off = some v) : LOp P ρ H o b v
 | loadN (t : TypeId) (x : Operand) (b off : Nat) (d : TypeDesc) (cs : List Value) (i : TypeInfo) (ho : o.op = .load t x) (hx : ρ x = .pointer (some ⟨b, off, none⟩))
   (hu : P.underlying t = some d) (ha : isAggD d = true) (hi : P.info? t = some i) (hl : cs.length = i.size) (hc : ∀ j v, cs[j]? = some v → H.cell b (off + j) = some v) : LOp P ρ H o b (.agg cs.toArray)
 | lookup (t kt e : TypeId) (x y : Operand) (b : Nat) (es : List (Int × Value)) (k : Int) (i : TypeInfo) (z : Value) (ok : Bool) (ho : o.op = .lookup t x y ok) (hx : ρ x = .map (some b)) (hy : ρ y = .int .i64 k)
   (hu : P.underlying t = some (.map kt e)) (hk : P.underlying kt = some (.int .i64)) (hi : P.info? e = some i) (hz : i.zero = some z) (hc : constB z = true) (hg : H.get b = some (.amap es)) : LOp P ρ H o b (lookV ok es k z)
 | lenM (t kt e : TypeId) (x : Operand) (b : Nat) (es : List (Int × Value)) (ho : o.op = .call { callee := .builtin .len, args := #[x], argTypes := #[t] }) (hx : ρ x = .map (some b)) (hu : P.underlying t = some (.map kt e)) (hg : H.get b = some (.amap es)) : LOp P ρ H o b (.int .i64 es.length)
 | str (t t' e : TypeId) (x : Operand) (b off c : Nat) (bs : List UInt8) (ho : o.op = .convert t t' x) (hx : ρ x = .slice (some ⟨b, off, none⟩) bs.length c) (hu : P.underlying t = some (.slice e)) (he : P.underlying e = some (.int .u8)) (hd : P.underlying t' = some .string)
   (hc : ∀ (j : Nat) (v : Value), (bs.map fun b => Value.int .u8 (b.toNat : Int))[j]? = some v → H.cell b (off + j) = some v) : LOp P ρ H o b (.string ⟨bs.toArray⟩)
theorem LOp.congr {P : Program} {ρ : Operand → Value} {H G : AH} {o : Oper} {b : Nat} {v : Value} (h : LOp P ρ H o b v) (hg : G.get b = H.get b) : LOp P ρ G o b v := by
 cases h with
 | load1 t x b off d v ho hx hu ha hc => exact .load1 t x b off d v ho hx hu ha ((cell_congr hg).trans hc)
 | loadN t x b off d cs i ho hx hu ha hi hl hc => exact .loadN t x b off d cs i ho hx hu ha hi hl (fun j v hj => (cell_congr hg).trans (hc j v hj))
 | lookup t kt e x y b es k i z ok ho hx hy hu hk hi hz hc hgb => exact .lookup t kt e x y b es k i z ok ho hx hy hu hk hi hz hc (hg.trans hgb)
 | lenM t kt e x b es ho hx hu hgb => exact .lenM t kt e x b es ho hx hu (hg.trans hgb)
 | str t t' e x b off c bs ho hx hu he hd hc => exact .str t t' e x b off c bs ho hx hu he hd (fun j v hj => (cell_congr hg).trans (hc j v hj))
theorem run_isAgg {P : Program} {t : TypeId} {d : TypeDesc} (h : P.underlying t = some d) (w : World) : (isAgg t).run P w = .ok (isAggD d) w := by
 unfold isAgg
 simp only [Sem.run_bind, run_und h, Result.andThen_ok]
 cases d <;> rfl
theorem LOp.sim {P : Program} {ρ σ : Operand → Value} {H : AH} {o : Oper} {b : Nat} {v : Value} {ι : Inj} {w : World} (hr : R ι H w) (h : LOp P ρ H o b v)
  (hv : ∀ x ∈ o.op.operands, VR H.lo ι (ρ x) (σ x)) : ∃ v', VR H.lo ι v v' ∧ (execOp σ o).run P w = .ok (.value v') w := by
 cases h with
 | load1 t x b off d v ho hx hu ha hc =>
  have h1 := hv x (by simp [ho, Op.operands])
  rw [hx] at h1
  obtain ⟨l, hl, he⟩ := h1.ptr_inv
  obtain ⟨v', h2, h3⟩ := hr.cell hl hc
  exact ⟨v', h3, by simp [execOp, ho, Instr.loadAt, he, Instr.sureAddr, loadVar, run_isAgg hu, ha, h2]⟩
 | loadN t x b off d cs i ho hx hu ha hi hl hc =>
  have h1 := hv x (by simp [ho, Op.operands])
  rw [hx] at h1
  obtain ⟨l, hbl, he⟩ := h1.ptr_inv
  have hex : ∀ j, ∃ v', (∀ v, cs[j]? = some v → w.cell? ⟨l.blk, l.base + (off + j), none⟩ = some v' ∧ VR H.lo ι v v') := fun j => by
   cases hj : cs[j]? with
   | none => exact ⟨undef, fun _ h => by cases h⟩
   | some v => obtain ⟨v', h2, h3⟩ := hr.cell hbl (hc j v hj); exact ⟨v', fun u hu => by cases hu; exact ⟨h2, h3⟩⟩
  obtain ⟨f, hf⟩ := Classical.axiomOfChoice hex
  have hlist : ∀ j v, ((List.range cs.length).map f)[j]? = some v → w.cell? ((⟨l.blk, l.base + off, none⟩ : Addr).add j) = some v := fun j v hj => by
   rw [add_none]
   rw [List.getElem?_map] at hj
   by_cases hjl : j < cs.length
   ·rw [List.getElem?_range hjl] at hj
    simp at hj
    subst hj
    rw [Nat.add_assoc]
    exact (hf j cs[j] (List.getElem?_eq_getElem hjl)).1
   ·rw [List.getElem?_eq_none (by simpa using hjl)] at hj
    cases hj
  have hrun := run_loadCells_list (P := P) w ⟨l.blk, l.base + off, none⟩ _ hlist
  simp only [List.length_map, List.length_range] at hrun
  refine ⟨.agg ((List.range cs.length).map f).toArray, .agg _ _ (by simp) (fun j h1 h2 => ?_), ?_⟩
  ·simp at h1
   simpa using (hf j cs[j] (List.getElem?_eq_getElem h1)).2
  ·simp [execOp, ho, Instr.loadAt, he, Instr.sureAddr, loadVar, run_isAgg hu, ha, run_siz hi, ← hl, hrun]
 | str t t' e x b off c bs ho hx hu he hd hc =>
  have h1 := hv x (by simp [ho, Op.operands])
  rw [hx] at h1
  obtain ⟨l, a', c', hbl, he', h3, h4, _⟩ := h1.slice_inv
  refine ⟨_, .atom _ (.string _), ?_⟩
  have hrun := run_convert_bytes_back (P := P) w t t' e a' c' bs hu he hd (fun j hj => by
   have ha := h4 (by omega)
   subst ha
   obtain ⟨v', h5, h6⟩ := hr.cell hbl (hc j (.int .u8 (bs[j].toNat : Int)) (by rw [List.getElem?_map, List.getElem?_eq_getElem hj]; rfl))
   rw [add_none, Nat.add_assoc, h5, h6.int_eq])
  simp [execOp, ho, he', hrun]
 | lookup t kt e x y b es k i z ok ho hx hy hu hk hi hz hc hgb =>
  have h1 := hv x (by simp [ho, Op.operands])
  have h2 := hv y (by simp [ho, Op.operands])
  rw [hx] at h1
  rw [hy] at h2
  have he2 := h2.int_eq
  obtain ⟨l, hl, he⟩ : ∃ l, ι b = some l ∧ σ x = .map (some l.blk) := by
   generalize σ x = u at h1
   cases h1 with
   | atom _ h => cases h
   | map b l h => exact ⟨l, h, rfl⟩
  obtain ⟨cs, clock, h3, h4, h5, hst⟩ := hr.obj b l _ hl hgb
  have h6 := findNow_rel (lo := H.lo) (ι := ι) (k := k) es cs.toList 0 (by simpa using h4) (fun i q v hi => by
   obtain ⟨e, h7, h8, h9⟩ := h5 i q v hi
   exact ⟨e, by simpa using h7, h8, h9⟩)
  have hck : ∀ em, (Instr.checkKey em 10000 kt (.int .i64 k)).run P w = .ok () w := fun em => by
   unfold Instr.checkKey
   simp [run_und hk]
  have hzv : (zeroValue e).run P w = .ok z w := by simp [zeroValue, typeInfo, hi, hz]
  cases hm : mix es k with
  | none =>
   rw [hm] at h6
   obtain ⟨h7, h8⟩ := h6
   refine ⟨lookV ok es k z, ?_, ?_⟩
   ·unfold lookV
    rw [h7]
    have hzr : VR H.lo ι z z := .of_flat (constB_ok hc)
    cases ok
    ·exact hzr
    ·refine .tuple _ _ rfl (fun j h1 h2 => ?_)
     match j, h1 with
     | 0, _ => exact hzr
     | 1, _ => exact .atom _ (.bool _)
   ·unfold lookV
    rw [h7]
    simp [execOp, ho, Instr.lookup, run_und hu, he, he2, run_getObj_map h3, hck, Instr.findKey, run_und hk, h8, hzv]
  | some j =>
   rw [hm] at h6
   obtain ⟨e', v, q1, q2, q3, q4, q5, q6⟩ := h6
   refine ⟨if ok then .tuple #[e'.val, .bool true] else e'.val, ?_, ?_⟩
   ·unfold lookV
    rw [q2]
    cases ok
    ·exact q5
    ·refine .tuple _ _ rfl (fun j h1 h2 => ?_)
     match j, h1 with
     | 0, _ => exact q5
     | 1, _ => exact .atom _ (.bool _)
   ·simp [execOp, ho, Instr.lookup, run_und hu, he, he2, run_getObj_map h3, hck, Instr.findKey, run_und hk, q6]
 | lenM t kt e x b es ho hx hu hgb =>
  have h1 := hv x (by simp [ho, Op.operands, Call.operands])
  rw [hx] at h1
  obtain ⟨l, hl, he⟩ : ∃ l, ι b = some l ∧ σ x = .map (some l.blk) := by
   generalize σ x = u at h1
   cases h1 with
   | atom _ h => cases h
   | map b l h => exact ⟨l, h, rfl⟩
  obtain ⟨cs, clock, h3, h4, h5, hst⟩ := hr.obj b l _ hl hgb
  refine ⟨.int .i64 es.length, .atom _ (.int _ _), ?_⟩
  simp [execOp, ho, he, resolve, invoke, builtin, Builtin.len_, run_und hu, goInt, run_getObj_map h3, h4]
theorem R.heap_congr {ι : Inj} {H : AH} {w w' : World} (h : w'.heap = w.heap) (hr : R ι H w) : R ι H w' :=
 ⟨fun b l o hb hg => (hr.obj b l o hb hg).keep ι.le_refl (by rw [h]), hr.inj, fun b l hb => by rw [h]; exact hr.dom b l hb, hr.low⟩
theorem R.new' {ι : Inj} {H : AH} {w w' : World} (hr : R ι H w) {x : AObj} {y : Obj} {l : Loc} (hl : l.blk = w.heap.size) (hw : w'.heap = w.heap.push y) (henv : Env w w')
  (hx : ObjRel H.lo (ι.ext H.next l) H.next l w' x) :
  R (ι.ext H.next l) (H.new x) w' ∧ NN ι (ι.ext H.next l) H (H.new x) w ∧ Fr ι H w w' := by
 obtain ⟨h1, h2, h3⟩ := hr.new (x := x) (y := y) (l := l) hl (hx.keep (Inj.le_refl _) (by rw [hw]; rfl))
 exact ⟨h1.heap_congr hw, h2, by unfold Fr at h3 ⊢; rw [hw]; exact ⟨h3.1, h3.2.1, henv⟩⟩
theorem VR.cells {lo : Nat} {ι : Inj} {v u : Value} (h : VR lo ι v u) (ht : v ≠ topV) :
  v.cells.size = u.cells.size ∧ ∀ (i : Nat) (h1 : i < v.cells.size) (h2 : i < u.cells.size), VR lo ι v.cells[i] u.cells[i] := by
 have key : ∀ v u : Value, VR lo ι v u → v.cells = #[v] → u.cells = #[u] → (v.cells.size = u.cells.size ∧ ∀ (i : Nat) (h1 : i < v.cells.size) (h2 : i < u.cells.size), VR lo ι v.cells[i] u.cells[i]) := by
  intro v u h h1 h2
  refine ⟨by rw [h1, h2]; rfl, fun i h3 h4 => ?_⟩
  simp only [h1, h2] at h3 h4 ⊢
  have : i = 0 := by simp at h3; exact h3
  subst this
  exact h
 cases h with
 | top => exact absurd rfl ht
 | agg xs ys hs h => exact ⟨hs, h⟩
 | atom _ ha => cases ha <;> exact key _ _ (.atom _ (by constructor)) rfl rfl
 | ptr b o l h => exact key _ _ (.ptr b o l h) rfl rfl
 | slice b o n c l a' c' h hc ha hs => exact key _ _ (.slice b o n c l a' c' h hc ha hs) rfl rfl
 | map b l h => exact key _ _ (.map b l h) rfl rfl
 | tuple xs ys hs h => exact key _ _ (.tuple xs ys hs h) rfl rfl
 | func fn xs ys us vs hs h hs' h' => exact key _ _ (.func fn xs ys us vs hs h hs' h') rfl rfl
theorem ObjRel.row {lo : Nat} {ι : Inj} {b : Nat} {l : Loc} {w w' : World} {cs : Array Value} {elem : TypeId} {fr : Nat × Nat} {esz : Nat} {c : List Value}
  (hw : w'.heap = w.heap.push (.cells cs elem fr)) (hb : l.blk = w.heap.size) (hbase : l.base = 0) (hez : l.esz = esz) (hcs : l.csz = cs.size) (hlen : c.length ≤ cs.size)
  (hfr : fr = (0, 0) ∨ fr.1 = cs.size) (hc : ∀ (o : Nat) (v : Value), c[o]? = some v → ∃ v', cs[o]? = some v' ∧ VR lo ι v v') : ObjRel lo ι b l w' (.cells esz c) := by
 refine ⟨cs, elem, fr, by rw [hw, hb]; simp, hcs.symm, hez, by rw [hbase]; omega, fun o v ho => by rw [hbase, Nat.zero_add]; exact hc o v ho, fun _ => hfr.imp (fun h => by rw [h]) (fun h => Nat.le_of_eq h.symm)⟩
theorem constB_cells {z : Value} (h : constB z = true) (i : Nat) (hi : i < z.cells.size) : Atom z.cells[i] := by
 cases z with
 | agg cs =>
  simp only [Value.cells] at hi ⊢
  exact atomB_ok (List.all_eq_true.1 h _ (by simp))
 | _ =>
  simp only [Value.cells] at hi ⊢
  have : i = 0 := by simp at hi; exact hi
  subst this
  exact atomB_ok h
def VRs (lo : Nat) (ι : Inj) (xs ys : Array Value) : Prop := xs.size = ys.size ∧ ∀ (i : Nat) (h1 : i < xs.size) (h2 : i < ys.size), VR lo ι xs[i] ys[i]
theorem VRs.set {lo : Nat} {ι : Inj} {xs ys : Array Value} (h : VRs lo ι xs ys) {v u : Value} (hv : VR lo ι v u) (i : Nat) : VRs lo ι (xs.setIfInBounds i v) (ys.setIfInBounds i u) := by
 refine ⟨by simp [h.1], fun j h1 h2 => ?_⟩
 simp at h1 h2
 by_cases hij : i = j
 ·subst hij; simpa using hv
 ·rw [Array.getElem_setIfInBounds_ne h1 hij, Array.getElem_setIfInBounds_ne h2 hij]; exact h.2 j h1 h2
theorem VRs.fold {lo : Nat} {ι : Inj} (off : Nat) : ∀ (l l' : List (Value × Nat)) (xs ys : Array Value), VRs lo ι xs ys → l.length = l'.length → (∀ (i : Nat) (p q : Value × Nat), l[i]? = some p → l'[i]? = some q → VR lo ι p.1 q.1 ∧ p.2 = q.2) →
  VRs lo ι (l.foldl (fun cs (c, j) => cs.setIfInBounds (off + j) c) xs) (l'.foldl (fun cs (c, j) => cs.setIfInBounds (off + j) c) ys)
 | [], [], xs, ys, h, _, _ => h
 | p :: l, q :: l', xs, ys, h, hl, hp => by
  obtain ⟨h1, h2⟩ := hp 0 p q rfl rfl
  obtain ⟨p1, p2⟩ := p
  obtain ⟨q1, q2⟩ := q
  simp only at h1 h2
  subst h2
  simp only [List.foldl_cons]
  exact VRs.fold off l l' _ _ (h.set h1 _) (by simpa using hl) (fun i p q hi hi' => hp (i + 1) p q hi hi')
 | [], _ :: _, _, _, _, hl, _ => by simp at hl
 | _ :: _, [], _, _, _, hl, _ => by simp at hl
theorem fill_rel {lo : Nat} {ι : Inj} (place : Nat → Option (Nat × Nat)) : ∀ (ps qs : List (Nat × Value)) (xs ys r : Array Value), VRs lo ι xs ys → ps.length = qs.length →
  (∀ (i : Nat) (p q : Nat × Value), ps[i]? = some p → qs[i]? = some q → p.1 = q.1 ∧ p.2 ≠ topV ∧ VR lo ι p.2 q.2) → Instr.fill place xs ps = some r → ∃ r', Instr.fill place ys qs = some r' ∧ VRs lo ι r r'
 | [], [], xs, ys, r, h, _, _, hr => by cases hr; exact ⟨ys, rfl, h⟩
 | p :: ps, q :: qs, xs, ys, r, h, hl, hp, hr => by
  obtain ⟨h1, h2, h3⟩ := hp 0 p q rfl rfl
  obtain ⟨p1, p2⟩ := p
  obtain ⟨q1, q2⟩ := q
  simp only at h1 h2 h3
  subst h1
  obtain ⟨h4, h5⟩ := h3.cells h2
  unfold Instr.fill at hr ⊢
  cases hpl : place p1 with
  | none => rw [hpl] at hr; cases hr
  | some os =>
   obtain ⟨off, size⟩ := os
   rw [hpl] at hr
   simp only at hr ⊢
   rw [← h4, ← h.1]
   split at hr
   ·cases hr
   ·rename_i hc
    rw [if_neg hc]
    refine fill_rel place ps qs _ _ r ?_ (by simpa using hl) (fun i p q hi hi' => hp (i + 1) p q hi hi') hr
    have hfold := VRs.fold (lo := lo) (ι := ι) off p2.cells.zipIdx.toList q2.cells.zipIdx.toList xs ys h (by simp [h4]) (fun i x y hx hy => by
     simp only [Array.toList_zipIdx, List.getElem?_zipIdx, Array.getElem?_toList] at hx hy
     simp at hx hy
     obtain ⟨a, ha, rfl⟩ := hx
     obtain ⟨b, hb, rfl⟩ := hy
     obtain ⟨h6, h7⟩ := Array.getElem?_eq_some_iff.1 ha
     obtain ⟨h8, h9⟩ := Array.getElem?_eq_some_iff.1 hb
     exact ⟨h7 ▸ h9 ▸ h5 i h6 h8, rfl⟩)
    rw [← Array.foldl_toList, ← Array.foldl_toList]
    exact hfold
 | [], _ :: _, _, _, _, _, hl, _, _ => by simp at hl
 | _ :: _, [], _, _, _, _, hl, _, _ => by simp at hl
theorem constB_VRs {lo : Nat} {ι : Inj} {z : Value} (h : constB z = true) : VRs lo ι z.cells z.cells := ⟨rfl, fun i h1 _ => .atom _ (constB_cells h i h1)⟩
inductive AOp (P : Program) (ρ : Operand → Value) (o : Oper) (n : Nat) : Value → AObj → Prop
 | alloc (e : TypeId) (i : TypeInfo) (z : Value) (ho : o.op = .alloc e) (hi : P.info? e = some i) (hz : i.zero = some z) (hf : constB z = true) :
   AOp P ρ o n (.pointer (some ⟨n, 0, none⟩)) (.cells i.size z.cells.toList)
 | allocT (e : TypeId) (i : TypeInfo) (z : Value) (ho : o.op = .alloc e) (hi : P.info? e = some i) (hz : i.zero = some z) (hf : constB z = true) :
   AOp P ρ o n (.pointer (some ⟨n, 0, none⟩)) (.tcells e z.cells.toList)
 | box (e : TypeId) (x : Operand) (ho : o.op = .box e x) (hx : ρ x ≠ topV) : AOp P ρ o n (.pointer (some ⟨n, 0, none⟩)) (.cells 0 (ρ x).cells.toList)
 | makeMap (t : TypeId) (ho : o.op = .makeMap t none) : AOp P ρ o n (.map (some n)) (.amap [])
 | makeSlice (t : TypeId) (x : Operand) (k : IntKind) (e : TypeId) (i : TypeInfo) (z : Value) (m : Nat) (y : Operand) (k' : IntKind) (ho : o.op = .makeSlice t x y) (hx : ρ x = .int k m) (hy : ρ y = .int k' m)
   (hu : P.underlying t = some (.slice e)) (hi : P.info? e = some i) (hz : i.zero = some z) (hf : constB z = true) (hsz : z.cells.size = i.size) (hb : m < 2 ^ 40) (hb2 : m * i.bytes ≤ 2 ^ 46) (hi0 : i.size ≠ 0) :
   AOp P ρ o n (.slice (some ⟨n, 0, none⟩) m i.size) (.cells i.size ((List.range (m * i.size)).map fun j => z.cells[j % z.cells.size]!))
 | buildSlice (t : TypeId) (len : Nat) (parts : Array (Nat × Operand)) (e : TypeId) (i : TypeInfo) (z : Value) (r : Array Value) (ho : o.op = .buildSlice t len parts) (hu : P.underlying t = some (.slice e)) (hi : P.info? e = some i)
   (hz : i.zero = some z) (hf : constB z = true) (hsz : z.cells.size = i.size) (hlim : len * i.size ≤ 2 ^ 24) (ht : ∀ p ∈ parts, ρ p.2 ≠ topV)
   (hr : Instr.fill (fun k => some (k * i.size, i.size)) ((Array.range (len * i.size)).map fun j => z.cells[j % z.cells.size]!) (parts.map fun (k, x) => (k, ρ x)).toList = some r) (hrs : r.size = len * i.size) (hi0 : i.size ≠ 0) :
   AOp P ρ o n (.slice (some ⟨n, 0, none⟩) len i.size) (.cells i.size r.toList)
theorem wrap_small {m : Nat} (h : m < 2 ^ 40) : IntKind.i64.wrap (m : Int) = m := by
 have := (Int.ofNat_le.2 (Nat.le_of_lt h))
 unfold IntKind.wrap
 simp [IntKind.signed, IntKind.bits]
 omega
theorem AOp.sim {P : Program} {ρ σ : Operand → Value} {H : AH} {o : Oper} {v : Value} {x : AObj} {ι : Inj} {w : World} (hr : R ι H w) (h : AOp P ρ o H.next v x)
  (hv : ∀ x ∈ o.op.operands, VR H.lo ι (ρ x) (σ x)) : ∃ l v' w' y, l.blk = w.heap.size ∧ (w'.heap = w.heap.push y ∧ Env w w') ∧ VR H.lo (ι.ext H.next l) v v' ∧ ObjRel H.lo (ι.ext H.next l) H.next l w' x ∧ (execOp σ o).run P w = .ok (.value v') w' := by
 cases h with
 | alloc e i z ho hi hz hf =>
  refine ⟨⟨w.heap.size, 0, i.size, z.cells.size⟩, .pointer (some ⟨w.heap.size, 0, none⟩), push w (.cells z.cells e), .cells z.cells e, rfl, ⟨rfl, rfl, rfl, rfl⟩, .ptr _ 0 _ Inj.ext_self, ?_, ?_⟩
  ·refine ObjRel.row (w := w) (fr := (0, 0)) rfl rfl rfl rfl rfl (by simp) (.inl rfl) (fun o v ho => ?_)
   rw [Array.getElem?_toList] at ho
   obtain ⟨h1, h2⟩ := Array.getElem?_eq_some_iff.1 ho
   exact ⟨v, ho, .atom _ (h2 ▸ constB_cells hf o h1)⟩
  ·simp [execOp, ho, Instr.alloc, zeroValue, typeInfo, hi, hz, newVar, newRow, push]
 | allocT e i z ho hi hz hf =>
  refine ⟨⟨w.heap.size, 0, i.size, z.cells.size⟩, .pointer (some ⟨w.heap.size, 0, none⟩), push w (.cells z.cells e), .cells z.cells e, rfl, ⟨rfl, rfl, rfl, rfl⟩, .ptr _ 0 _ Inj.ext_self, ?_, ?_⟩
  ·refine ⟨z.cells, by show (w.heap.push (.cells z.cells e))[w.heap.size]? = _; simp, rfl, by simp, fun o v ho => ?_⟩
   rw [Array.getElem?_toList] at ho
   obtain ⟨h1, h2⟩ := Array.getElem?_eq_some_iff.1 ho
   exact ⟨v, ho, .atom _ (h2 ▸ constB_cells hf o h1)⟩
  ·simp [execOp, ho, Instr.alloc, zeroValue, typeInfo, hi, hz, newVar, newRow, push]
 | box e x ho hx =>
  have h1 := hv x (by simp [ho, Op.operands])
  obtain ⟨h2, h3⟩ := h1.cells hx
  refine ⟨⟨w.heap.size, 0, 0, (σ x).cells.size⟩, .pointer (some ⟨w.heap.size, 0, none⟩), push w (.cells (σ x).cells e), .cells (σ x).cells e, rfl, ⟨rfl, rfl, rfl, rfl⟩, .ptr _ 0 _ Inj.ext_self, ?_, ?_⟩
  ·refine ObjRel.row (w := w) (fr := (0, 0)) rfl rfl rfl rfl rfl (by simp [h2]) (.inl rfl) (fun o v ho => ?_)
   rw [Array.getElem?_toList] at ho
   obtain ⟨h4, h5⟩ := Array.getElem?_eq_some_iff.1 ho
   have h6 : o < (σ x).cells.size := by omega
   exact ⟨_, Array.getElem?_eq_getElem h6, h5 ▸ (h3 o h4 h6).mono (hr.ext_le _)⟩
  ·simp [execOp, ho, Instr.box, newVar, newRow, push]
 | makeMap t ho =>
  refine ⟨⟨w.heap.size, 0, 0, 0⟩, .map (some w.heap.size), push w (.map #[] 0), .map #[] 0, rfl, ⟨rfl, rfl, rfl, rfl⟩, .map _ _ Inj.ext_self, ⟨#[], 0, by simp only [push]; exact Array.getElem?_push_size, rfl, fun i k v h => by simp at h, by simp [Stmp]⟩, ?_⟩
  simp [execOp, ho, Instr.makeMap, push]
 | makeSlice t x k e i z m y k' ho hx hy hu hi hz hf hsz hb hb2 hi0 =>
  have h1 := hv x (by simp [ho, Op.operands])
  rw [hx] at h1
  have h1 := h1.int_eq
  have h1' := hv y (by simp [ho, Op.operands])
  rw [hy] at h1'
  have h1' := h1'.int_eq
  let cells : Array Value := (Array.range (m * i.size)).map fun j => z.cells[j % z.cells.size]!
  have hcs : cells.size = m * i.size := by simp [cells]
  have hcl : cells.toList = (List.range (m * i.size)).map fun j => z.cells[j % z.cells.size]! := by simp [cells]
  refine ⟨⟨w.heap.size, 0, i.size, m * i.size⟩, .slice (some ⟨w.heap.size, 0, none⟩) m m, push w (.cells cells e), .cells cells e, rfl, ⟨rfl, rfl, rfl, rfl⟩, .slice _ 0 m i.size _ _ m Inj.ext_self (Nat.le_refl _) (fun _ => rfl) (fun _ => ⟨rfl, fun _ => by simp⟩), ?_, ?_⟩
  ·refine ObjRel.row (w := w) (fr := (0, 0)) rfl rfl rfl rfl hcs.symm (by simp [hcs]) (.inl rfl) (fun o v ho => ?_)
   rw [← hcl, Array.getElem?_toList] at ho
   refine ⟨v, ho, .atom _ ?_⟩
   obtain ⟨h4, h5⟩ := Array.getElem?_eq_some_iff.1 ho
   simp only [cells, Array.getElem_map, Array.getElem_range] at h5
   rw [hcs] at h4
   have : 0 < z.cells.size := by rw [hsz]; omega
   have h6 : o % z.cells.size < z.cells.size := Nat.mod_lt _ this
   rw [getElem!_pos z.cells _ h6] at h5
   exact h5 ▸ constB_cells hf _ h6
  ·have hw := wrap_small hb
   have e1 : ((i.bytes : Int) * m) ≤ 281474976710656 := by
    have h7 : ((i.bytes * m : Nat) : Int) ≤ ((2 ^ 46 : Nat) : Int) := Int.ofNat_le.2 (by rw [Nat.mul_comm]; exact hb2)
    rw [Int.natCast_mul] at h7
    exact Int.le_trans h7 (by decide)
   have e2 : ¬ ((m : Int) < 0) := by omega
   have e3 : ¬ (281474976710656 < (i.bytes : Int) * m) := by omega
   by_cases hm0 : m * i.size = 0
   ·have hce : cells = #[] := by apply Array.eq_empty_of_size_eq_zero; omega
    simp [execOp, ho, Instr.makeSlice, run_und hu, h1, h1', asInt, asIntOf, typeInfo, hi, hw, e1, e2, e3, newRow, push, run_siz hi, zeroValue, hz, hm0, hce]
    rw [show Array.map (fun _ => (default : Value)) (Array.range 0) = #[] from by apply Array.eq_empty_of_size_eq_zero; simp]
   ·have hce : ((Array.range (m * i.size)).map fun j => z.cells[j % z.cells.size]!) = cells := rfl
    simp [execOp, ho, Instr.makeSlice, run_und hu, h1, h1', asInt, asIntOf, typeInfo, hi, hw, e1, e2, e3, newRow, push, run_siz hi, zeroValue, hz, hm0, hce]
 | buildSlice t len parts e i z r ho hu hi hz hf hsz hlim ht hfl hrs hi0 =>
  have hz0 : VRs H.lo ι ((Array.range (len * i.size)).map fun j => z.cells[j % z.cells.size]!) ((Array.range (len * i.size)).map fun j => z.cells[j % z.cells.size]!) := by
   refine ⟨rfl, fun j h1 h2 => .atom _ ?_⟩
   simp only [Array.getElem_map, Array.getElem_range]
   have h3 : 0 < z.cells.size := by rw [hsz]; omega
   have h6 : j % z.cells.size < z.cells.size := Nat.mod_lt _ h3
   rw [getElem!_pos z.cells _ h6]
   exact constB_cells hf _ h6
  obtain ⟨r', h1, h2⟩ := fill_rel (lo := H.lo) (ι := ι) _ _ (parts.map fun (k, x) => (k, σ x)).toList _ _ r hz0 (by simp) (fun k p q hk hk' => by
   simp at hk hk'
   obtain ⟨a, b, h1, rfl⟩ := hk
   obtain ⟨a', b', h1', rfl⟩ := hk'
   rw [h1] at h1'
   cases h1'
   have hm : (a, b) ∈ parts := Array.mem_of_getElem? h1
   exact ⟨rfl, ht _ hm, hv b (by simp only [ho, Op.operands]; simpa using ⟨a, hm⟩)⟩) hfl
  have hr' : r'.size = len * i.size := by rw [← h2.1]; exact hrs
  refine ⟨⟨w.heap.size, 0, i.size, len * i.size⟩, .slice (some ⟨w.heap.size, 0, none⟩) len len, push w (.cells r' e), .cells r' e, rfl, ⟨rfl, rfl, rfl, rfl⟩, .slice _ 0 len i.size _ _ len Inj.ext_self (Nat.le_refl _) (fun _ => rfl) (fun _ => ⟨rfl, fun _ => by simp⟩), ?_, ?_⟩
  ·refine ObjRel.row (w := w) (fr := (0, 0)) rfl rfl rfl rfl hr'.symm (by simp [hrs, hr']) (.inl rfl) (fun o v ho => ?_)
   rw [Array.getElem?_toList] at ho
   obtain ⟨h4, h5⟩ := Array.getElem?_eq_some_iff.1 ho
   have h6 : o < r'.size := by omega
   exact ⟨_, Array.getElem?_eq_getElem h6, h5 ▸ (h2.2 o h4 h6).mono (hr.ext_le _)⟩
  ·have hlim' : ¬ (16777216 < len * i.size) := by omega
   simp only [Array.toList_map] at h1
   by_cases hm0 : len * i.size = 0
   ·have hempty : ((Array.range (len * i.size)).map fun j => z.cells[j % z.cells.size]!) = #[] := by apply Array.eq_empty_of_size_eq_zero; simp [hm0]
    rw [hempty] at h1
    have hr0 : Array.map (fun _ => (default : Value)) (Array.range 0) = #[] := by apply Array.eq_empty_of_size_eq_zero; simp
    simp [execOp, ho, Instr.buildSlice, run_und hu, run_siz hi, hlim', hm0]
    simp [hr0, h1, newRow, push]
   ·simp [execOp, ho, Instr.buildSlice, run_und hu, run_siz hi, hlim', hm0, zeroValue, typeInfo, hi, hz]
    simp [h1, newRow, push]
end Go.Vm
namespace Go.Vm
open Go
def placesOf (P : Program) (fields : Array Field) : Option (Array (Nat × Nat)) := fields.mapM fun f => (P.info? f.type).map fun i => (f.offset, i.size)
theorem run_places {P : Program} {fields : Array Field} {pl : Array (Nat × Nat)} (h : placesOf P fields = some pl) (w : World) :
  (fields.mapM fun f => Prod.mk f.offset <$> sizeOf f.type : Sem (Array (Nat × Nat))).run P w = .ok pl w := by
 rw [Array.mapM_eq_mapM_toList]
 unfold placesOf at h
 rw [Array.mapM_eq_mapM_toList] at h
 have key : ∀ (l : List Field) (q : List (Nat × Nat)), (l.mapM fun f => (P.info? f.type).map fun i => (f.offset, i.size)) = some q → (l.mapM fun f => Prod.mk f.offset <$> sizeOf f.type : Sem (List (Nat × Nat))).run P w = .ok q w := by
  intro l
  induction l with
  | nil => intro q hq; simp at hq; subst hq; rfl
  | cons f l ih =>
   intro q hq
   simp only [List.mapM_cons] at hq ⊢
   cases hi : P.info? f.type with
   | none => rw [hi] at hq; cases hq
   | some i =>
    rw [hi] at hq
    cases hm : (l.mapM fun f => (P.info? f.type).map fun i => (f.offset, i.size)) with
    | none => rw [hm] at hq; cases hq
    | some q' =>
     rw [hm] at hq
     simp at hq
     subst hq
     simp [run_siz hi, ih q' hm]
 cases hm : (fields.toList.mapM fun f => (P.info? f.type).map fun i => (f.offset, i.size)) with
 | none => rw [hm] at h; cases h
 | some q =>
  rw [hm] at h
  simp at h
  subst h
  simp [key _ q hm]
inductive BOp (P : Program) (ρ : Operand → Value) (o : Oper) : Value → Prop
 | buildS (t : TypeId) (parts : Array (Nat × Operand)) (fields : Array Field) (i : TypeInfo) (z : Value) (pl : Array (Nat × Nat)) (r : Array Value) (ho : o.op = .build t parts)
   (hu : P.underlying t = some (.struct fields)) (hi : P.info? t = some i) (hz : i.zero = some z) (hf : constB z = true) (hp : placesOf P fields = some pl)
   (ht : ∀ p ∈ parts, ρ p.2 ≠ topV) (hr : Instr.fill (pl[·]?) z.cells (parts.map fun (i, x) => (i, ρ x)).toList = some r) : BOp P ρ o (.agg r)
 | buildA (t : TypeId) (parts : Array (Nat × Operand)) (n : Nat) (e : TypeId) (i ie : TypeInfo) (z : Value) (r : Array Value) (ho : o.op = .build t parts)
   (hu : P.underlying t = some (.array n e)) (hi : P.info? t = some i) (hz : i.zero = some z) (hf : constB z = true) (he : P.info? e = some ie)
   (ht : ∀ p ∈ parts, ρ p.2 ≠ topV) (hr : Instr.fill (fun k => some (k * ie.size, ie.size)) z.cells (parts.map fun (i, x) => (i, ρ x)).toList = some r) : BOp P ρ o (.agg r)
 | field (t : TypeId) (x : Operand) (f : Nat) (fields : Array Field) (fd : Field) (cs : Array Value) (d : TypeDesc) (v : Value) (ho : o.op = .field t x f) (hx : ρ x = .agg cs)
   (hu : P.underlying t = some (.struct fields)) (hf : fields[f]? = some fd) (hd : P.underlying fd.type = some d) (ha : isAggD d = false) (hv : cs[fd.offset]? = some v) : BOp P ρ o v
 | indexArr (t : TypeId) (x ix : Operand) (n : Nat) (e : TypeId) (cs : Array Value) (k : IntKind) (j : Int) (d : TypeDesc) (v : Value) (i : TypeInfo) (ho : o.op = .index t x ix) (hx : ρ x = .agg cs) (hix : ρ ix = .int k j)
   (hu : P.underlying t = some (.array n e)) (h0 : 0 ≤ j) (h1 : j < n) (hi : P.info? e = some i) (hd : P.underlying e = some d) (ha : isAggD d = false) (hv : cs[j.toNat * i.size]? = some v) : BOp P ρ o v
theorem VR.agg_inv {lo : Nat} {ι : Inj} {xs : Array Value} {u : Value} (h : VR lo ι (.agg xs) u) : ∃ ys, u = .agg ys ∧ VRs lo ι xs ys := by
 generalize hx : Value.agg xs = x at h
 cases h with
 | agg xs' ys hs h' => cases hx; exact ⟨ys, rfl, hs, h'⟩
 | atom _ h => subst hx; cases h
 | _ => cases hx
theorem BOp.sim {P : Program} {ρ σ : Operand → Value} {o : Oper} {v : Value} {lo : Nat} {ι : Inj} (h : BOp P ρ o v) (hv : ∀ x ∈ o.op.operands, VR lo ι (ρ x) (σ x)) (w : World) :
  ∃ v', VR lo ι v v' ∧ (execOp σ o).run P w = .ok (.value v') w := by
 cases h with
 | buildS t parts fields i z pl r ho hu hi hz hf hp ht hr =>
  obtain ⟨r', h1, h2⟩ := fill_rel (lo := lo) (ι := ι) (pl[·]?) _ (parts.map fun (i, x) => (i, σ x)).toList _ _ r (constB_VRs hf) (by simp) (fun k p q hk hk' => by
   simp at hk hk'
   obtain ⟨a, b, h1, rfl⟩ := hk
   obtain ⟨a', b', h1', rfl⟩ := hk'
   rw [h1] at h1'
   cases h1'
   have hm : (a, b) ∈ parts := Array.mem_of_getElem? h1
   exact ⟨rfl, ht _ hm, hv b (by simp only [ho, Op.operands]; simpa using ⟨a, hm⟩)⟩) hr
  refine ⟨.agg r', .agg _ _ h2.1 h2.2, ?_⟩
  have h3 := run_places hp w
  simp only [Array.toList_map] at h1
  simp [execOp, ho, Instr.build, zeroValue, typeInfo, hi, hz, run_und hu] at h3 ⊢
  simp [h3, h1]
 | buildA t parts n e i ie z r ho hu hi hz hf he ht hr =>
  obtain ⟨r', h1, h2⟩ := fill_rel (lo := lo) (ι := ι) (fun k => some (k * ie.size, ie.size)) _ (parts.map fun (i, x) => (i, σ x)).toList _ _ r (constB_VRs hf) (by simp) (fun k p q hk hk' => by
   simp at hk hk'
   obtain ⟨a, b, h1, rfl⟩ := hk
   obtain ⟨a', b', h1', rfl⟩ := hk'
   rw [h1] at h1'
   cases h1'
   have hm : (a, b) ∈ parts := Array.mem_of_getElem? h1
   exact ⟨rfl, ht _ hm, hv b (by simp only [ho, Op.operands]; simpa using ⟨a, hm⟩)⟩) hr
  refine ⟨.agg r', .agg _ _ h2.1 h2.2, ?_⟩
  simp only [Array.toList_map] at h1
  simp [execOp, ho, Instr.build, zeroValue, typeInfo, hi, hz, run_und hu, run_siz he, h1]
 | field t x f fields fd cs d v ho hx hu hf hd ha hcv =>
  have h1 := hv x (by simp [ho, Op.operands])
  rw [hx] at h1
  obtain ⟨ys, he, hs, hp⟩ := h1.agg_inv
  obtain ⟨h2, h3⟩ := Array.getElem?_eq_some_iff.1 hcv
  have h4 : fd.offset < ys.size := by omega
  refine ⟨ys[fd.offset], h3 ▸ hp _ h2 h4, ?_⟩
  simp [execOp, ho, Instr.field, run_und hu, hf, he, asAgg, part, run_isAgg hd, ha, h4]
 | indexArr t x ix n e cs k j d v i ho hx hix hu h0 h1 hi hd ha hcv =>
  have h5 := hv x (by simp [ho, Op.operands])
  rw [hx] at h5
  obtain ⟨ys, he, hs, hp⟩ := h5.agg_inv
  have h6 := hv ix (by simp [ho, Op.operands])
  rw [hix] at h6
  have h6 := h6.int_eq
  obtain ⟨h2, h3⟩ := Array.getElem?_eq_some_iff.1 hcv
  have h4 : j.toNat * i.size < ys.size := by omega
  refine ⟨ys[j.toNat * i.size], h3 ▸ hp _ h2 h4, ?_⟩
  simp [execOp, ho, Instr.index, run_und hu, he, h6, asIntOf, h0, h1, part, run_isAgg hd, ha, h4, run_siz hi]
end Go.Vm
