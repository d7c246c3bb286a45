/-
  Part of an evaluator for the model, proved sound: no condition.
-/
import Derived.Test.YtngmbcedamphmaaEVm3
set_option linter.unusedSimpArgs false
set_option linter.unusedVariables false
namespace Go.Vm
open Go
def placesOf (P : Program) (fields : Array Field) : Option (Array (Nat × Nat)) := fields.mapM fun f => (P.info? f.type).map fun i => (f.offset, i.size)
theorem run_places {P : Program} {fields : Array Field} {pl : Array (Nat × Nat)} (h : placesOf P fields = some pl) (w : World) :
  (fields.mapM fun f => Prod.mk f.offset <$> sizeOf f.type : Sem (Array (Nat × Nat))).run P w = .ok pl w := by
 rw [Array.mapM_eq_mapM_toList]
 unfold placesOf at h
 rw [Array.mapM_eq_mapM_toList] at h
 have key : ∀ (l : List Field) (q : List (Nat × Nat)), (l.mapM fun f => (P.info? f.type).map fun i => (f.offset, i.size)) = some q → (l.mapM fun f => Prod.mk f.offset <$> sizeOf f.type : Sem (List (Nat × Nat))).run P w = .ok q w := by
  intro l
  induction l with
  | nil => intro q hq; simp at hq; subst hq; rfl
  | cons f l ih =>
   intro q hq
   simp only [List.mapM_cons] at hq ⊢
   cases hi : P.info? f.type with
   | none => rw [hi] at hq; cases hq
   | some i =>
    rw [hi] at hq
    cases hm : (l.mapM fun f => (P.info? f.type).map fun i => (f.offset, i.size)) with
    | none => rw [hm] at hq; cases hq
    | some q' =>
     rw [hm] at hq
     simp at hq
     subst hq
     simp [run_siz hi, ih q' hm]
 cases hm : (fields.toList.mapM fun f => (P.info? f.type).map fun i => (f.offset, i.size)) with
 | none => rw [hm] at h; cases h
 | some q =>
  rw [hm] at h
  simp at h
  subst h
  simp [key _ q hm]
inductive BOp (P : Program) (ρ : Operand → Value) (o : Oper) : Value → Prop
 | buildS (t : TypeId) (parts : Array (Nat × Operand)) (fields : Array Field) (i : TypeInfo) (z : Value) (pl : Array (Nat × Nat)) (r : Array Value) (ho : o.op = .build t parts)
   (hu : P.underlying t = some (.struct fields)) (hi : P.info? t = some i) (hz : i.zero = some z) (hf : constB z = true) (hp : placesOf P fields = some pl)
   (ht : ∀ p ∈ parts, ρ p.2 ≠ topV) (hr : Instr.fill (pl[·]?) z.cells (parts.map fun (i, x) => (i, ρ x)).toList = some r) : BOp P ρ o (.agg r)
 | buildA (t : TypeId) (parts : Array (Nat × Operand)) (n : Nat) (e : TypeId) (i ie : TypeInfo) (z : Value) (r : Array Value) (ho : o.op = .build t parts)
   (hu : P.underlying t = some (.array n e)) (hi : P.info? t = some i) (hz : i.zero = some z) (hf : constB z = true) (he : P.info? e = some ie)
   (ht : ∀ p ∈ parts, ρ p.2 ≠ topV) (hr : Instr.fill (fun k => some (k * ie.size, ie.size)) z.cells (parts.map fun (i, x) => (i, ρ x)).toList = some r) : BOp P ρ o (.agg r)
 | field (t : TypeId) (x : Operand) (f : Nat) (fields : Array Field) (fd : Field) (cs : Array Value) (d : TypeDesc) (v : Value) (ho : o.op = .field t x f) (hx : ρ x = .agg cs)
   (hu : P.underlying t = some (.struct fields)) (hf : fields[f]? = some fd) (hd : P.underlying fd.type = some d) (ha : isAggD d = false) (hv : cs[fd.offset]? = some v) : BOp P ρ o v
 | indexArr (t : TypeId) (x ix : Operand) (n : Nat) (e : TypeId) (cs : Array Value) (k : IntKind) (j : Int) (d : TypeDesc) (v : Value) (i : TypeInfo) (ho : o.op = .index t x ix) (hx : ρ x = .agg cs) (hix : ρ ix = .int k j)
   (hu : P.underlying t = some (.array n e)) (h0 : 0 ≤ j) (h1 : j < n) (hi : P.info? e = some i) (hd : P.underlying e = some d) (ha : isAggD d = false) (hv : cs[j.toNat * i.size]? = some v) : BOp P ρ o v
theorem VR.agg_inv {lo : Nat} {ι : Inj} {xs : Array Value} {u : Value} (h : VR lo ι (.agg xs) u) : ∃ ys, u = .agg ys ∧ VRs lo ι xs ys := by
 generalize hx : Value.agg xs = x at h
 cases h with
 | agg xs' ys hs h' => cases hx; exact ⟨ys, rfl, hs, h'⟩
 | atom _ h => subst hx; cases h
 | _ => cases hx
theorem BOp.sim {P : Program} {ρ σ : Operand → Value} {o : Oper} {v : Value} {lo : Nat} {ι : Inj} (h : BOp P ρ o v) (hv : ∀ x ∈ o.op.operands, VR lo ι (ρ x) (σ x)) (w : World) :
  ∃ v', VR lo ι v v' ∧ (execOp σ o).run P w = .ok (.value v') w := by
 cases h with
 | buildS t parts fields i z pl r ho hu hi hz hf hp ht hr =>
  obtain ⟨r', h1, h2⟩ := fill_rel (lo := lo) (ι := ι) (pl[·]?) _ (parts.map fun (i, x) => (i, σ x)).toList _ _ r (constB_VRs hf) (by simp) (fun k p q hk hk' => by
   simp at hk hk'
   obtain ⟨a, b, h1, rfl⟩ := hk
   obtain ⟨a', b', h1', rfl⟩ := hk'
   rw [h1] at h1'
   cases h1'
   have hm : (a, b) ∈ parts := Array.mem_of_getElem? h1
   exact ⟨rfl, ht _ hm, hv b (by simp only [ho, Op.operands]; simpa using ⟨a, hm⟩)⟩) hr
  refine ⟨.agg r', .agg _ _ h2.1 h2.2, ?_⟩
  have h3 := run_places hp w
  simp only [Array.toList_map] at h1
  simp [execOp, ho, Instr.build, zeroValue, typeInfo, hi, hz, run_und hu] at h3 ⊢
  simp [h3, h1]
 | buildA t parts n e i ie z r ho hu hi hz hf he ht hr =>
  obtain ⟨r', h1, h2⟩ := fill_rel (lo := lo) (ι := ι) (fun k => some (k * ie.size, ie.size)) _ (parts.map fun (i, x) => (i, σ x)).toList _ _ r (constB_VRs hf) (by simp) (fun k p q hk hk' => by
   simp at hk hk'
   obtain ⟨a, b, h1, rfl⟩ := hk
   obtain ⟨a', b', h1', rfl⟩ := hk'
   rw [h1] at h1'
   cases h1'
   have hm : (a, b) ∈ parts := Array.mem_of_getElem? h1
   exact ⟨rfl, ht _ hm, hv b (by simp only [ho, Op.operands]; simpa using ⟨a, hm⟩)⟩) hr
  refine ⟨.agg r', .agg _ _ h2.1 h2.2, ?_⟩
  simp only [Array.toList_map] at h1
  simp [execOp, ho, Instr.build, zeroValue, typeInfo, hi, hz, run_und hu, run_siz he, h1]
 | field t x f fields fd cs d v ho hx hu hf hd ha hcv =>
  have h1 := hv x (by simp [ho, Op.operands])
  rw [hx] at h1
  obtain ⟨ys, he, hs, hp⟩ := h1.agg_inv
  obtain ⟨h2, h3⟩ := Array.getElem?_eq_some_iff.1 hcv
  have h4 : fd.offset < ys.size := by omega
  refine ⟨ys[fd.offset], h3 ▸ hp _ h2 h4, ?_⟩
  simp [execOp, ho, Instr.field, run_und hu, hf, he, asAgg, part, run_isAgg hd, ha, h4]
 | indexArr t x ix n e cs k j d v i ho hx hix hu h0 h1 hi hd ha hcv =>
  have h5 := hv x (by simp [ho, Op.operands])
  rw [hx] at h5
  obtain ⟨ys, he, hs, hp⟩ := h5.agg_inv
  have h6 := hv ix (by simp [ho, Op.operands])
  rw [hix] at h6
  have h6 := h6.int_eq
  obtain ⟨h2, h3⟩ := Array.getElem?_eq_some_iff.1 hcv
  have h4 : j.toNat * i.size < ys.size := by omega
  refine ⟨ys[j.toNat * i.size], h3 ▸ hp _ h2 h4, ?_⟩
  simp [execOp, ho, Instr.index, run_und hu, he, h6, asIntOf, h0, h1, part, run_isAgg hd, ha, h4, run_siz hi]
end Go.Vm
