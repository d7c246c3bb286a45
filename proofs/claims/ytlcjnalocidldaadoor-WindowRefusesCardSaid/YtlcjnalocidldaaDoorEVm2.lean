/-
  Part of an evaluator for the model, proved sound: no condition.
-/
import Derived.Test.YtlcjnalocidldaaDoorEVm0
import Derived.Laws.Sem
import Derived.Laws.Cells
import Derived.Laws.IdiomCopy
import Derived.Laws.Entries
set_option linter.unusedSimpArgs false
set_option linter.unusedVariables false
namespace Go.Vm
open Go
abbrev T := Nat → Value
def aev (t : T) : Operand → Value
 | .tmp i => t i
 | .const v => v
 | .global g => .pointer (some ⟨g, 0, none⟩)
 | .func f => .func (.func f) #[] #[]
def atomB : Value → Bool
 | .bool _ | .int _ _ | .string _ | .pointer none | .map none | .nilFunc | .nilIface | .slice none 0 0 => true
 | _ => false
def constB : Value → Bool
 | .agg cs => cs.toList.all atomB
 | v => atomB v
theorem atomB_ok {v : Value} (h : atomB v = true) : Atom v := by
 unfold atomB at h
 split at h <;> first | constructor | cases h
theorem constB_ok {v : Value} (h : constB v = true) : Flat v := by
 unfold constB at h
 split at h
 ·refine .agg _ (fun i h1 => .atom _ (atomB_ok ?_))
  exact List.all_eq_true.1 h _ (by simp)
 ·exact .atom _ (atomB_ok h)
def okOp (lo : Nat) : Operand → Prop
 | .const v => constB v = true
 | .global g => g < lo
 | _ => True
def FR (lo : Nat) (ι : Inj) (t : T) (a : Act) : Prop := ∀ i, VR lo ι (t i) (a.tmps.getD i undef)
theorem aev_VR {ι : Inj} {H : AH} {w : World} {t : T} {a : Act} (hr : R ι H w) (hf : FR H.lo ι t a) {x : Operand} (hx : okOp H.lo x) : VR H.lo ι (aev t x) (a.eval x) := by
 cases x with
 | tmp i => exact hf i
 | const v => exact .of_flat (constB_ok hx)
 | global g =>
  obtain ⟨l, h1, h2, h3, _⟩ := hr.low g hx
  have := VR.ptr (lo := H.lo) (ι := ι) g 0 l h1
  simpa [aev, Act.eval, h2, h3] using this
 | func f => exact .func _ _ _ _ _ rfl (fun i h1 _ => by simp at h1) rfl (fun i h1 _ => by simp at h1)
theorem add_none (b o n : Nat) : (⟨b, o, none⟩ : Addr).add n = ⟨b, o + n, none⟩ := by
 unfold Addr.add; split
 ·simp_all
 ·rfl
def isAggD : TypeDesc → Bool
 | .struct _ | .array _ _ => true
 | _ => false
inductive POp (P : Program) (lo : Nat) (ρ : Operand → Value) (o : Oper) : Value → Prop
 | move (x : Operand) (ho : o.op = .move x) : POp P lo ρ o (ρ x)
 | assign (x : Operand) (ho : o.op = .assign x) : POp P lo ρ o (ρ x)
 | pick (c x y : Operand) (b : Bool) (ho : o.op = .pick c x y) (hb : ρ c = .bool b) : POp P lo ρ o (if b then ρ x else ρ y)
 | nilCheck (x : Operand) (a : Addr) (ho : o.op = .nilCheck x) (hx : ρ x = .pointer (some a)) : POp P lo ρ o (.pointer (some a))
 | nilCheckF (x : Operand) (g : FuncId) (us vs : Array Value) (ho : o.op = .nilCheck x) (hx : ρ x = .func (.func g) us vs) : POp P lo ρ o (.func (.func g) us vs)
 | fieldAddr (s : TypeId) (x : Operand) (f b off : Nat) (fields : Array Field) (fd : Field) (i : TypeInfo) (ho : o.op = .fieldAddr s x f)
   (hx : ρ x = .pointer (some ⟨b, off, none⟩)) (hu : P.underlying s = some (.struct fields)) (hf : fields[f]? = some fd)
   (hi : P.info? fd.type = some i) (hs : i.size ≠ 0) : POp P lo ρ o (.pointer (some ⟨b, off + fd.offset, none⟩))
 | indexS (t : TypeId) (x ix : Operand) (b off n c : Nat) (k : IntKind) (j : Int) (e : TypeId) (i : TypeInfo) (ho : o.op = .indexAddr t x ix)
   (hx : ρ x = .slice (some ⟨b, off, none⟩) n c) (hix : ρ ix = .int k j) (hu : P.underlying t = some (.slice e)) (hi : P.info? e = some i)
   (h0 : 0 ≤ j) (h1 : j < n) : POp P lo ρ o (.pointer (some ⟨b, off + j.toNat * i.size, none⟩))
 | indexA (t : TypeId) (x ix : Operand) (b off n : Nat) (k : IntKind) (j : Int) (e : TypeId) (i : TypeInfo) (ho : o.op = .indexAddr t x ix)
   (hx : ρ x = .pointer (some ⟨b, off, none⟩)) (hix : ρ ix = .int k j) (hu : P.underlying t = some (.array n e)) (hi : P.info? e = some i)
   (h0 : 0 ≤ j) (h1 : j < n) : POp P lo ρ o (.pointer (some ⟨b, off + j.toNat * i.size, none⟩))
 | extract (x : Operand) (i : Nat) (vs : Array Value) (v : Value) (ho : o.op = .extract x i) (hx : ρ x = .tuple vs) (hv : vs[i]? = some v) (ht : 2 ≤ vs.size) : POp P lo ρ o v
 | makeFunc (fn : Fn) (us vs : Array Operand) (ho : o.op = .makeFunc fn us vs) : POp P lo ρ o (.func fn (us.map ρ) (vs.map ρ))
 | lenS (x : Operand) (t e : TypeId) (b : Addr) (n c : Nat) (ho : o.op = .call { callee := .builtin .len, args := #[x], argTypes := #[t] })
   (hu : P.underlying t = some (.slice e)) (hx : ρ x = .slice (some b) n c) : POp P lo ρ o (.int .i64 n)
 | sliceS (t : TypeId) (x : Operand) (xl xh xm : Option Operand) (b off n c : Nat) (l h : Nat) (e : TypeId) (i : TypeInfo) (ho : o.op = .slice t x xl xh xm)
   (hx : ρ x = .slice (some ⟨b, off, none⟩) n c) (hu : P.underlying t = some (.slice e)) (hi : P.info? e = some i)
   (hl : (xl = none ∧ l = 0) ∨ ∃ y k, xl = some y ∧ ρ y = .int k l) (hh : (xh = none ∧ h = n) ∨ ∃ y k, xh = some y ∧ ρ y = .int k h)
   (hm : xm = none ∨ (xh ≠ none ∧ ∃ y k, xm = some y ∧ ρ y = .int k h)) (h1 : l ≤ h) (h2 : h ≤ n) (h3 : c = i.size ∨ b < lo) :
   POp P lo ρ o (.slice (some ⟨b, off + l * i.size, none⟩) (h - l) c)
 | nilS (op : BinOp) (t u e : TypeId) (x y : Operand) (b : Addr) (n c : Nat) (ho : o.op = .binOp op t x y u) (hop : op = .eql ∨ op = .neq) (hu : P.underlying t = some (.slice e))
   (hx : (ρ x = .slice (some b) n c ∧ ρ y = .slice none 0 0) ∨ (ρ y = .slice (some b) n c ∧ ρ x = .slice none 0 0)) : POp P lo ρ o (.bool (op == .neq))
 | nilP (op : BinOp) (t u e : TypeId) (x y : Operand) (b : Addr) (ho : o.op = .binOp op t x y u) (hop : op = .eql ∨ op = .neq) (hu : P.underlying t = some (.pointer e))
   (hx : (ρ x = .pointer (some b) ∧ ρ y = .pointer none) ∨ (ρ y = .pointer (some b) ∧ ρ x = .pointer none)) : POp P lo ρ o (.bool (op == .neq))
 | flat (v : Value) (hops : ∀ x ∈ o.op.operands, Flat (ρ x)) (hs : ∀ cs b, o.op ≠ .select cs b) (hv : Flat v) (hrun : ∀ w, (execOp ρ o).run P w = .ok (.value v) w) : POp P lo ρ o v
theorem run_und {P : Program} {t : TypeId} {d : TypeDesc} (h : P.underlying t = some d) (w : World) : (underlying t).run P w = .ok d w := run_underlying h w
theorem run_siz {P : Program} {t : TypeId} {i : TypeInfo} (h : P.info? t = some i) (w : World) : (sizeOf t).run P w = .ok i.size w := by
 simp [sizeOf, typeInfo, h]
theorem VR.int_eq {lo : Nat} {ι : Inj} {k : IntKind} {n : Int} {u : Value} (h : VR lo ι (.int k n) u) : u = .int k n := h.atom_eq (.int k n)
theorem VR.bool_eq {lo : Nat} {ι : Inj} {b : Bool} {u : Value} (h : VR lo ι (.bool b) u) : u = .bool b := h.atom_eq (.bool b)
theorem VR.ptr_inv {lo : Nat} {ι : Inj} {b o : Nat} {u : Value} (h : VR lo ι (.pointer (some ⟨b, o, none⟩)) u) :
  ∃ l, ι b = some l ∧ u = .pointer (some ⟨l.blk, l.base + o, none⟩) := by
 cases h with
 | atom _ h => cases h
 | ptr b o l h => exact ⟨l, h, rfl⟩
theorem VR.ptr_some {lo : Nat} {ι : Inj} {a : Addr} {u : Value} (h : VR lo ι (.pointer (some a)) u) : ∃ a', u = .pointer (some a') := by
 cases h with
 | atom _ h => cases h
 | ptr b o l h => exact ⟨_, rfl⟩
theorem VR.slice_inv {lo : Nat} {ι : Inj} {b o n c : Nat} {u : Value} (h : VR lo ι (.slice (some ⟨b, o, none⟩) n c) u) :
  ∃ l a' c', ι b = some l ∧ u = .slice (some a') n c' ∧ n ≤ c' ∧ (c' ≠ 0 → a' = ⟨l.blk, l.base + o, none⟩) ∧ (lo ≤ b → (c = l.esz ∧ (c' ≠ 0 → l.base + o + c' * l.esz ≤ l.csz))) := by
 cases h with
 | atom _ h => cases h
 | slice b o n c l a' c' h hc ha hs => exact ⟨l, a', c', h, rfl, hc, ha, hs⟩
theorem VR.slice_some {lo : Nat} {ι : Inj} {a : Addr} {n c : Nat} {u : Value} (h : VR lo ι (.slice (some a) n c) u) : ∃ a' c', u = .slice (some a') n c' := by
 cases h with
 | atom _ h => cases h
 | slice b o n c l a' c' h hc ha hs => exact ⟨_, _, rfl⟩
theorem VR.nilS {lo : Nat} {ι : Inj} {u : Value} (h : VR lo ι (.slice none 0 0) u) : u = .slice none 0 0 := h.atom_eq .nilSlice
theorem VR.nilP {lo : Nat} {ι : Inj} {u : Value} (h : VR lo ι (.pointer none) u) : u = .pointer none := h.atom_eq .nilPtr
theorem VR.func_inv {lo : Nat} {ι : Inj} {fn : Fn} {us vs : Array Value} {u : Value} (h : VR lo ι (.func fn us vs) u) : ∃ us' vs', u = .func fn us' vs' := by
 cases h with
 | atom _ h => cases h
 | func => exact ⟨_, _, rfl⟩
theorem VR.tuple_inv {lo : Nat} {ι : Inj} {xs : Array Value} {u : Value} (ht : 2 ≤ xs.size) (h : VR lo ι (.tuple xs) u) :
  ∃ ys, u = .tuple ys ∧ xs.size = ys.size ∧ ∀ (i : Nat) (h1 : i < xs.size) (h2 : i < ys.size), VR lo ι xs[i] ys[i] := by
 generalize hx : Value.tuple xs = x at h
 cases h with
 | tuple xs' ys hs h' => cases hx; exact ⟨ys, rfl, hs, h'⟩
 | top => cases hx; simp at ht
 | atom _ h => subst hx; cases h
 | _ => cases hx
theorem nil_run {P : Program} {σ : Operand → Value} {o : Oper} {op : BinOp} {t u : TypeId} {x y : Operand} {w : World} (hop : op = .eql ∨ op = .neq) (ho : o.op = .binOp op t x y u)
  (hk : (∃ a n c b m d, σ x = .slice a n c ∧ σ y = .slice b m d) ∨ (∃ a b, σ x = .pointer a ∧ σ y = .pointer b))
  (he : ∀ d, (Op.equalIn (d + 1) t (σ x) (σ y)).run P w = .ok false w) : (execOp σ o).run P w = .ok (.value (.bool (op == .neq))) w := by
 have hb : (binOp op t (σ x) (σ y)).run P w = .ok (.bool (op == .neq)) w := by
  have h9 := he 9999
  rcases hk with ⟨a, n, c, b, m, d, h1, h2⟩ | ⟨a, b, h1, h2⟩ <;> rw [h1, h2] at h9 ⊢ <;> rcases hop with rfl | rfl <;> simp only [binOp] <;>
   simp [Op.equal, Op.maxDepth, h9] <;> rfl
 have hg : (eqGuard op t x y (σ x) (σ y)).run P w = .ok () w := by
  rcases hk with ⟨a, n, c, b, m, d, h1, h2⟩ | ⟨a, b, h1, h2⟩ <;> rw [h1, h2] <;> rcases hop with rfl | rfl <;> simp [eqGuard]
 unfold execOp
 rw [ho]
 simp only [Sem.run_bind, hg, hb, Result.andThen_ok, Sem.run_pure]
theorem POp.sim {P : Program} {ρ σ : Operand → Value} {o : Oper} {v : Value} {lo : Nat} {ι : Inj} (h : POp P lo ρ o v) (hv : ∀ x ∈ o.op.operands, VR lo ι (ρ x) (σ x)) (w : World) :
  ∃ v', VR lo ι v v' ∧ (execOp σ o).run P w = .ok (.value v') w := by
 cases h with
 | move x ho => exact ⟨σ x, hv x (by simp [ho, Op.operands]), by simp [execOp, ho]⟩
 | assign x ho => exact ⟨σ x, hv x (by simp [ho, Op.operands]), by simp [execOp, ho]⟩
 | pick c x y b ho hb =>
  have hc := hv c (by simp [ho, Op.operands])
  rw [hb] at hc
  have hc := hc.bool_eq
  refine ⟨if b then σ x else σ y, ?_, by simp [execOp, ho, hc, asBool]⟩
  cases b
  ·exact hv y (by simp [ho, Op.operands])
  ·exact hv x (by simp [ho, Op.operands])
 | nilCheck x a ho hx =>
  have hc := hv x (by simp [ho, Op.operands])
  rw [hx] at hc
  obtain ⟨a', ha'⟩ := hc.ptr_some
  exact ⟨σ x, hc, by simp [execOp, ho, ha']⟩
 | nilCheckF x g us vs ho hx =>
  have hc := hv x (by simp [ho, Op.operands])
  rw [hx] at hc
  refine ⟨σ x, hc, ?_⟩
  obtain ⟨us', vs', he⟩ := hc.func_inv
  simp [execOp, ho, he]
 | fieldAddr s x f b off fields fd i ho hx hu hf hi hs =>
  have hc := hv x (by simp [ho, Op.operands])
  rw [hx] at hc
  obtain ⟨l, hl, he⟩ := hc.ptr_inv
  refine ⟨.pointer (some ⟨l.blk, l.base + (off + fd.offset), none⟩), .ptr b (off + fd.offset) l hl, ?_⟩
  simp [execOp, ho, Instr.fieldAt, run_und hu, hf, he, Instr.sureAddr, fieldPlace, run_siz hi, hs, add_none, Nat.add_assoc]
 | indexS t x ix b off n c k j e i ho hx hix hu hi h0 h1 =>
  have hc := hv x (by simp [ho, Op.operands])
  have hc2 := hv ix (by simp [ho, Op.operands])
  rw [hx] at hc
  rw [hix] at hc2
  have he2 := hc2.int_eq
  obtain ⟨l, a', c', hl, he, h3, h4, h5⟩ := hc.slice_inv
  have ha := h4 (by omega)
  subst ha
  refine ⟨.pointer (some ⟨l.blk, l.base + (off + j.toNat * i.size), none⟩), .ptr b _ l hl, ?_⟩
  simp [execOp, ho, Instr.indexAt, run_und hu, he, he2, asIntOf, h0, h1, run_siz hi, add_none, Nat.add_assoc]
 | indexA t x ix b off n k j e i ho hx hix hu hi h0 h1 =>
  have hc := hv x (by simp [ho, Op.operands])
  have hc2 := hv ix (by simp [ho, Op.operands])
  rw [hx] at hc
  rw [hix] at hc2
  have he2 := hc2.int_eq
  obtain ⟨l, hl, he⟩ := hc.ptr_inv
  refine ⟨.pointer (some ⟨l.blk, l.base + (off + j.toNat * i.size), none⟩), .ptr b _ l hl, ?_⟩
  simp [execOp, ho, Instr.indexAt, run_und hu, he, he2, asIntOf, h0, h1, run_siz hi, add_none, Nat.add_assoc, Instr.sureAddr]
 | extract x i vs v ho hx hvi ht =>
  have hc := hv x (by simp [ho, Op.operands])
  rw [hx] at hc
  obtain ⟨ys, he, hs, hp⟩ := hc.tuple_inv ht
  have hi : i < vs.size := (Array.getElem?_eq_some_iff.1 hvi).1
  have hq := hp i hi (by omega)
  rw [(Array.getElem?_eq_some_iff.1 hvi).2] at hq
  exact ⟨ys[i]'(by omega), hq, by simp [execOp, ho, Instr.extract, he, hs ▸ hi]⟩
 | makeFunc fn us vs ho =>
  refine ⟨.func fn (us.map σ) (vs.map σ), .func _ _ _ _ _ (by simp) (fun i h1 h2 => ?_) (by simp) (fun i h1 h2 => ?_), by simp [execOp, ho, Instr.makeFunc]⟩
  ·simp only [Array.getElem_map]
   exact hv _ (by simp [ho, Op.operands])
  ·simp only [Array.getElem_map]
   exact hv _ (by simp [ho, Op.operands])
 | lenS x t e b n c ho hu hx =>
  have hc := hv x (by simp [ho, Op.operands, Call.operands])
  rw [hx] at hc
  obtain ⟨a', c', he⟩ := hc.slice_some
  refine ⟨.int .i64 n, .atom _ (.int _ _), ?_⟩
  simp [execOp, ho, resolve, invoke, builtin, Builtin.len_, run_und hu, he, goInt]
 | sliceS t x xl xh xm b off n c l h e i ho hx hu hi hl hh hm h1 h2 hci =>
  have hc := hv x (by simp [ho, Op.operands])
  rw [hx] at hc
  obtain ⟨L, a', c', hL, he, h3, h4, h5⟩ := hc.slice_inv
  have hl' : (xl = none ∧ l = 0) ∨ ∃ y k, xl = some y ∧ σ y = .int k l := by
   rcases hl with hl | ⟨y, k, hy, hl⟩
   ·exact .inl hl
   ·have := hv y (by simp [ho, hy, Op.operands]); rw [hl] at this; exact .inr ⟨y, k, hy, this.int_eq⟩
  have hh' : (xh = none ∧ h = n) ∨ ∃ y k, xh = some y ∧ σ y = .int k h := by
   rcases hh with hh | ⟨y, k, hy, hh⟩
   ·exact .inl hh
   ·have := hv y (by simp [ho, hy, Op.operands]); rw [hh] at this; exact .inr ⟨y, k, hy, this.int_eq⟩
  have hm' : xm = none ∨ (xh ≠ none ∧ ∃ y k, xm = some y ∧ σ y = .int k h) := by
   rcases hm with hm | ⟨hm0, y, k, hy, hm⟩
   ·exact .inl hm
   ·have := hv y (by simp [ho, hy, Op.operands]); rw [hm] at this; exact .inr ⟨hm0, y, k, hy, this.int_eq⟩
  have hrun : ∃ m, h ≤ m ∧ m ≤ c' ∧ (execOp σ o).run P w = .ok (.value (.slice (if m = l then some a' else some (a'.add (l * i.size))) (h - l) (m - l))) w := by
   rcases hm' with hm | ⟨hm0, ym, km, hym, hm⟩
   ·refine ⟨c', by omega, Nat.le_refl _, ?_⟩
    have : h ≤ c' := by omega
    have : l ≤ n := by omega
    rcases hl' with ⟨hl1, hl2⟩ | ⟨y, k, hl1, hl2⟩ <;> rcases hh' with ⟨hh1, hh2⟩ | ⟨z, k', hh1, hh2⟩ <;>
     (try subst hl2) <;> (try subst hh2) <;>
     simp [execOp, ho, hm, hl1, hh1, Instr.sliceAt, Instr.slice, run_und hu, he, Instr.sliceBounds, Instr.sliceBound, *, asIntOf, run_siz hi]
    all_goals (first | done | (split <;> simp_all))
   ·refine ⟨h, Nat.le_refl _, by omega, ?_⟩
    have : h ≤ c' := by omega
    rcases hh' with ⟨hh1, hh2⟩ | ⟨z, k', hh1, hh2⟩
    ·exact absurd hh1 hm0
    rcases hl' with ⟨hl1, hl2⟩ | ⟨y, k, hl1, hl2⟩ <;>
     (try subst hl2) <;>
     simp [execOp, ho, hym, hl1, hh1, Instr.sliceAt, Instr.slice, run_und hu, he, Instr.sliceBounds, Instr.sliceBound, *, asIntOf, run_siz hi]
    all_goals (first | done | (split <;> simp_all))
  obtain ⟨m, hm1, hm2, hrun⟩ := hrun
  by_cases hml : m = l
  ·rw [if_pos hml] at hrun
   exact ⟨_, .slice b _ _ _ L a' (m - l) hL (by omega) (fun hne => absurd (by omega) hne) (fun hlo => ⟨(h5 hlo).1, fun hne => absurd (by omega) hne⟩), hrun⟩
  ·rw [if_neg hml] at hrun
   have ha := h4 (by omega)
   subst ha
   refine ⟨_, .slice b _ _ _ L _ (m - l) hL (by omega) (fun _ => by simp [add_none, Nat.add_assoc]) (fun hlo => ⟨(h5 hlo).1, fun _ => ?_⟩), hrun⟩
   obtain ⟨h6, h7⟩ := h5 hlo
   have h8 := h7 (by omega)
   have hci := hci.resolve_right (by omega)
   rw [← h6, hci] at h8 ⊢
   have h9 : (m - l) * i.size + l * i.size ≤ c' * i.size := by
    rw [← Nat.add_mul]
    exact Nat.mul_le_mul_right _ (by omega)
   omega
 | nilS op t u e x y b n c ho hop hu hx =>
  refine ⟨.bool (op == .neq), .atom _ (.bool _), ?_⟩
  have hcx := hv x (by simp [ho, Op.operands])
  have hcy := hv y (by simp [ho, Op.operands])
  rcases hx with ⟨h1, h2⟩ | ⟨h1, h2⟩
  ·rw [h1] at hcx
   rw [h2] at hcy
   obtain ⟨a', c', he⟩ := hcx.slice_some
   have he2 := hcy.nilS
   exact nil_run hop ho (by simp [he, he2]) (fun d => by simp [he, he2, Op.equalIn, run_und hu])
  ·rw [h1] at hcy
   rw [h2] at hcx
   obtain ⟨a', c', he⟩ := hcy.slice_some
   have he2 := hcx.nilS
   exact nil_run hop ho (by simp [he, he2]) (fun d => by simp [he, he2, Op.equalIn, run_und hu])
 | nilP op t u e x y b ho hop hu hx =>
  refine ⟨.bool (op == .neq), .atom _ (.bool _), ?_⟩
  have hcx := hv x (by simp [ho, Op.operands])
  have hcy := hv y (by simp [ho, Op.operands])
  rcases hx with ⟨h1, h2⟩ | ⟨h1, h2⟩
  ·rw [h1] at hcx
   rw [h2] at hcy
   obtain ⟨a', he⟩ := hcx.ptr_some
   have he2 := hcy.nilP
   exact nil_run hop ho (by simp [he, he2]) (fun d => by simp [he, he2, Op.equalIn, run_und hu])
  ·rw [h1] at hcy
   rw [h2] at hcx
   obtain ⟨a', he⟩ := hcy.ptr_some
   have he2 := hcx.nilP
   exact nil_run hop ho (by simp [he, he2]) (fun d => by simp [he, he2, Op.equalIn, run_und hu])
 | flat v hops hs hvf hrun =>
  refine ⟨v, .of_flat hvf, ?_⟩
  rw [execOp_congr o hs (fun x hx => (hv x hx).flat_eq (hops x hx))]
  exact hrun w
end Go.Vm
