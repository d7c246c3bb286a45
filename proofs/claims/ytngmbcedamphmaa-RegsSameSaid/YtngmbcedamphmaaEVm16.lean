/-
  Part of an evaluator for the model, proved sound: no condition.
-/
import Derived.Test.YtngmbcedamphmaaEVm15
import Derived.IntWalk
import Derived.Laws.Strings
import Derived.Tactics
set_option linter.unusedSimpArgs false
set_option linter.unusedVariables false
namespace Go.Vm
open Go
section
variable {P : Program} {C : CallRel} {o : Oper} {t : T} {H : AH} {l : List (Nat × Value)}
theorem L {i : Nat} {v : Value} (k : Nat) (h : l[k]? = some (i, v)) (h2 : (l.take k).all (fun p => !(p.1 == i)) = true) : aev (fr l) (.tmp i) = v := by
 show fr l i = v
 have hk := (List.getElem?_eq_some_iff.1 h).1
 have hl : l = l.take k ++ (i, v) :: l.drop (k + 1) := by
  rw [← (List.getElem?_eq_some_iff.1 h).2, List.getElem_cons_drop, List.take_append_drop]
 have hnone : (l.take k).find? (fun p => p.1 == i) = none := by
  rw [List.find?_eq_none]
  intro p hp
  have := List.all_eq_true.1 h2 p hp
  simpa using this
 unfold fr
 rw [hl, List.find?_append, hnone]
 simp
theorem K {v : Value} : aev t (.const v) = v := rfl
theorem Fu {f : FuncId} : aev t (.func f) = .func (.func f) #[] #[] := rfl
def tinfo (P : Program) (e : TypeId) (z : Value) (n m : Nat) : Prop := (P.info? e).map (fun i => (i.zero, i.size, i.bytes)) = some (some z, n, m)
theorem tinfo_get {e : TypeId} {z : Value} {n m : Nat} (h : tinfo P e z n m) : ∃ i, P.info? e = some i ∧ i.zero = some z ∧ i.size = n ∧ i.bytes = m := by
 unfold tinfo at h
 obtain ⟨i, h1, h2⟩ := Option.map_eq_some_iff.1 h
 simp at h2
 exact ⟨i, h1, h2⟩
namespace S
theorem move {x : Operand} {v : Value} (ho : o.op = .move x) (hx : aev t x = v) : Step P C o t H .pure v H := hx ▸ .p _ (.move x ho)
theorem assign {x : Operand} {v : Value} (ho : o.op = .assign x) (hx : aev t x = v) : Step P C o t H .pure v H := hx ▸ .p _ (.assign x ho)
theorem pickT {c x y : Operand} {v : Value} (ho : o.op = .pick c x y) (hc : aev t c = .bool true) (hx : aev t x = v) : Step P C o t H .pure v H := hx ▸ .p _ (.pick c x y true ho hc)
theorem pickF {c x y : Operand} {v : Value} (ho : o.op = .pick c x y) (hc : aev t c = .bool false) (hx : aev t y = v) : Step P C o t H .pure v H := hx ▸ .p _ (.pick c x y false ho hc)
theorem nilCheck {x : Operand} {a : Addr} (ho : o.op = .nilCheck x) (hx : aev t x = .pointer (some a)) : Step P C o t H .pure (.pointer (some a)) H := .p _ (.nilCheck x a ho hx)
theorem fieldAddr {s : TypeId} {x : Operand} {f b off : Nat} {fields : Array Field} {fd : Field} {z : Value} {n m : Nat} (ho : o.op = .fieldAddr s x f) (hx : aev t x = .pointer (some ⟨b, off, none⟩)) (hu : P.underlying s = some (.struct fields)) (hf : fields[f]? = some fd)
  (hi : tinfo P fd.type z n m) (hs : (n == 0) = false) {k : Nat} (hk : off + fd.offset = k) : Step P C o t H .pure (.pointer (some ⟨b, k, none⟩)) H := by
 obtain ⟨i, h1, h2, h3, h4⟩ := tinfo_get hi
 subst hk
 exact .p _ (.fieldAddr s x f b off fields fd i ho hx hu hf h1 (by rw [h3]; simpa using hs))
theorem index {ty : TypeId} {x ix : Operand} {b off n c : Nat} {k : IntKind} {j : Int} {e : TypeId} {z : Value} {sz m : Nat} (ho : o.op = .indexAddr ty x ix) (hx : aev t x = .slice (some ⟨b, off, none⟩) n c) (hix : aev t ix = .int k j)
  (hu : P.underlying ty = some (.slice e)) (hi : tinfo P e z sz m) (h0 : 0 ≤ j) (h1 : j < n) : Step P C o t H .pure (.pointer (some ⟨b, off + j.toNat * sz, none⟩)) H := by
 obtain ⟨i, h2, h3, h4, h5⟩ := tinfo_get hi
 rw [← h4]
 exact .p _ (.indexS ty x ix b off n c k j e i ho hx hix hu h2 h0 h1)
theorem extract {x : Operand} {i : Nat} {vs : Array Value} {v : Value} (ho : o.op = .extract x i) (hx : aev t x = .tuple vs) (hv : vs[i]? = some v) (ht : 2 ≤ vs.size) : Step P C o t H .pure v H := .p _ (.extract x i vs v ho hx hv ht)
theorem makeFunc {fn : Fn} {us vs : Array Operand} (ho : o.op = .makeFunc fn us vs) : Step P C o t H .pure (.func fn (us.map (aev t)) (vs.map (aev t))) H := .p _ (.makeFunc fn us vs ho)
theorem len {x : Operand} {ty e : TypeId} {b : Addr} {n c : Nat} (ho : o.op = .call { callee := .builtin .len, args := #[x], argTypes := #[ty] }) (hx : aev t x = .slice (some b) n c) (hu : P.underlying ty = some (.slice e)) : Step P C o t H .pure (.int .i64 n) H := .p _ (.lenS x ty e b n c ho hu hx)
theorem nilS {op : BinOp} {ty u e : TypeId} {x y : Operand} {b : Addr} {n c : Nat} (ho : o.op = .binOp op ty x y u) (hop : op = .eql ∨ op = .neq) (hx : aev t x = .slice (some b) n c) (hy : aev t y = .slice none 0 0) (hu : P.underlying ty = some (.slice e)) : Step P C o t H .pure (.bool (op == .neq)) H :=
 .p _ (.nilS op ty u e x y b n c ho hop hu (.inl ⟨hx, hy⟩))
theorem flat2 {op : BinOp} {ty u : TypeId} {x y : Operand} {v a b : Value} (ho : o.op = .binOp op ty x y u) (hx : aev t x = a) (hy : aev t y = b) (ha : Flat a) (hb : Flat b) (hv : Flat v)
  (hr : ∀ w, (binOp op ty a b).run P w = .ok v w) (hg : ∀ w, (eqGuard op ty x y a b).run P w = .ok () w) : Step P C o t H .pure v H := by
 refine .p _ (.flat v (fun z hz => ?_) (fun cs b => by rw [ho]; simp) hv (fun w => ?_))
 ·rw [ho] at hz
  simp [Op.operands] at hz
  rcases hz with rfl | rfl
  ·rw [hx]; exact ha
  ·rw [hy]; exact hb
 ·simp only [execOp, ho, hx, hy, Sem.run_bind, hg, Result.andThen_ok, hr, Sem.run_pure]
theorem guard_int {op : BinOp} {ty : TypeId} {x y : Operand} {k k' : IntKind} {a b : Int} (w : World) : (eqGuard op ty x y (.int k a) (.int k' b)).run P w = .ok () w := by cases op <;> rfl
theorem guard_bool {op : BinOp} {ty : TypeId} {x y : Operand} {a b : Bool} (w : World) : (eqGuard op ty x y (.bool a) (.bool b)).run P w = .ok () w := by cases op <;> rfl
variable {ty u : TypeId} {x y : Operand} {k : IntKind} {a b : Int}
theorem lss (ho : o.op = .binOp .lss ty x y u) (hx : aev t x = .int k a) (hy : aev t y = .int k b) : Step P C o t H .pure (.bool (decide (a < b))) H :=
 flat2 ho hx hy (.atom _ (.int _ _)) (.atom _ (.int _ _)) (.atom _ (.bool _)) (fun w => by simp [binOp, Op.intCmp]) guard_int
theorem leq (ho : o.op = .binOp .leq ty x y u) (hx : aev t x = .int k a) (hy : aev t y = .int k b) : Step P C o t H .pure (.bool (decide (a ≤ b))) H :=
 flat2 ho hx hy (.atom _ (.int _ _)) (.atom _ (.int _ _)) (.atom _ (.bool _)) (fun w => by simp [binOp, Op.intCmp]) guard_int
theorem gtr (ho : o.op = .binOp .gtr ty x y u) (hx : aev t x = .int k a) (hy : aev t y = .int k b) : Step P C o t H .pure (.bool (decide (b < a))) H :=
 flat2 ho hx hy (.atom _ (.int _ _)) (.atom _ (.int _ _)) (.atom _ (.bool _)) (fun w => by simp [binOp, Op.intCmp]) guard_int
theorem geq (ho : o.op = .binOp .geq ty x y u) (hx : aev t x = .int k a) (hy : aev t y = .int k b) : Step P C o t H .pure (.bool (decide (b ≤ a))) H :=
 flat2 ho hx hy (.atom _ (.int _ _)) (.atom _ (.int _ _)) (.atom _ (.bool _)) (fun w => by simp [binOp, Op.intCmp]) guard_int
theorem eqlI (ho : o.op = .binOp .eql ty x y u) (hx : aev t x = .int k a) (hy : aev t y = .int k b) : Step P C o t H .pure (.bool (decide (a = b))) H :=
 flat2 ho hx hy (.atom _ (.int _ _)) (.atom _ (.int _ _)) (.atom _ (.bool _)) (fun w => by simp [binOp, Op.intCmp]; rw [Bool.eq_iff_iff]; simp) guard_int
theorem neqI (ho : o.op = .binOp .neq ty x y u) (hx : aev t x = .int k a) (hy : aev t y = .int k b) : Step P C o t H .pure (.bool (decide (a ≠ b))) H :=
 flat2 ho hx hy (.atom _ (.int _ _)) (.atom _ (.int _ _)) (.atom _ (.bool _)) (fun w => by simp [binOp, Op.intCmp]; try rfl) guard_int
theorem add (ho : o.op = .binOp .add ty x y u) (hx : aev t x = .int k a) (hy : aev t y = .int k b) : Step P C o t H .pure (.int k (k.wrap (a + b))) H :=
 flat2 ho hx hy (.atom _ (.int _ _)) (.atom _ (.int _ _)) (.atom _ (.int _ _)) (fun w => by simp [binOp, Op.intArith]) guard_int
theorem sub (ho : o.op = .binOp .sub ty x y u) (hx : aev t x = .int k a) (hy : aev t y = .int k b) : Step P C o t H .pure (.int k (k.wrap (a - b))) H :=
 flat2 ho hx hy (.atom _ (.int _ _)) (.atom _ (.int _ _)) (.atom _ (.int _ _)) (fun w => by simp [binOp, Op.intArith]) guard_int
theorem mul (ho : o.op = .binOp .mul ty x y u) (hx : aev t x = .int k a) (hy : aev t y = .int k b) : Step P C o t H .pure (.int k (k.wrap (a * b))) H :=
 flat2 ho hx hy (.atom _ (.int _ _)) (.atom _ (.int _ _)) (.atom _ (.int _ _)) (fun w => by simp [binOp, Op.intArith]) guard_int
theorem i64_ok {z : Int} (h1 : -9223372036854775808 ≤ z) (h2 : z ≤ 9223372036854775807) : IntKind.i64.wrap z = z := by
 unfold IntKind.wrap
 simp [IntKind.signed, IntKind.bits]
 omega
theorem eqIn_bool {a b : Bool} (hu : P.underlying ty = some .bool) (d : Nat) (w : World) : (Op.equalIn (d + 1) ty (.bool a) (.bool b)).run P w = .ok (a == b) w := by
 simp [Op.equalIn, run_und hu]
theorem eqlB {a b : Bool} (ho : o.op = .binOp .eql ty x y u) (hx : aev t x = .bool a) (hy : aev t y = .bool b) (hu : P.underlying ty = some .bool) : Step P C o t H .pure (.bool (a == b)) H :=
 flat2 ho hx hy (.atom _ (.bool _)) (.atom _ (.bool _)) (.atom _ (.bool _)) (fun w => by simp only [binOp]; simp [Op.equal, Op.maxDepth, eqIn_bool hu 9999]) guard_bool
theorem not {a : Bool} (ho : o.op = .unOp .not ty x) (hx : aev t x = .bool a) : Step P C o t H .pure (.bool (!a)) H := by
 refine .p _ (.flat _ (fun z hz => ?_) (fun cs b => by rw [ho]; simp) (.atom _ (.bool _)) (fun w => ?_))
 ·rw [ho] at hz
  simp [Op.operands] at hz
  rw [hz, hx]; exact .atom _ (.bool _)
 ·simp [execOp, ho, hx, Op.unary]
theorem lenNil (ho : o.op = .call { callee := .builtin .len, args := #[x], argTypes := #[ty] }) (hx : aev t x = .slice none 0 0) {e : TypeId} (hu : P.underlying ty = some (.slice e)) : Step P C o t H .pure (.int .i64 0) H := by
 refine .p _ (.flat _ (fun z hz => ?_) (fun cs b => by rw [ho]; simp) (.atom _ (.int _ _)) (fun w => ?_))
 ·rw [ho] at hz
  simp [Op.operands, Call.operands] at hz
  rw [hz, hx]; exact .atom _ .nilSlice
 ·simp [execOp, ho, hx, resolve, invoke, builtin, Builtin.len_, run_und hu, goInt]
theorem load {ty : TypeId} {x : Operand} {b off : Nat} {d : TypeDesc} {v : Value} (ho : o.op = .load ty x) (hx : aev t x = .pointer (some ⟨b, off, none⟩)) (hu : P.underlying ty = some d) (ha : isAggD d = false) (hc : H.cell b off = some v) : Step P C o t H (.read b) v H := .l b v (.load1 ty x b off d v ho hx hu ha hc)
theorem loadN {ty : TypeId} {x : Operand} {b off : Nat} {d : TypeDesc} {cs : List Value} {z : Value} {n m : Nat} (ho : o.op = .load ty x) (hx : aev t x = .pointer (some ⟨b, off, none⟩)) (hu : P.underlying ty = some d) (ha : isAggD d = true) (hi : tinfo P ty z n m) (hl : cs.length = n)
  (hc : ∀ (j : Nat) (v : Value), cs[j]? = some v → H.cell b (off + j) = some v) : Step P C o t H (.read b) (.agg cs.toArray) H := by
 obtain ⟨i, h1, h2, h3, h4⟩ := tinfo_get hi
 exact .l b _ (.loadN ty x b off d cs i ho hx hu ha h1 (by omega) hc)
theorem loadB {ty : TypeId} {x : Operand} {b e : Nat} {d : TypeDesc} {cs : List Value} {z : Value} {n m : Nat} (ho : o.op = .load ty x) (hx : aev t x = .pointer (some ⟨b, 0, none⟩)) (hu : P.underlying ty = some d) (ha : isAggD d = true) (hi : tinfo P ty z n m) (hg : H.get b = some (.cells e cs)) (hl : cs.length = n) :
  Step P C o t H (.read b) (.agg cs.toArray) H := loadN ho hx hu ha hi hl (fun j v hj => by rw [Nat.zero_add]; unfold AH.cell; rw [hg]; exact hj)
theorem cellB {b e o : Nat} {cs : List Value} {v : Value} (hg : H.get b = some (.cells e cs)) (h : cs[o]? = some v) : H.cell b o = some v := by unfold AH.cell; rw [hg]; exact h
theorem box {e : TypeId} {x : Operand} {v : Value} {cs : List Value} (ho : o.op = .box e x) (hx : aev t x = v) (hv : v ≠ topV) (hc : v.cells.toList = cs) : Step P C o t H (.alloc H.next) (.pointer (some ⟨H.next, 0, none⟩)) (H.new (.cells 0 cs)) := by
 have := Step.a (P := P) (C := C) (o := o) (t := t) (H := H) _ _ (.box e x ho (by rw [hx]; exact hv))
 rwa [hx, hc] at this
theorem alloc {e : TypeId} {z : Value} {n m : Nat} {cs : List Value} (ho : o.op = .alloc e) (hi : tinfo P e z n m) (hz : constB z = true) (hc : z.cells.toList = cs) : Step P C o t H (.alloc H.next) (.pointer (some ⟨H.next, 0, none⟩)) (H.new (.cells n cs)) := by
 obtain ⟨i, h1, h2, h3, h4⟩ := tinfo_get hi
 have := Step.a (P := P) (C := C) (o := o) (t := t) (H := H) _ _ (.alloc e i z ho h1 h2 hz)
 rwa [h3, hc] at this
theorem makeSlice {ty : TypeId} {x y : Operand} {k k' : IntKind} {e : TypeId} {z : Value} {n m q : Nat} (ho : o.op = .makeSlice ty x y) (hx : aev t x = .int k q) (hy : aev t y = .int k' q) (hu : P.underlying ty = some (.slice e)) (hi : tinfo P e z n m) (hz : constB z = true) (hs : z.cells.size = n) (hn : (n == 0) = false)
  (hb : q < 2 ^ 40) (hb2 : q * m ≤ 2 ^ 46) : Step P C o t H (.alloc H.next) (.slice (some ⟨H.next, 0, none⟩) q n) (H.new (.cells n ((List.range (q * n)).map fun j => z.cells[j % z.cells.size]!))) := by
 obtain ⟨i, h1, h2, h3, h4⟩ := tinfo_get hi
 have := Step.a (P := P) (C := C) (o := o) (t := t) (H := H) _ _ (.makeSlice ty x k e i z q y k' ho hx hy hu h1 h2 hz (by omega) hb (by rw [h4]; exact hb2) (by rw [h3]; simpa using hn))
 rwa [h3] at this
theorem buildSlice {ty : TypeId} {len : Nat} {parts : Array (Nat × Operand)} {e : TypeId} {z : Value} {n m : Nat} {r : Array Value} {cs : List Value} (ho : o.op = .buildSlice ty len parts) (hu : P.underlying ty = some (.slice e)) (hi : tinfo P e z n m) (hz : constB z = true) (hs : z.cells.size = n) (hn : (n == 0) = false) (hlim : len * n ≤ 2 ^ 24)
  (ht : ∀ p ∈ parts.toList, aev t p.2 ≠ topV) (hr : Instr.fill (fun k => some (k * n, n)) ((Array.range (len * n)).map fun j => z.cells[j % z.cells.size]!) (parts.map fun (k, x) => (k, aev t x)).toList = some r) (hrs : r.size = len * n) (hc : r.toList = cs) :
  Step P C o t H (.alloc H.next) (.slice (some ⟨H.next, 0, none⟩) len n) (H.new (.cells n cs)) := by
 obtain ⟨i, h1, h2, h3, h4⟩ := tinfo_get hi
 subst h3 hc
 exact .a _ _ (.buildSlice ty len parts e i z r ho hu h1 h2 hz hs hlim (fun p hp => ht p (by simpa using hp)) hr hrs (by simpa using hn))
theorem store {ty : TypeId} {x y : Operand} {b off esz : Nat} {c cs : List Value} {v z : Value} {n m : Nat} (ho : o.op = .store ty x y) (hx : aev t x = .pointer (some ⟨b, off, none⟩)) (hy : aev t y = v) (hi : tinfo P ty z n m) (hg : H.get b = some (.cells esz c)) (hlo : H.lo ≤ b) (hv : v ≠ topV)
  (hcs : v.cells.toList = cs) (hs : cs.length = n) (hb : off + n ≤ c.length) (h1 : cs.all One = true) : Step P C o t H .eff undef (H.upd b (some (.cells esz (splice c off cs)))) := by
 obtain ⟨i, h2, h3, h4, h5⟩ := tinfo_get hi
 subst hcs
 have := Step.m (P := P) (C := C) (o := o) (t := t) (H := H) _ _ (.store ty x y b off esz c i ho hx hlo hg (by rw [hy]; exact hv) h2 (by rw [hy, h4]; simpa using hs) (by omega) (fun v hv => List.all_eq_true.1 h1 v (by rwa [hy] at hv)))
 rwa [hy] at this
theorem call {f : Operand} {xs : Array Operand} {ts : Array TypeId} {g : FuncId} {us vs args : Array Value} {v : Value} {H' : AH} (ho : o.op = .call { callee := .value f, args := xs, argTypes := ts }) (hf : aev t f = .func (.func g) us vs) (he : enterable P g) (ha : us ++ xs.map (aev t) ++ vs = args) (hc : C g args H v H') :
  Step P C o t H .eff v H' := .call f xs ts g us vs v H' ho hf he (ha ▸ hc)
end S
end
end Go.Vm
