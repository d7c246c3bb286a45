/-
  Part of an evaluator for the model, proved sound: no condition.
-/
import Derived.Test.YthbllmihobbcgaaEVm13
import Derived.IntWalk
import Derived.Laws.Strings
import Derived.Tactics
set_option linter.unusedSimpArgs false
set_option linter.unusedVariables false
namespace Go.Vm
open Go
section
variable {P : Program} {C : CallRel} {o : Oper} {t : T} {H : AH} {l : List (Nat × Value)}
theorem L {i : Nat} {v : Value} (k : Nat) (h : l[k]? = some (i, v)) (h2 : (l.take k).all (fun p => !(p.1 == i)) = true) : aev (fr l) (.tmp i) = v := by
 show fr l i = v
 have hk := (List.getElem?_eq_some_iff.1 h).1
 have hl : l = l.take k ++ (i, v) :: l.drop (k + 1) := by
  rw [← (List.getElem?_eq_some_iff.1 h).2, List.getElem_cons_drop, List.take_append_drop]
 have hnone : (l.take k).find? (fun p => p.1 == i) = none := by
  rw [List.find?_eq_none]
  intro p hp
  have := List.all_eq_true.1 h2 p hp
  simpa using this
 unfold fr
 rw [hl, List.find?_append, hnone]
 simp
theorem K {v : Value} : aev t (.const v) = v := rfl
theorem Fu {f : FuncId} : aev t (.func f) = .func (.func f) #[] #[] := rfl
theorem Gl {g : Nat} : aev t (.global g) = .pointer (some ⟨g, 0, none⟩) := rfl
def tinfo (P : Program) (e : TypeId) (z : Value) (n m : Nat) : Prop := (P.info? e).map (fun i => (i.zero, i.size, i.bytes)) = some (some z, n, m)
theorem tinfo_get {e : TypeId} {z : Value} {n m : Nat} (h : tinfo P e z n m) : ∃ i, P.info? e = some i ∧ i.zero = some z ∧ i.size = n ∧ i.bytes = m := by
 unfold tinfo at h
 obtain ⟨i, h1, h2⟩ := Option.map_eq_some_iff.1 h
 simp at h2
 exact ⟨i, h1, h2⟩
theorem bytesEq (a b : ByteArray) : (a.toList == b.toList) = decide (a = b) := by
 rw [ByteArray.toList_eq, ByteArray.toList_eq, Bool.eq_iff_iff]
 simp only [beq_iff_eq, decide_eq_true_eq]
 constructor
 ·intro h; exact ByteArray.ext (Array.ext' h)
 ·intro h; rw [h]
namespace S
theorem move {x : Operand} {v : Value} (ho : o.op = .move x) (hx : aev t x = v) : Step P C o t H .pure v H := hx ▸ .p _ (.move x ho)
theorem assign {x : Operand} {v : Value} (ho : o.op = .assign x) (hx : aev t x = v) : Step P C o t H .pure v H := hx ▸ .p _ (.assign x ho)
theorem pickT {c x y : Operand} {v : Value} (ho : o.op = .pick c x y) (hc : aev t c = .bool true) (hx : aev t x = v) : Step P C o t H .pure v H := hx ▸ .p _ (.pick c x y true ho hc)
theorem pickF {c x y : Operand} {v : Value} (ho : o.op = .pick c x y) (hc : aev t c = .bool false) (hx : aev t y = v) : Step P C o t H .pure v H := hx ▸ .p _ (.pick c x y false ho hc)
theorem nilCheck {x : Operand} {a : Addr} (ho : o.op = .nilCheck x) (hx : aev t x = .pointer (some a)) : Step P C o t H .pure (.pointer (some a)) H := .p _ (.nilCheck x a ho hx)
theorem nilCheckF {x : Operand} {g : FuncId} {us vs : Array Value} (ho : o.op = .nilCheck x) (hx : aev t x = .func (.func g) us vs) : Step P C o t H .pure (.func (.func g) us vs) H := .p _ (.nilCheckF x g us vs ho hx)
theorem fieldAddr {s : TypeId} {x : Operand} {f b off : Nat} {fields : Array Field} {fd : Field} {z : Value} {n m : Nat} (ho : o.op = .fieldAddr s x f) (hx : aev t x = .pointer (some ⟨b, off, none⟩)) (hu : P.underlying s = some (.struct fields)) (hf : fields[f]? = some fd)
  (hi : tinfo P fd.type z n m) (hs : (n == 0) = false) {k : Nat} (hk : off + fd.offset = k) : Step P C o t H .pure (.pointer (some ⟨b, k, none⟩)) H := by
 obtain ⟨i, h1, h2, h3, h4⟩ := tinfo_get hi
 subst hk
 exact .p _ (.fieldAddr s x f b off fields fd i ho hx hu hf h1 (by rw [h3]; simpa using hs))
theorem index {ty : TypeId} {x ix : Operand} {b off n c : Nat} {k : IntKind} {j : Int} {e : TypeId} {z : Value} {sz m : Nat} (ho : o.op = .indexAddr ty x ix) (hx : aev t x = .slice (some ⟨b, off, none⟩) n c) (hix : aev t ix = .int k j)
  (hu : P.underlying ty = some (.slice e)) (hi : tinfo P e z sz m) (h0 : 0 ≤ j) (h1 : j < n) : Step P C o t H .pure (.pointer (some ⟨b, off + j.toNat * sz, none⟩)) H := by
 obtain ⟨i, h2, h3, h4, h5⟩ := tinfo_get hi
 rw [← h4]
 exact .p _ (.indexS ty x ix b off n c k j e i ho hx hix hu h2 h0 h1)
theorem indexA {ty : TypeId} {x ix : Operand} {b off n : Nat} {k : IntKind} {j : Int} {e : TypeId} {z : Value} {sz m : Nat} (ho : o.op = .indexAddr ty x ix) (hx : aev t x = .pointer (some ⟨b, off, none⟩)) (hix : aev t ix = .int k j)
  (hu : P.underlying ty = some (.array n e)) (hi : tinfo P e z sz m) (h0 : 0 ≤ j) (h1 : j < n) : Step P C o t H .pure (.pointer (some ⟨b, off + j.toNat * sz, none⟩)) H := by
 obtain ⟨i, h2, h3, h4, h5⟩ := tinfo_get hi
 rw [← h4]
 exact .p _ (.indexA ty x ix b off n k j e i ho hx hix hu h2 h0 h1)
theorem extract {x : Operand} {i : Nat} {vs : Array Value} {v : Value} (ho : o.op = .extract x i) (hx : aev t x = .tuple vs) (hv : vs[i]? = some v) (ht : 2 ≤ vs.size) : Step P C o t H .pure v H := .p _ (.extract x i vs v ho hx hv ht)
theorem makeFunc {fn : Fn} {us vs : Array Operand} (ho : o.op = .makeFunc fn us vs) : Step P C o t H .pure (.func fn (us.map (aev t)) (vs.map (aev t))) H := .p _ (.makeFunc fn us vs ho)
theorem len {x : Operand} {ty e : TypeId} {b : Addr} {n c : Nat} (ho : o.op = .call { callee := .builtin .len, args := #[x], argTypes := #[ty] }) (hx : aev t x = .slice (some b) n c) (hu : P.underlying ty = some (.slice e)) : Step P C o t H .pure (.int .i64 n) H := .p _ (.lenS x ty e b n c ho hu hx)
theorem nilS {op : BinOp} {ty u e : TypeId} {x y : Operand} {b : Addr} {n c : Nat} (ho : o.op = .binOp op ty x y u) (hop : op = .eql ∨ op = .neq) (hx : aev t x = .slice (some b) n c) (hy : aev t y = .slice none 0 0) (hu : P.underlying ty = some (.slice e)) : Step P C o t H .pure (.bool (op == .neq)) H :=
 .p _ (.nilS op ty u e x y b n c ho hop hu (.inl ⟨hx, hy⟩))
theorem nilP {op : BinOp} {ty u e : TypeId} {x y : Operand} {b : Addr} (ho : o.op = .binOp op ty x y u) (hop : op = .eql ∨ op = .neq) (hx : aev t x = .pointer (some b)) (hy : aev t y = .pointer none) (hu : P.underlying ty = some (.pointer e)) : Step P C o t H .pure (.bool (op == .neq)) H :=
 .p _ (.nilP op ty u e x y b ho hop hu (.inl ⟨hx, hy⟩))
theorem flat2 {op : BinOp} {ty u : TypeId} {x y : Operand} {v a b : Value} (ho : o.op = .binOp op ty x y u) (hx : aev t x = a) (hy : aev t y = b) (ha : Flat a) (hb : Flat b) (hv : Flat v)
  (hr : ∀ w, (binOp op ty a b).run P w = .ok v w) (hg : ∀ w, (eqGuard op ty x y a b).run P w = .ok () w) : Step P C o t H .pure v H := by
 refine .p _ (.flat v (fun z hz => ?_) (fun cs b => by rw [ho]; simp) hv (fun w => ?_))
 ·rw [ho] at hz
  simp [Op.operands] at hz
  rcases hz with rfl | rfl
  ·rw [hx]; exact ha
  ·rw [hy]; exact hb
 ·simp only [execOp, ho, hx, hy, Sem.run_bind, hg, Result.andThen_ok, hr, Sem.run_pure]
theorem guard_int {op : BinOp} {ty : TypeId} {x y : Operand} {k k' : IntKind} {a b : Int} (w : World) : (eqGuard op ty x y (.int k a) (.int k' b)).run P w = .ok () w := by cases op <;> rfl
theorem guard_str {op : BinOp} {ty : TypeId} {x y : Operand} {a b : ByteArray} (w : World) : (eqGuard op ty x y (.string a) (.string b)).run P w = .ok () w := by cases op <;> rfl
theorem guard_bool {op : BinOp} {ty : TypeId} {x y : Operand} {a b : Bool} (w : World) : (eqGuard op ty x y (.bool a) (.bool b)).run P w = .ok () w := by cases op <;> rfl
variable {ty u : TypeId} {x y : Operand} {k : IntKind} {a b : Int}
theorem lss (ho : o.op = .binOp .lss ty x y u) (hx : aev t x = .int k a) (hy : aev t y = .int k b) : Step P C o t H .pure (.bool (decide (a < b))) H :=
 flat2 ho hx hy (.atom _ (.int _ _)) (.atom _ (.int _ _)) (.atom _ (.bool _)) (fun w => by simp [binOp, Op.intCmp]) guard_int
theorem leq (ho : o.op = .binOp .leq ty x y u) (hx : aev t x = .int k a) (hy : aev t y = .int k b) : Step P C o t H .pure (.bool (decide (a ≤ b))) H :=
 flat2 ho hx hy (.atom _ (.int _ _)) (.atom _ (.int _ _)) (.atom _ (.bool _)) (fun w => by simp [binOp, Op.intCmp]) guard_int
theorem gtr (ho : o.op = .binOp .gtr ty x y u) (hx : aev t x = .int k a) (hy : aev t y = .int k b) : Step P C o t H .pure (.bool (decide (b < a))) H :=
 flat2 ho hx hy (.atom _ (.int _ _)) (.atom _ (.int _ _)) (.atom _ (.bool _)) (fun w => by simp [binOp, Op.intCmp]) guard_int
theorem geq (ho : o.op = .binOp .geq ty x y u) (hx : aev t x = .int k a) (hy : aev t y = .int k b) : Step P C o t H .pure (.bool (decide (b ≤ a))) H :=
 flat2 ho hx hy (.atom _ (.int _ _)) (.atom _ (.int _ _)) (.atom _ (.bool _)) (fun w => by simp [binOp, Op.intCmp]) guard_int
theorem eqlI (ho : o.op = .binOp .eql ty x y u) (hx : aev t x = .int k a) (hy : aev t y = .int k b) : Step P C o t H .pure (.bool (decide (a = b))) H :=
 flat2 ho hx hy (.atom _ (.int _ _)) (.atom _ (.int _ _)) (.atom _ (.bool _)) (fun w => by simp [binOp, Op.intCmp]; rw [Bool.eq_iff_iff]; simp) guard_int
theorem neqI (ho : o.op = .binOp .neq ty x y u) (hx : aev t x = .int k a) (hy : aev t y = .int k b) : Step P C o t H .pure (.bool (decide (a ≠ b))) H :=
 flat2 ho hx hy (.atom _ (.int _ _)) (.atom _ (.int _ _)) (.atom _ (.bool _)) (fun w => by simp [binOp, Op.intCmp]; try rfl) guard_int
theorem add (ho : o.op = .binOp .add ty x y u) (hx : aev t x = .int k a) (hy : aev t y = .int k b) : Step P C o t H .pure (.int k (k.wrap (a + b))) H :=
 flat2 ho hx hy (.atom _ (.int _ _)) (.atom _ (.int _ _)) (.atom _ (.int _ _)) (fun w => by simp [binOp, Op.intArith]) guard_int
theorem sub (ho : o.op = .binOp .sub ty x y u) (hx : aev t x = .int k a) (hy : aev t y = .int k b) : Step P C o t H .pure (.int k (k.wrap (a - b))) H :=
 flat2 ho hx hy (.atom _ (.int _ _)) (.atom _ (.int _ _)) (.atom _ (.int _ _)) (fun w => by simp [binOp, Op.intArith]) guard_int
theorem mul (ho : o.op = .binOp .mul ty x y u) (hx : aev t x = .int k a) (hy : aev t y = .int k b) : Step P C o t H .pure (.int k (k.wrap (a * b))) H :=
 flat2 ho hx hy (.atom _ (.int _ _)) (.atom _ (.int _ _)) (.atom _ (.int _ _)) (fun w => by simp [binOp, Op.intArith]) guard_int
theorem i64_ok {z : Int} (h1 : -9223372036854775808 ≤ z) (h2 : z ≤ 9223372036854775807) : IntKind.i64.wrap z = z := by
 unfold IntKind.wrap
 simp [IntKind.signed, IntKind.bits]
 omega
theorem addI {c : Int} (ho : o.op = .binOp .add ty x y u) (hx : aev t x = .int .i64 a) (hy : aev t y = .int .i64 b) (hc : a + b = c) (h1 : -9223372036854775808 ≤ c) (h2 : c ≤ 9223372036854775807) : Step P C o t H .pure (.int .i64 c) H := by
 have := add (P := P) (C := C) (H := H) ho hx hy
 rwa [hc, i64_ok h1 h2] at this
theorem subI {c : Int} (ho : o.op = .binOp .sub ty x y u) (hx : aev t x = .int .i64 a) (hy : aev t y = .int .i64 b) (hc : a - b = c) (h1 : -9223372036854775808 ≤ c) (h2 : c ≤ 9223372036854775807) : Step P C o t H .pure (.int .i64 c) H := by
 have := sub (P := P) (C := C) (H := H) ho hx hy
 rwa [hc, i64_ok h1 h2] at this
theorem eqlS {a b : ByteArray} (ho : o.op = .binOp .eql ty x y u) (hx : aev t x = .string a) (hy : aev t y = .string b) : Step P C o t H .pure (.bool (decide (a = b))) H :=
 flat2 ho hx hy (.atom _ (.string _)) (.atom _ (.string _)) (.atom _ (.bool _)) (fun w => by simp only [binOp, Op.stringOp, Sem.run_pure, bytesEq]) guard_str
theorem neqS {a b : ByteArray} (ho : o.op = .binOp .neq ty x y u) (hx : aev t x = .string a) (hy : aev t y = .string b) : Step P C o t H .pure (.bool (decide (a ≠ b))) H :=
 flat2 ho hx hy (.atom _ (.string _)) (.atom _ (.string _)) (.atom _ (.bool _)) (fun w => by simp only [binOp, Op.stringOp, Sem.run_pure, ne_eq, decide_not, bytesEq]) guard_str
theorem eqIn_bool {a b : Bool} (hu : P.underlying ty = some .bool) (d : Nat) (w : World) : (Op.equalIn (d + 1) ty (.bool a) (.bool b)).run P w = .ok (a == b) w := by
 simp [Op.equalIn, run_und hu]
theorem eqlB {a b : Bool} (ho : o.op = .binOp .eql ty x y u) (hx : aev t x = .bool a) (hy : aev t y = .bool b) (hu : P.underlying ty = some .bool) : Step P C o t H .pure (.bool (a == b)) H :=
 flat2 ho hx hy (.atom _ (.bool _)) (.atom _ (.bool _)) (.atom _ (.bool _)) (fun w => by simp only [binOp]; simp [Op.equal, Op.maxDepth, eqIn_bool hu 9999]) guard_bool
theorem neqB {a b : Bool} (ho : o.op = .binOp .neq ty x y u) (hx : aev t x = .bool a) (hy : aev t y = .bool b) (hu : P.underlying ty = some .bool) : Step P C o t H .pure (.bool (!(a == b))) H :=
 flat2 ho hx hy (.atom _ (.bool _)) (.atom _ (.bool _)) (.atom _ (.bool _)) (fun w => by simp only [binOp]; simp [Op.equal, Op.maxDepth, eqIn_bool hu 9999]) guard_bool
theorem not {a : Bool} (ho : o.op = .unOp .not ty x) (hx : aev t x = .bool a) : Step P C o t H .pure (.bool (!a)) H := by
 refine .p _ (.flat _ (fun z hz => ?_) (fun cs b => by rw [ho]; simp) (.atom _ (.bool _)) (fun w => ?_))
 ·rw [ho] at hz
  simp [Op.operands] at hz
  rw [hz, hx]; exact .atom _ (.bool _)
 ·simp [execOp, ho, hx, Op.unary]
theorem lenStr {s : ByteArray} (ho : o.op = .call { callee := .builtin .len, args := #[x], argTypes := #[ty] }) (hx : aev t x = .string s) (hu : P.underlying ty = some .string) : Step P C o t H .pure (.int .i64 s.size) H := by
 refine .p _ (.flat _ (fun z hz => ?_) (fun cs b => by rw [ho]; simp) (.atom _ (.int _ _)) (fun w => ?_))
 ·rw [ho] at hz
  simp [Op.operands, Call.operands] at hz
  rw [hz, hx]; exact .atom _ (.string _)
 ·simp [execOp, ho, hx, resolve, invoke, builtin, Builtin.len_, run_und hu, goInt]
theorem lenNil (ho : o.op = .call { callee := .builtin .len, args := #[x], argTypes := #[ty] }) (hx : aev t x = .slice none 0 0) {e : TypeId} (hu : P.underlying ty = some (.slice e)) : Step P C o t H .pure (.int .i64 0) H := by
 refine .p _ (.flat _ (fun z hz => ?_) (fun cs b => by rw [ho]; simp) (.atom _ (.int _ _)) (fun w => ?_))
 ·rw [ho] at hz
  simp [Op.operands, Call.operands] at hz
  rw [hz, hx]; exact .atom _ .nilSlice
 ·simp [execOp, ho, hx, resolve, invoke, builtin, Builtin.len_, run_und hu, goInt]
theorem load {ty : TypeId} {x : Operand} {b off : Nat} {d : TypeDesc} {v : Value} (ho : o.op = .load ty x) (hx : aev t x = .pointer (some ⟨b, off, none⟩)) (hu : P.underlying ty = some d) (ha : isAggD d = false) (hc : H.cell b off = some v) : Step P C o t H (.read b) v H := .l b v (.load1 ty x b off d v ho hx hu ha hc)
theorem loadN {ty : TypeId} {x : Operand} {b off : Nat} {d : TypeDesc} {cs : List Value} {z : Value} {n m : Nat} (ho : o.op = .load ty x) (hx : aev t x = .pointer (some ⟨b, off, none⟩)) (hu : P.underlying ty = some d) (ha : isAggD d = true) (hi : tinfo P ty z n m) (hl : cs.length = n)
  (hc : ∀ (j : Nat) (v : Value), cs[j]? = some v → H.cell b (off + j) = some v) : Step P C o t H (.read b) (.agg cs.toArray) H := by
 obtain ⟨i, h1, h2, h3, h4⟩ := tinfo_get hi
 exact .l b _ (.loadN ty x b off d cs i ho hx hu ha h1 (by omega) hc)
theorem loadB {ty : TypeId} {x : Operand} {b e : Nat} {d : TypeDesc} {cs : List Value} {z : Value} {n m : Nat} (ho : o.op = .load ty x) (hx : aev t x = .pointer (some ⟨b, 0, none⟩)) (hu : P.underlying ty = some d) (ha : isAggD d = true) (hi : tinfo P ty z n m) (hg : H.get b = some (.cells e cs)) (hl : cs.length = n) :
  Step P C o t H (.read b) (.agg cs.toArray) H := loadN ho hx hu ha hi hl (fun j v hj => by rw [Nat.zero_add]; unfold AH.cell; rw [hg]; exact hj)
theorem cellB {b e o : Nat} {cs : List Value} {v : Value} (hg : H.get b = some (.cells e cs)) (h : cs[o]? = some v) : H.cell b o = some v := by unfold AH.cell; rw [hg]; exact h
theorem box {e : TypeId} {x : Operand} {v : Value} {cs : List Value} (ho : o.op = .box e x) (hx : aev t x = v) (hv : v ≠ topV) (hc : v.cells.toList = cs) : Step P C o t H (.alloc H.next) (.pointer (some ⟨H.next, 0, none⟩)) (H.new (.cells 0 cs)) := by
 have := Step.a (P := P) (C := C) (o := o) (t := t) (H := H) _ _ (.box e x ho (by rw [hx]; exact hv))
 rwa [hx, hc] at this
theorem alloc {e : TypeId} {z : Value} {n m : Nat} {cs : List Value} (ho : o.op = .alloc e) (hi : tinfo P e z n m) (hz : constB z = true) (hc : z.cells.toList = cs) : Step P C o t H (.alloc H.next) (.pointer (some ⟨H.next, 0, none⟩)) (H.new (.cells n cs)) := by
 obtain ⟨i, h1, h2, h3, h4⟩ := tinfo_get hi
 have := Step.a (P := P) (C := C) (o := o) (t := t) (H := H) _ _ (.alloc e i z ho h1 h2 hz)
 rwa [h3, hc] at this
theorem makeMap {ty : TypeId} (ho : o.op = .makeMap ty none) : Step P C o t H (.alloc H.next) (.map (some H.next)) (H.new (.amap [])) := .a _ _ (.makeMap ty ho)
theorem makeSlice {ty : TypeId} {x y : Operand} {k k' : IntKind} {e : TypeId} {z : Value} {n m q : Nat} (ho : o.op = .makeSlice ty x y) (hx : aev t x = .int k q) (hy : aev t y = .int k' q) (hu : P.underlying ty = some (.slice e)) (hi : tinfo P e z n m) (hz : constB z = true) (hs : z.cells.size = n) (hn : (n == 0) = false)
  (hb : q < 2 ^ 40) (hb2 : q * m ≤ 2 ^ 46) : Step P C o t H (.alloc H.next) (.slice (some ⟨H.next, 0, none⟩) q n) (H.new (.cells n ((List.range (q * n)).map fun j => z.cells[j % z.cells.size]!))) := by
 obtain ⟨i, h1, h2, h3, h4⟩ := tinfo_get hi
 have := Step.a (P := P) (C := C) (o := o) (t := t) (H := H) _ _ (.makeSlice ty x k e i z q y k' ho hx hy hu h1 h2 hz (by omega) hb (by rw [h4]; exact hb2) (by rw [h3]; simpa using hn))
 rwa [h3] at this
theorem buildSlice {ty : TypeId} {len : Nat} {parts : Array (Nat × Operand)} {e : TypeId} {z : Value} {n m : Nat} {r : Array Value} {cs : List Value} (ho : o.op = .buildSlice ty len parts) (hu : P.underlying ty = some (.slice e)) (hi : tinfo P e z n m) (hz : constB z = true) (hs : z.cells.size = n) (hn : (n == 0) = false) (hlim : len * n ≤ 2 ^ 24)
  (ht : ∀ p ∈ parts.toList, aev t p.2 ≠ topV) (hr : Instr.fill (fun k => some (k * n, n)) ((Array.range (len * n)).map fun j => z.cells[j % z.cells.size]!) (parts.map fun (k, x) => (k, aev t x)).toList = some r) (hrs : r.size = len * n) (hc : r.toList = cs) :
  Step P C o t H (.alloc H.next) (.slice (some ⟨H.next, 0, none⟩) len n) (H.new (.cells n cs)) := by
 obtain ⟨i, h1, h2, h3, h4⟩ := tinfo_get hi
 subst h3 hc
 exact .a _ _ (.buildSlice ty len parts e i z r ho hu h1 h2 hz hs hlim (fun p hp => ht p (by simpa using hp)) hr hrs (by simpa using hn))
theorem fill_all (n : Nat) (cells : Array Value) (v : Value) (hv : v.cells.size = n) (hc : cells.size = n) : Instr.fill (fun k => some (k * n, n)) cells [(0, v)] = some v.cells := by
 simp only [Instr.fill, Nat.zero_mul, Nat.zero_add, hv, hc]
 simp only [ne_eq, not_true_eq_false, Nat.lt_irrefl, decide_false, Bool.or_self, Bool.false_eq_true, if_false, gt_iff_lt, or_self]
 congr 1
 have key : ∀ (l : List Value) (k : Nat) (c : Array Value), k + l.length ≤ c.size → ((l.zipIdx k).foldl (fun cs (p : Value × Nat) => cs.setIfInBounds p.2 p.1) c).toList = c.toList.take k ++ l ++ c.toList.drop (k + l.length) := by
  intro l
  induction l with
  | nil => intro k c h; simp
  | cons x l ih =>
   intro k c h
   simp at h
   rw [List.zipIdx_cons, List.foldl_cons, ih (k + 1) _ (by simp; omega)]
   apply List.ext_getElem?
   intro q
   simp only [Array.toList_setIfInBounds, List.getElem?_append, List.length_append, List.length_take, List.length_set, Array.length_toList, List.length_cons, List.getElem?_take, List.getElem?_drop, List.getElem?_set, List.getElem?_cons]
   by_cases h1 : q < k
   ·simp [h1, show q < k + 1 by omega, show min k c.size = k by omega, show min (k + 1) c.size = k + 1 by omega, show q < k + (l.length + 1) by omega, show q < k + 1 + l.length by omega, show k ≠ q by omega]
   ·by_cases h2 : q = k
    ·subst h2
     simp [show min q c.size = q by omega, show min (q + 1) c.size = q + 1 by omega, show q < c.size by omega]
     intro hbad
     omega
    ·by_cases h3 : q < k + 1 + l.length
     ·simp [show min k c.size = k by omega, show min (k + 1) c.size = k + 1 by omega, h1, show ¬ q < k + 1 by omega, h3, show q < k + (l.length + 1) by omega, show q - k ≠ 0 by omega, show q - (k + 1) = q - k - 1 by omega]
     ·simp [show min k c.size = k by omega, show min (k + 1) c.size = k + 1 by omega, h1, show ¬ q < k + 1 by omega, h3, show ¬ q < k + (l.length + 1) by omega, show k + 1 + l.length + (q - (k + 1 + l.length)) = q by omega, show k + (l.length + 1) + (q - (k + (l.length + 1))) = q by omega, show k ≠ q by omega]
 apply Array.ext'
 have := key v.cells.toList 0 cells (by simp; omega)
 rw [← Array.foldl_toList, Array.toList_zipIdx]
 rw [this]
 simp
 omega
theorem store {ty : TypeId} {x y : Operand} {b off esz : Nat} {c cs : List Value} {v z : Value} {n m : Nat} (ho : o.op = .store ty x y) (hx : aev t x = .pointer (some ⟨b, off, none⟩)) (hy : aev t y = v) (hi : tinfo P ty z n m) (hg : H.get b = some (.cells esz c)) (hlo : H.lo ≤ b) (hv : v ≠ topV)
  (hcs : v.cells.toList = cs) (hs : cs.length = n) (hb : off + n ≤ c.length) (h1 : cs.all One = true) : Step P C o t H .eff undef (H.upd b (some (.cells esz (splice c off cs)))) := by
 obtain ⟨i, h2, h3, h4, h5⟩ := tinfo_get hi
 subst hcs
 have := Step.m (P := P) (C := C) (o := o) (t := t) (H := H) _ _ (.store ty x y b off esz c i ho hx hlo hg (by rw [hy]; exact hv) h2 (by rw [hy, h4]; simpa using hs) (by omega) (fun v hv => List.all_eq_true.1 h1 v (by rwa [hy] at hv)))
 rwa [hy] at this
theorem call {f : Operand} {xs : Array Operand} {ts : Array TypeId} {g : FuncId} {us vs args : Array Value} {v : Value} {H' : AH} (ho : o.op = .call { callee := .value f, args := xs, argTypes := ts }) (hf : aev t f = .func (.func g) us vs) (he : enterable P g) (ha : us ++ xs.map (aev t) ++ vs = args) (hc : C g args H v H') :
  Step P C o t H .eff v H' := .call f xs ts g us vs v H' ho hf he (ha ▸ hc)
end S
end
end Go.Vm
namespace Go.Vm
open Go
structure ExtH (H H' : AH) : Prop where
 next : H.next ≤ H'.next
 lo : H'.lo = H.lo
 get : ∀ b, b < H.next → H'.get b = H.get b
theorem ExtH.refl (H : AH) : ExtH H H := ⟨Nat.le_refl _, rfl, fun _ _ => rfl⟩
theorem ExtH.trans {A B D : AH} (h : ExtH A B) (h' : ExtH B D) : ExtH A D := ⟨Nat.le_trans h.next h'.next, h'.lo.trans h.lo, fun b hb => (h'.get b (Nat.lt_of_lt_of_le hb h.next)).trans (h.get b hb)⟩
theorem ExtH.cell {H H' : AH} (h : ExtH H H') {b o : Nat} {v : Value} (hb : b < H.next) (hc : H.cell b o = some v) : H'.cell b o = some v := (cell_congr (h.get b hb)).trans hc
structure OwnH (H0 H : AH) (b : Nat) (x : AObj) : Prop where
 ge : H0.next ≤ b
 lt : b < H.next
 get : H.get b = some x
theorem OwnH.ext {H0 H H' : AH} {b : Nat} {x : AObj} (h : OwnH H0 H b x) (he : ExtH H H') : OwnH H0 H' b x := ⟨h.ge, Nat.lt_of_lt_of_le h.lt he.next, (he.get b h.lt).trans h.get⟩
theorem OwnH.cell {H0 H : AH} {b e o : Nat} {c : List Value} {v : Value} (h : OwnH H0 H b (.cells e c)) (hv : c[o]? = some v) : H.cell b o = some v := S.cellB h.get hv
structure NwH (H : AH) (b : Nat) (H' : AH) (x : AObj) : Prop where
 eq : b = H.next
 heap : H' = H.new x
theorem NwH.ext {H H' : AH} {b : Nat} {x : AObj} (h : NwH H b H' x) : ExtH H H' := by
 obtain ⟨rfl, rfl⟩ := h
 exact ⟨by simp [AH.new], rfl, fun b hb => by simp [AH.new, Nat.ne_of_lt hb]⟩
theorem NwH.own {H0 H H' : AH} {b : Nat} {x : AObj} (h : NwH H b H' x) (he : H0.next ≤ H.next) : OwnH H0 H' b x := by
 obtain ⟨rfl, rfl⟩ := h
 exact ⟨he, by simp [AH.new], by simp [AH.new]⟩
theorem OwnH.ne {H0 H H' : AH} {b c : Nat} {x y : AObj} (h : OwnH H0 H b x) (hn : NwH H c H' y) : b ≠ c := by
 have := hn.eq
 have := h.lt
 omega
structure StH (H : AH) (b : Nat) (H' : AH) (x : AObj) : Prop where
 heap : H' = H.upd b (some x)
theorem StH.ext {H0 H H' : AH} {b : Nat} {x : AObj} (h : StH H b H' x) (he : ExtH H0 H) (hb : H0.next ≤ b) : ExtH H0 H' := by
 obtain ⟨rfl⟩ := h
 exact ⟨he.next, he.lo, fun c hc => by rw [← he.get c hc]; simp [AH.upd, show c ≠ b by omega]⟩
theorem StH.own {H0 H H' : AH} {b : Nat} {x y : AObj} (h : StH H b H' x) (ho : OwnH H0 H b y) : OwnH H0 H' b x := by
 obtain ⟨rfl⟩ := h
 exact ⟨ho.ge, ho.lt, by simp [AH.upd]⟩
theorem OwnH.st {H0 H H' : AH} {b c : Nat} {x y : AObj} (ho : OwnH H0 H c y) (h : StH H b H' x) (hne : c ≠ b) : OwnH H0 H' c y := by
 obtain ⟨rfl⟩ := h
 exact ⟨ho.ge, ho.lt, by simp [AH.upd, hne, ho.get]⟩
structure ApH (H : AH) (b : Option Nat) (b' : Nat) (H' : AH) (x : AObj) : Prop where
 eq : b' = H.next
 heap : H' = (match b with | some b => H.upd b none | none => H).new x
theorem ApH.ext {H0 H H' : AH} {b : Option Nat} {b' : Nat} {x : AObj} (h : ApH H b b' H' x) (he : ExtH H0 H) (hb : ∀ c, b = some c → H0.next ≤ c) : ExtH H0 H' := by
 obtain ⟨rfl, rfl⟩ := h
 cases b with
 | none => exact he.trans ⟨by simp [AH.new], rfl, fun b hb => by simp [AH.new, Nat.ne_of_lt hb]⟩
 | some b =>
  have := hb b rfl
  refine ⟨by have := he.next; simp [AH.new, AH.upd]; omega, he.lo, fun c hc => ?_⟩
  have h1 : c ≠ H.next := by have := he.next; omega
  have h2 : c ≠ b := by omega
  rw [← he.get c hc]
  simp [AH.new, AH.upd, h1, h2]
theorem ApH.own {H0 H H' : AH} {b : Option Nat} {b' : Nat} {x : AObj} (h : ApH H b b' H' x) (he : H0.next ≤ H.next) : OwnH H0 H' b' x := by
 obtain ⟨rfl, rfl⟩ := h
 cases b <;> exact ⟨he, by simp [AH.new, AH.upd], by simp [AH.new, AH.upd]⟩
theorem OwnH.ap {H0 H H' : AH} {b : Option Nat} {b' c : Nat} {x y : AObj} (ho : OwnH H0 H c y) (h : ApH H b b' H' x) (hne : ∀ d, b = some d → c ≠ d) : OwnH H0 H' c y := by
 obtain ⟨rfl, rfl⟩ := h
 have := ho.lt
 cases b with
 | none => exact ⟨ho.ge, by simp [AH.new]; omega, by simp [AH.new, Nat.ne_of_lt ho.lt, ho.get]⟩
 | some d => exact ⟨ho.ge, by simp [AH.new, AH.upd]; omega, by simp [AH.new, AH.upd, Nat.ne_of_lt ho.lt, hne d rfl, ho.get]⟩
theorem ApH.ne {H0 H H' : AH} {b : Option Nat} {b' c : Nat} {x y : AObj} (h : ApH H b b' H' x) (ho : OwnH H0 H c y) : c ≠ b' := by
 have := h.eq
 have := ho.lt
 omega
theorem WP.loopI {P : Program} {G N : Nat} {σ : Type} (F : σ → List (Nat × Value)) (I : σ → AH → Prop) (μ : σ → Nat) {c : Code} {Q : XQ}
  (round : ∀ s H, I s H → WP P G N c (sq (fun l H' => ∃ s', I s' H' ∧ μ s' < μ s ∧ ∀ p ∈ F s', fr l p.1 = p.2) Q) (F s) H) (s : σ) (H : AH) (h : I s H) (l : List (Nat × Value)) (hl : ∀ p ∈ F s, fr l p.1 = p.2) : WP P G N (.loop c) Q l H := by
 have key : ∀ (n : Nat) (s : σ) (H : AH), μ s = n → I s H → WP P G N (.loop c) Q (F s) H := by
  intro n
  induction n using Nat.strongRecOn with
  | _ n ih =>
   intro s H hn hI
   refine WP.loop ((round s H hI).mono (fun e l H' hq => ?_))
   cases e with
   | normal =>
    obtain ⟨s', h1, h2, h3⟩ := hq
    exact WP.weak (F s') h3 (ih (μ s') (hn ▸ h2) s' H' rfl h1)
   | exit id => exact hq
   | ret => exact hq
 exact WP.weak (F s) hl (key _ s H rfl h)
theorem allNil {l : List (Nat × Value)} : ∀ p ∈ ([] : List (Nat × Value)), fr l p.1 = p.2 := fun p h => by cases h
theorem allCons {l r : List (Nat × Value)} {i : Nat} {v : Value} (h : aev (fr l) (.tmp i) = v) (hr : ∀ p ∈ r, fr l p.1 = p.2) : ∀ p ∈ (i, v) :: r, fr l p.1 = p.2 := fun p hp => by
 cases hp with
 | head => exact h
 | tail _ hp => exact hr p hp
section
variable {P : Program} {G N : Nat} {ops : Array Oper} {i : Nat} {l : List (Nat × Value)} {H : AH} {Q : LQ} {o : Oper} {d : Tmp}
theorem WO.box {e : TypeId} {x : Operand} {v : Value} {cs : List Value} (ho : ops[i]? = some o) (hd : o.dst = some d) (hg : o.guard = none) (hop : o.op = .box e x) (hx : aev (fr l) x = v) (hv : v ≠ topV) (hc : v.cells.toList = cs)
  (h : ∀ b H1, NwH H b H1 (.cells 0 cs) → WO P G ops (i + 1) ((d, .pointer (some ⟨b, 0, none⟩)) :: l) H1 Q) : WO P G ops i l H Q := WO.s ho hd hg (S.box hop hx hv hc) (h _ _ ⟨rfl, rfl⟩)
theorem WO.alloc {e : TypeId} {z : Value} {n m : Nat} {cs : List Value} (ho : ops[i]? = some o) (hd : o.dst = some d) (hg : o.guard = none) (hop : o.op = .alloc e) (hi : tinfo P e z n m) (hz : constB z = true) (hc : z.cells.toList = cs)
  (h : ∀ b H1, NwH H b H1 (.cells n cs) → WO P G ops (i + 1) ((d, .pointer (some ⟨b, 0, none⟩)) :: l) H1 Q) : WO P G ops i l H Q := WO.s ho hd hg (S.alloc hop hi hz hc) (h _ _ ⟨rfl, rfl⟩)
theorem WO.makeSlice {ty : TypeId} {x y : Operand} {k k' : IntKind} {e : TypeId} {z : Value} {n m q : Nat} (ho : ops[i]? = some o) (hd : o.dst = some d) (hg : o.guard = none) (hop : o.op = .makeSlice ty x y) (hx : aev (fr l) x = .int k q) (hy : aev (fr l) y = .int k' q) (hu : P.underlying ty = some (.slice e)) (hi : tinfo P e z n m) (hz : constB z = true) (hs : z.cells.size = n)
  (hn : (n == 0) = false) (hb : q < 2 ^ 40) (hb2 : q * m ≤ 2 ^ 46) (h : ∀ b H1, NwH H b H1 (.cells n ((List.range (q * n)).map fun j => z.cells[j % z.cells.size]!)) → WO P G ops (i + 1) ((d, .slice (some ⟨b, 0, none⟩) q n) :: l) H1 Q) : WO P G ops i l H Q :=
 WO.s ho hd hg (S.makeSlice hop hx hy hu hi hz hs hn hb hb2) (h _ _ ⟨rfl, rfl⟩)
theorem WO.buildSlice {ty : TypeId} {len : Nat} {parts : Array (Nat × Operand)} {e : TypeId} {z : Value} {n m : Nat} {r : Array Value} {cs : List Value} (ho : ops[i]? = some o) (hd : o.dst = some d) (hg : o.guard = none) (hop : o.op = .buildSlice ty len parts) (hu : P.underlying ty = some (.slice e)) (hi : tinfo P e z n m) (hz : constB z = true) (hs : z.cells.size = n) (hn : (n == 0) = false) (hlim : len * n ≤ 2 ^ 24)
  (ht : ∀ p ∈ parts.toList, aev (fr l) p.2 ≠ topV) (hr : Instr.fill (fun k => some (k * n, n)) ((Array.range (len * n)).map fun j => z.cells[j % z.cells.size]!) (parts.map fun (k, x) => (k, aev (fr l) x)).toList = some r) (hrs : r.size = len * n) (hc : r.toList = cs)
  (h : ∀ b H1, NwH H b H1 (.cells n cs) → WO P G ops (i + 1) ((d, .slice (some ⟨b, 0, none⟩) len n) :: l) H1 Q) : WO P G ops i l H Q := WO.s ho hd hg (S.buildSlice hop hu hi hz hs hn hlim ht hr hrs hc) (h _ _ ⟨rfl, rfl⟩)
theorem WO.build1 {ty : TypeId} {x : Operand} {e : TypeId} {z v : Value} {n m : Nat} {cs : List Value} (ho : ops[i]? = some o) (hd : o.dst = some d) (hg : o.guard = none) (hop : o.op = .buildSlice ty 1 #[(0, x)]) (hx : aev (fr l) x = v) (hu : P.underlying ty = some (.slice e)) (hi : tinfo P e z n m) (hz : constB z = true) (hs : z.cells.size = n) (hn : (n == 0) = false) (hlim : n ≤ 2 ^ 24)
  (ht : v ≠ topV) (hc : v.cells.toList = cs) (hl : cs.length = n) (h : ∀ b H1, NwH H b H1 (.cells n cs) → WO P G ops (i + 1) ((d, .slice (some ⟨b, 0, none⟩) 1 n) :: l) H1 Q) : WO P G ops i l H Q := by
 subst hc hx
 have h0 := S.fill_all n ((Array.range (1 * n)).map fun j => z.cells[j % z.cells.size]!) (aev (fr l) x) (by rw [← hl]; simp) (by rw [Array.size_map, Array.size_range, Nat.one_mul])
 refine WO.buildSlice ho hd hg hop hu hi hz hs hn (by omega) (fun p hp => ?_) (r := (aev (fr l) x).cells) (by simpa using h0) (by rw [Nat.one_mul, ← hl]; simp) rfl h
 have : p = (0, x) := by simpa using hp
 subst this
 exact ht
theorem WO.makeMap {ty : TypeId} (ho : ops[i]? = some o) (hd : o.dst = some d) (hg : o.guard = none) (hop : o.op = .makeMap ty none) (h : ∀ b H1, NwH H b H1 (.amap []) → WO P G ops (i + 1) ((d, .map (some b)) :: l) H1 Q) : WO P G ops i l H Q := WO.s ho hd hg (S.makeMap hop) (h _ _ ⟨rfl, rfl⟩)
theorem WO.store {H0 : AH} {ty : TypeId} {x y : Operand} {b off esz : Nat} {c cs : List Value} {v z : Value} {n m : Nat} (ho : ops[i]? = some o) (hd : o.dst = none) (hg : o.guard = none) (hop : o.op = .store ty x y) (hx : aev (fr l) x = .pointer (some ⟨b, off, none⟩)) (hy : aev (fr l) y = v) (hi : tinfo P ty z n m)
  (hgb : H.get b = some (.cells esz c)) (hlo : H.lo ≤ b) (hv : v ≠ topV) (hcs : v.cells.toList = cs) (hs : cs.length = n) (hb : off + n ≤ c.length) (h1 : cs.all One = true) {c' : List Value} (hc' : splice c off cs = c') (h : ∀ H1, StH H b H1 (.cells esz c') → WO P G ops (i + 1) l H1 Q) : WO P G ops i l H Q := by
 subst hc'
 exact WO.n ho hd hg (S.store hop hx hy hi hgb hlo hv hcs hs hb h1) (h _ ⟨rfl⟩)
theorem WO.call {f : Operand} {xs : Array Operand} {ts : Array TypeId} {g : FuncId} {us vs args : Array Value} {Post : Value → AH → Prop} (ho : ops[i]? = some o) (hd : o.dst = some d) (hg : o.guard = none) (hop : o.op = .call { callee := .value f, args := xs, argTypes := ts }) (hf : aev (fr l) f = .func (.func g) us vs) (he : enterable P g)
  (ha : us ++ xs.map (aev (fr l)) ++ vs = args) (hc : ∃ v H', Cl P G g args H v H' ∧ Post v H') (h : ∀ v H1, Post v H1 → WO P G ops (i + 1) ((d, v) :: l) H1 Q) : WO P G ops i l H Q := by
 obtain ⟨v, H', h1, h2⟩ := hc
 exact WO.s ho hd hg (S.call hop hf he ha h1) (h v H' h2)
theorem WO.bs {b : Bool} {e : Tmp} (hk : aev (fr l) (.tmp e) = .bool b) (ht : b = true → WO P G ops i ((e, .bool true) :: l) H Q) (hf : b = false → WO P G ops i ((e, .bool false) :: l) H Q) : WO P G ops i l H Q := by
 have key : ∀ c, b = c → fr ((e, .bool c) :: l) = fr l := fun c hc => by
  subst hc
  funext j
  by_cases hj : j = e
  ·subst hj
   have : fr ((j, Value.bool b) :: l) j = .bool b := by simp [fr]
   rw [this]; exact hk.symm
  ·have : (e == j) = false := by simpa using Ne.symm hj
   simp [fr, List.find?_cons, this]
 cases b with
 | true =>
  obtain ⟨l', H', h1, h2⟩ := ht rfl
  exact ⟨l', H', by rw [← key true rfl]; exact h1, h2⟩
 | false =>
  obtain ⟨l', H', h1, h2⟩ := hf rfl
  exact ⟨l', H', by rw [← key false rfl]; exact h1, h2⟩
theorem WO.app {x y : Operand} {ty ty' e : TypeId} {z : Value} {sz m len n c : Nat} {b : Nat} {vx vy : Value} {c0 vs : List Value} (ho : ops[i]? = some o) (hd : o.dst = some d) (hg : o.guard = none) (hop : o.op = .call { callee := .builtin .append, args := #[x, y], argTypes := #[ty, ty'] })
  (hx : aev (fr l) x = .slice (some ⟨b, 0, none⟩) len sz) (hy : aev (fr l) y = vy) (hu : P.underlying ty = some (.slice e)) (hi : tinfo P e z sz m) (hz : z.cells.size = sz) (hs : Src P H sz vy ty' n vs) (hlo : H.lo ≤ b) (hgb : H.get b = some (.cells sz c0)) (hl : c0.length = len * sz) (hn : n ≠ 0)
  (h1 : vs.all One = true) (hb : (len + n) * m ≤ 2 ^ 46) (hb2 : len + n < 2 ^ 40) (hsz : (sz == 0) = false) (h : ∀ b' H1, ApH H (some b) b' H1 (.cells sz (c0 ++ vs)) → WO P G ops (i + 1) ((d, .slice (some ⟨b', 0, none⟩) (len + n) sz) :: l) H1 Q) : WO P G ops i l H Q := by
 obtain ⟨q, h2, h3, h4, h5⟩ := tinfo_get hi
 subst h4
 refine WO.s ho hd hg (.app _ _ (.put x y ty ty' e q z len n c0 vs (H.upd b none) hop hu h2 h3 hz (by rw [hy]; exact hs) ?_ hn (fun v hv => List.all_eq_true.1 h1 v hv) (by rw [h5]; exact Nat.le_trans hb (by decide)) (Nat.lt_trans hb2 (by decide)) (by simpa using hsz))) (h _ _ ⟨rfl, rfl⟩)
 rw [hx]
 have := Dst.slice (H := H) (size := q.size) b 0 len c0 hlo hgb (by omega)
 simpa using this
theorem WO.app0 {x y : Operand} {ty ty' e : TypeId} {z : Value} {sz m n : Nat} {vy : Value} {vs : List Value} (ho : ops[i]? = some o) (hd : o.dst = some d) (hg : o.guard = none) (hop : o.op = .call { callee := .builtin .append, args := #[x, y], argTypes := #[ty, ty'] })
  (hx : aev (fr l) x = .slice none 0 0) (hy : aev (fr l) y = vy) (hu : P.underlying ty = some (.slice e)) (hi : tinfo P e z sz m) (hz : z.cells.size = sz) (hs : Src P H sz vy ty' n vs) (hn : n ≠ 0)
  (h1 : vs.all One = true) (hb : n * m ≤ 2 ^ 46) (hb2 : n < 2 ^ 40) (hsz : (sz == 0) = false) (h : ∀ b' H1, ApH H none b' H1 (.cells sz vs) → WO P G ops (i + 1) ((d, .slice (some ⟨b', 0, none⟩) n sz) :: l) H1 Q) : WO P G ops i l H Q := by
 obtain ⟨q, h2, h3, h4, h5⟩ := tinfo_get hi
 subst h4
 have := h H.next (H.new (.cells q.size vs)) ⟨rfl, rfl⟩
 refine WO.s ho hd hg (.app _ _ (.put x y ty ty' e q z 0 n [] vs H hop hu h2 h3 hz (by rw [hy]; exact hs) (by rw [hx]; exact .nil) hn (fun v hv => List.all_eq_true.1 h1 v hv) (by rw [h5, Nat.zero_add]; exact Nat.le_trans hb (by decide)) (by omega) (by simpa using hsz))) ?_
 simpa [MRes.get] using this
theorem WO.appN {x y : Operand} {ty ty' e : TypeId} {z : Value} {sz m : Nat} {vx vy : Value} (ho : ops[i]? = some o) (hd : o.dst = some d) (hg : o.guard = none) (hop : o.op = .call { callee := .builtin .append, args := #[x, y], argTypes := #[ty, ty'] })
  (hx : aev (fr l) x = vx) (hxs : (∃ b off n c, vx = .slice (some ⟨b, off, none⟩) n c) ∨ vx = .slice none 0 0) (hy : aev (fr l) y = vy) (hu : P.underlying ty = some (.slice e)) (hi : tinfo P e z sz m) (hs : Src P H sz vy ty' 0 []) (h : WO P G ops (i + 1) ((d, vx) :: l) H Q) : WO P G ops i l H Q := by
 obtain ⟨q, h2, h3, h4, h5⟩ := tinfo_get hi
 subst h4
 refine WO.s ho hd hg (.app _ _ (.idle x y ty ty' e q hop hu h2 (by rw [hx]; exact hxs) (by rw [hy]; exact hs))) ?_
 rw [hx]
 exact h
end
end Go.Vm
namespace Go.Vm
open Go
structure Vw where
 F : Nat → Prop
 H : AH
 wf : ∀ b, F b → b < H.next
 lon : H.lo ≤ H.next
structure Vw.le (V V' : Vw) : Prop where
 next : V.H.next ≤ V'.H.next
 lo : V'.H.lo = V.H.lo
 sub : ∀ b, V.F b → V'.F b
 get : ∀ b, V.F b → V'.H.get b = V.H.get b
theorem Vw.le.refl (V : Vw) : V.le V := ⟨Nat.le_refl _, rfl, fun _ h => h, fun _ _ => rfl⟩
theorem Vw.le.trans {A B D : Vw} (h : A.le B) (h' : B.le D) : A.le D := ⟨Nat.le_trans h.next h'.next, h'.lo.trans h.lo, fun b hb => h'.sub b (h.sub b hb), fun b hb => (h'.get b (h.sub b hb)).trans (h.get b hb)⟩
structure Nx (M : Nat → Prop) (V V' : Vw) : Prop where
 le : V.le V'
 old : ∀ b, b < V.H.next → V'.F b → V.F b
 keep : ∀ b, b < V.H.next → ¬ M b → V'.H.get b = V.H.get b
 new : ∀ b, V.H.next ≤ b → M b
structure Own (M : Nat → Prop) (V : Vw) (b : Nat) (x : AObj) : Prop where
 m : M b
 lo : V.H.lo ≤ b
 lt : b < V.H.next
 nf : ¬ V.F b
 get : V.H.get b = some x
theorem Own.cell {M : Nat → Prop} {V : Vw} {b e o : Nat} {c : List Value} {v : Value} (h : Own M V b (.cells e c)) (hv : c[o]? = some v) : V.H.cell b o = some v := S.cellB h.get hv
def Vw.new (V : Vw) (x : AObj) : Vw := ⟨V.F, V.H.new x, fun b hb => Nat.lt_of_lt_of_le (V.wf b hb) (Nat.le_succ _), Nat.le_trans V.lon (Nat.le_succ _)⟩
structure Nw (V : Vw) (b : Nat) (V' : Vw) (x : AObj) : Prop where
 eq : b = V.H.next
 view : V' = V.new x
theorem Nw.le {V V' : Vw} {b : Nat} {x : AObj} (h : Nw V b V' x) : V.le V' := by
 obtain ⟨rfl, rfl⟩ := h
 exact ⟨Nat.le_succ _, rfl, fun _ h => h, fun b hb => by have := V.wf b hb; simp [Vw.new, AH.new, Nat.ne_of_lt this]⟩
theorem Nx.nw {M : Nat → Prop} {V0 V V' : Vw} {b : Nat} {x : AObj} (h : Nx M V0 V) (n : Nw V b V' x) : Nx M V0 V' := by
 refine ⟨h.le.trans n.le, ?_, ?_, h.new⟩ <;> obtain ⟨rfl, rfl⟩ := n
 ·exact h.old
 ·intro c hc hm
  have : c < V.H.next := Nat.lt_of_lt_of_le hc h.le.next
  have h1 : (V.new x).H.get c = V.H.get c := by simp [Vw.new, AH.new, Nat.ne_of_lt this]
  rw [h1]
  exact h.keep c hc hm
theorem Nw.own {M : Nat → Prop} {V0 V V' : Vw} {b : Nat} {x : AObj} (n : Nw V b V' x) (h : Nx M V0 V) : Own M V' b x := by
 obtain ⟨rfl, rfl⟩ := n
 exact ⟨h.new _ h.le.next, V.lon, Nat.lt_succ_self _, fun hf => by have := V.wf _ hf; omega, by simp [Vw.new, AH.new]⟩
theorem Own.nw {M : Nat → Prop} {V V' : Vw} {b c : Nat} {x y : AObj} (o : Own M V c y) (n : Nw V b V' x) : Own M V' c y := by
 obtain ⟨rfl, rfl⟩ := n
 exact ⟨o.m, o.lo, Nat.lt_succ_of_lt o.lt, o.nf, by have := o.lt; simp [Vw.new, AH.new, Nat.ne_of_lt this, o.get]⟩
theorem Own.neNw {M : Nat → Prop} {V V' : Vw} {b c : Nat} {x y : AObj} (o : Own M V c y) (n : Nw V b V' x) : c ≠ b := by
 have := n.eq
 have := o.lt
 omega
def Vw.set (V : Vw) (b : Nat) (x : AObj) : Vw := ⟨V.F, V.H.upd b (some x), V.wf, V.lon⟩
structure St (V : Vw) (b : Nat) (V' : Vw) (x : AObj) : Prop where
 view : V' = V.set b x
theorem St.le {M : Nat → Prop} {V V' : Vw} {b : Nat} {x y : AObj} (h : St V b V' x) (o : Own M V b y) : V.le V' := by
 obtain ⟨rfl⟩ := h
 refine ⟨Nat.le_refl _, rfl, fun _ h => h, fun c hc => ?_⟩
 have : c ≠ b := fun e => o.nf (e ▸ hc)
 simp [Vw.set, AH.upd, this]
theorem Nx.st {M : Nat → Prop} {V0 V V' : Vw} {b : Nat} {x y : AObj} (h : Nx M V0 V) (n : St V b V' x) (o : Own M V b y) : Nx M V0 V' := by
 refine ⟨h.le.trans (n.le o), ?_, ?_, h.new⟩ <;> obtain ⟨rfl⟩ := n
 ·exact h.old
 ·intro c hc hm
  have : c ≠ b := fun e => hm (e ▸ o.m)
  have h1 : (V.set b x).H.get c = V.H.get c := by simp [Vw.set, AH.upd, this]
  rw [h1]
  exact h.keep c hc hm
theorem St.own {M : Nat → Prop} {V V' : Vw} {b : Nat} {x y : AObj} (n : St V b V' x) (o : Own M V b y) : Own M V' b x := by
 obtain ⟨rfl⟩ := n
 exact ⟨o.m, o.lo, o.lt, o.nf, by simp [Vw.set, AH.upd]⟩
theorem Own.st {M : Nat → Prop} {V V' : Vw} {b c : Nat} {x y : AObj} (o : Own M V c y) (n : St V b V' x) (hne : c ≠ b) : Own M V' c y := by
 obtain ⟨rfl⟩ := n
 exact ⟨o.m, o.lo, o.lt, o.nf, by simp [Vw.set, AH.upd, hne, o.get]⟩
def Vw.app (V : Vw) (b : Option Nat) (x : AObj) : Vw := ⟨V.F, (match b with | some b => V.H.upd b none | none => V.H).new x, fun c hc => by cases b <;> exact Nat.lt_of_lt_of_le (V.wf c hc) (Nat.le_succ _), by cases b <;> exact Nat.le_trans V.lon (Nat.le_succ _)⟩
structure Ap (V : Vw) (b : Option Nat) (b' : Nat) (V' : Vw) (x : AObj) : Prop where
 eq : b' = V.H.next
 view : V' = V.app b x
structure OwnO (M : Nat → Prop) (V : Vw) (b : Nat) : Prop where
 m : M b
 lo : V.H.lo ≤ b
 lt : b < V.H.next
 nf : ¬ V.F b
theorem Own.o {M : Nat → Prop} {V : Vw} {b : Nat} {x : AObj} (o : Own M V b x) : OwnO M V b := ⟨o.m, o.lo, o.lt, o.nf⟩
theorem Ap.get {V V' : Vw} {b : Option Nat} {b' c : Nat} {x : AObj} (n : Ap V b b' V' x) (hc : c < V.H.next) (hne : b ≠ some c) : V'.H.get c = V.H.get c := by
 obtain ⟨rfl, rfl⟩ := n
 cases b with
 | none => simp [Vw.app, AH.new, Nat.ne_of_lt hc]
 | some b =>
  have : c ≠ b := fun e => hne (by rw [e])
  simp [Vw.app, AH.new, AH.upd, Nat.ne_of_lt hc, this]
theorem Ap.next {V V' : Vw} {b : Option Nat} {b' : Nat} {x : AObj} (n : Ap V b b' V' x) : V'.H.next = V.H.next + 1 ∧ V'.H.lo = V.H.lo ∧ V'.F = V.F := by
 obtain ⟨rfl, rfl⟩ := n
 cases b <;> exact ⟨rfl, rfl, rfl⟩
theorem Ap.le {M : Nat → Prop} {V V' : Vw} {b : Option Nat} {b' : Nat} {x : AObj} (n : Ap V b b' V' x) (o : ∀ c, b = some c → OwnO M V c) : V.le V' := by
 obtain ⟨h1, h2, h3⟩ := n.next
 exact ⟨by omega, h2, fun c hc => by rw [h3]; exact hc, fun c hc => n.get (V.wf c hc) (fun e => (o c e).nf hc)⟩
theorem Nx.ap {M : Nat → Prop} {V0 V V' : Vw} {b : Option Nat} {b' : Nat} {x : AObj} (h : Nx M V0 V) (n : Ap V b b' V' x) (o : ∀ c, b = some c → OwnO M V c) : Nx M V0 V' := by
 obtain ⟨h1, h2, h3⟩ := n.next
 exact ⟨h.le.trans (n.le o), fun c hc hf => h.old c hc (by rw [← h3]; exact hf), fun c hc hm => (n.get (Nat.lt_of_lt_of_le hc h.le.next) (fun e => hm (o c e).m)).trans (h.keep c hc hm), h.new⟩
theorem Ap.own {M : Nat → Prop} {V0 V V' : Vw} {b : Option Nat} {b' : Nat} {x : AObj} (n : Ap V b b' V' x) (h : Nx M V0 V) : Own M V' b' x := by
 obtain ⟨h1, h2, h3⟩ := n.next
 refine ⟨h.new _ (by rw [n.eq]; exact h.le.next), by rw [h2, n.eq]; exact V.lon, by rw [h1, n.eq]; omega, fun hf => ?_, ?_⟩
 ·rw [h3] at hf
  have := V.wf _ hf
  have := n.eq
  omega
 ·obtain ⟨rfl, rfl⟩ := n
  cases b <;> simp [Vw.app, AH.new, AH.upd]
theorem Own.ap {M : Nat → Prop} {V V' : Vw} {b : Option Nat} {b' c : Nat} {x y : AObj} (o : Own M V c y) (n : Ap V b b' V' x) (hne : b ≠ some c) : Own M V' c y := by
 obtain ⟨h1, h2, h3⟩ := n.next
 exact ⟨o.m, by rw [h2]; exact o.lo, by have := o.lt; omega, by rw [h3]; exact o.nf, (n.get o.lt hne).trans o.get⟩
theorem Own.neAp {M : Nat → Prop} {V V' : Vw} {b : Option Nat} {b' c : Nat} {x y : AObj} (o : Own M V c y) (n : Ap V b b' V' x) : c ≠ b' := by
 have := n.eq
 have := o.lt
 omega
def Vw.fz (V : Vw) (b : Option Nat) (h : ∀ c, b = some c → c < V.H.next) : Vw := ⟨fun c => V.F c ∨ b = some c, V.H, fun c hc => hc.elim (V.wf c) (h c), V.lon⟩
theorem Vw.fz_le (V : Vw) (b : Option Nat) (h : ∀ c, b = some c → c < V.H.next) : V.le (V.fz b h) := ⟨Nat.le_refl _, rfl, fun _ h => .inl h, fun _ _ => rfl⟩
theorem Nx.fz {M : Nat → Prop} {V0 V : Vw} (n : Nx M V0 V) (b : Option Nat) (h : ∀ c, b = some c → c < V.H.next) (hg : ∀ c, b = some c → V0.H.next ≤ c) : Nx M V0 (V.fz b h) :=
 ⟨n.le.trans (V.fz_le b h), fun c hc hf => by
  rcases hf with hf | hf
  ·exact n.old c hc hf
  ·have := hg c hf; omega, n.keep, n.new⟩
theorem Own.fz {M : Nat → Prop} {V : Vw} {c : Nat} {y : AObj} (o : Own M V c y) (b : Option Nat) (h : ∀ c, b = some c → c < V.H.next) (hne : b ≠ some c) : Own M (V.fz b h) c y :=
 ⟨o.m, o.lo, o.lt, fun hf => hf.elim o.nf hne, o.get⟩
def Cc (P : Program) (G : Nat) (g : FuncId) (args : Array Value) (V : Vw) (X : Nat → Prop) (Post : Value → Vw → Prop) : Prop :=
 ∃ v V', Cl P G g args V.H v V'.H ∧ Nx (fun b => V.H.next ≤ b ∨ X b) V V' ∧ Post v V'
theorem Nx.call {M X : Nat → Prop} {V0 V V' : Vw} (h : Nx M V0 V) (n : Nx (fun b => V.H.next ≤ b ∨ X b) V V') (hX : ∀ b, X b → M b) : Nx M V0 V' :=
 ⟨h.le.trans n.le, fun c hc hf => h.old c hc (n.old c (Nat.lt_of_lt_of_le hc h.le.next) hf), fun c hc hm => (n.keep c (Nat.lt_of_lt_of_le hc h.le.next) (fun e => by
  rcases e with e | e
  ·have := h.le.next; omega
  ·exact hm (hX c e))).trans (h.keep c hc hm), h.new⟩
theorem Own.call {M X : Nat → Prop} {V V' : Vw} {c : Nat} {y : AObj} (o : Own M V c y) (n : Nx (fun b => V.H.next ≤ b ∨ X b) V V') (hX : ¬ X c) : Own M V' c y :=
 ⟨o.m, by rw [n.le.lo]; exact o.lo, Nat.lt_of_lt_of_le o.lt n.le.next, fun hf => o.nf (n.old c o.lt hf), (n.keep c o.lt (fun e => by
  rcases e with e | e
  ·have := o.lt; omega
  ·exact hX e)).trans o.get⟩
theorem Own.given {M X : Nat → Prop} {V0 V V' : Vw} {c : Nat} {y : AObj} (o : Own (fun b => V.H.next ≤ b ∨ X b) V' c y) (h : Nx M V0 V) (hX : ∀ b, X b → M b) : Own M V' c y :=
 ⟨o.m.elim (fun e => h.new c (Nat.le_trans h.le.next e)) (hX c), o.lo, o.lt, o.nf, o.get⟩
structure Ty {α : Type} (sz : Nat) (RE : Vw → List Value → α → Prop) : Prop where
 len : ∀ V cs x, RE V cs x → cs.length = sz
 one : ∀ V cs x, RE V cs x → cs.all One = true
 up : ∀ V V' cs x, V.le V' → RE V cs x → RE V' cs x
def Sl {α : Type} (sz : Nat) (RE : Vw → List Value → α → Prop) (V : Vw) (v : Value) (xs : List α) : Prop :=
 (v = .slice none 0 0 ∧ xs = []) ∨ ∃ b o c, v = .slice (some ⟨b, o, none⟩) xs.length c ∧ (V.F b ∧ xs.length ≤ 9223372036854775807) ∧ ∀ (i : Nat) (x : α), xs[i]? = some x → ∃ cs : List Value, cs.length = sz ∧ RE V cs x ∧ ∀ (j : Nat) (u : Value), cs[j]? = some u → V.H.cell b (o + i * sz + j) = some u
section
variable {α : Type} {sz : Nat} {RE : Vw → List Value → α → Prop} {V V' : Vw} {v : Value} {xs : List α}
theorem Sl.up (hm : Ty sz RE) (h : Sl sz RE V v xs) (he : V.le V') : Sl sz RE V' v xs := by
 rcases h with h | ⟨b, o, c, h1, h2, h3⟩
 ·exact .inl h
 ·refine .inr ⟨b, o, c, h1, ⟨he.sub b h2.1, h2.2⟩, fun i x hx => ?_⟩
  obtain ⟨cs, h4, h5, h6⟩ := h3 i x hx
  exact ⟨cs, h4, hm.up _ _ _ _ he h5, fun j u hj => (cell_congr (he.get b h2.1)).trans (h6 j u hj)⟩
theorem Sl.len {P : Program} {C : CallRel} {o : Oper} {t : T} {H1 : AH} (h : Sl sz RE V v xs) {x : Operand} {ty e : TypeId}
  (ho : o.op = .call { callee := .builtin .len, args := #[x], argTypes := #[ty] }) (hx : aev t x = v) (hu : P.underlying ty = some (.slice e)) : Step P C o t H1 .pure (.int .i64 xs.length) H1 := by
 rcases h with ⟨h1, h2⟩ | ⟨b, o', c, h1, _⟩
 ·subst h1 h2
  exact S.lenNil ho hx hu
 ·subst h1
  exact S.len ho hx hu
theorem Sl.le (h : Sl sz RE V v xs) : xs.length ≤ 9223372036854775807 := by
 rcases h with ⟨_, h2⟩ | ⟨b, o', c, _, h, _⟩
 ·subst h2; exact Nat.zero_le _
 ·exact h.2
theorem Sl.one (h : Sl sz RE V v xs) : One v = true := by
 rcases h with ⟨h1, _⟩ | ⟨b, o', c, h1, _⟩ <;> subst h1 <;> rfl
theorem Sl.ne (h : Sl sz RE V v xs) : v ≠ topV := by
 rcases h with ⟨h1, _⟩ | ⟨b, o', c, h1, _⟩ <;> subst h1 <;> simp [topV]
theorem Sl.cells (h : Sl sz RE V v xs) : v.cells = #[v] := by
 rcases h with ⟨h1, _⟩ | ⟨b, o', c, h1, _⟩ <;> subst h1 <;> rfl
theorem Sl.nil : Sl sz RE V (.slice none 0 0) [] := .inl ⟨rfl, rfl⟩
theorem Sl.at (h : Sl sz RE V v xs) {i : Nat} {x : α} (hx : xs[i]? = some x) :
  ∃ b o c cs, v = .slice (some ⟨b, o, none⟩) xs.length c ∧ V.F b ∧ cs.length = sz ∧ RE V cs x ∧ ∀ (j : Nat) (u : Value), cs[j]? = some u → V.H.cell b (o + i * sz + j) = some u := by
 rcases h with ⟨h1, h2⟩ | ⟨b, o', c, h1, hb, h2⟩
 ·subst h2; simp at hx
 ·obtain ⟨cs, h3, h4, h5⟩ := h2 i x hx
  exact ⟨b, o', c, cs, h1, hb.1, h3, h4, h5⟩
end
inductive Rows {α : Type} (RE : Vw → List Value → α → Prop) (V : Vw) : List Value → List α → Prop
 | nil : Rows RE V [] []
 | cons (r cs : List Value) (x : α) (xs : List α) (h : RE V r x) (h' : Rows RE V cs xs) : Rows RE V (r ++ cs) (x :: xs)
section
variable {α : Type} {sz : Nat} {RE : Vw → List Value → α → Prop} {V V' : Vw} {v : Value} {xs ys : List α} {cs ds : List Value}
theorem Rows.append (h : Rows RE V cs xs) (h' : Rows RE V ds ys) : Rows RE V (cs ++ ds) (xs ++ ys) := by
 induction h with
 | nil => exact h'
 | cons r cs x xs h _ ih => rw [List.append_assoc]; exact .cons r _ x _ h ih
theorem Rows.len (hm : Ty sz RE) (h : Rows RE V cs xs) : cs.length = xs.length * sz := by
 induction h with
 | nil => simp
 | cons r cs x xs h _ ih => rw [List.length_append, ih, hm.len _ _ _ h, List.length_cons, Nat.add_mul]; omega
theorem Rows.one (hm : Ty sz RE) (h : Rows RE V cs xs) : cs.all One = true := by
 induction h with
 | nil => rfl
 | cons r cs x xs h _ ih => rw [List.all_append, hm.one _ _ _ h, ih]; rfl
theorem Rows.up (hm : Ty sz RE) (h : Rows RE V cs xs) (he : V.le V') : Rows RE V' cs xs := by
 induction h with
 | nil => exact .nil
 | cons r cs x xs h _ ih => exact .cons r cs x xs (hm.up _ _ _ _ he h) ih
theorem Rows.at (hm : Ty sz RE) (h : Rows RE V cs xs) : ∀ {i : Nat} {x : α}, xs[i]? = some x → ∃ r, RE V r x ∧ ∀ (j : Nat) (u : Value), r[j]? = some u → cs[i * sz + j]? = some u := by
 induction h with
 | nil => intro i x h; simp at h
 | cons r cs y ys h _ ih =>
  intro i x hx
  cases i with
  | zero =>
   simp at hx
   subst hx
   refine ⟨r, h, fun j u hj => ?_⟩
   rw [Nat.zero_mul, Nat.zero_add, List.getElem?_append_left (List.getElem?_eq_some_iff.1 hj).1]
   exact hj
  | succ i =>
   obtain ⟨q, h1, h2⟩ := ih (i := i) (by simpa using hx)
   refine ⟨q, h1, fun j u hj => ?_⟩
   have hl := hm.len _ _ _ h
   rw [List.getElem?_append_right (by rw [hl, Nat.add_mul]; omega), hl]
   rw [show (i + 1) * sz + j - sz = i * sz + j by rw [Nat.add_mul]; omega]
   exact h2 j u hj
theorem Sl.rows (hm : Ty sz RE) {b o c : Nat} : ∀ (n : Nat) (xs : List α), xs.length = n → (∀ (i : Nat) (x : α), xs[i]? = some x → ∃ cs : List Value, cs.length = sz ∧ RE V cs x ∧ ∀ (j : Nat) (u : Value), cs[j]? = some u → V.H.cell b (o + i * sz + j) = some u) →
  ∃ vs, Rows RE V vs xs ∧ ∀ (j : Nat) (u : Value), vs[j]? = some u → V.H.cell b (o + j) = some u := by
 intro n
 induction n generalizing o with
 | zero => intro xs hl _; exact ⟨[], by rw [List.length_eq_zero_iff.1 hl]; exact .nil, fun j u h => by simp at h⟩
 | succ n ih =>
  intro xs hl h
  match xs, hl with
  | x :: xs, hl =>
   obtain ⟨cs, h1, h2, h3⟩ := h 0 x rfl
   obtain ⟨vs, h4, h5⟩ := ih (o := o + sz) xs (by simpa using hl) (fun i y hy => by
    obtain ⟨ds, h6, h7, h8⟩ := h (i + 1) y (by simpa using hy)
    exact ⟨ds, h6, h7, fun j u hj => by rw [← h8 j u hj, Nat.add_mul]; congr 1; omega⟩)
   refine ⟨cs ++ vs, .cons _ _ _ _ h2 h4, fun j u hj => ?_⟩
   by_cases hlt : j < cs.length
   ·rw [List.getElem?_append_left hlt] at hj
    have := h3 j u hj
    rwa [Nat.zero_mul, Nat.add_zero] at this
   ·rw [List.getElem?_append_right (by omega)] at hj
    have := h5 _ u hj
    rwa [h1, show o + sz + (j - sz) = o + j by omega] at this
theorem Sl.src (hm : Ty sz RE) (h : Sl sz RE V v xs) {P : Program} {t e : TypeId} (hu : P.underlying t = some (.slice e)) : ∃ vs, Src P V.H sz v t xs.length vs ∧ Rows RE V vs xs := by
 rcases h with ⟨h1, h2⟩ | ⟨b, o, c, h1, h2, h3⟩
 ·subst h1 h2
  exact ⟨[], .nil t e hu, .nil⟩
 ·subst h1
  obtain ⟨vs, h4, h5⟩ := Sl.rows hm (b := b) (o := o) (c := c) _ xs rfl h3
  exact ⟨vs, .slice t e b o _ c vs hu (h4.len hm) h5, h4⟩
theorem Sl.mk (hm : Ty sz RE) {b c : Nat} (hf : V.F b) (hle : xs.length ≤ 9223372036854775807) {e : Nat} (hg : V.H.get b = some (.cells e cs)) (h : Rows RE V cs xs) : Sl sz RE V (.slice (some ⟨b, 0, none⟩) xs.length c) xs :=
 .inr ⟨b, 0, c, rfl, ⟨hf, hle⟩, fun i x hx => by
  obtain ⟨r, h1, h2⟩ := h.at hm hx
  exact ⟨r, hm.len _ _ _ h1, h1, fun j u hj => by rw [Nat.zero_add]; exact S.cellB hg (h2 j u hj)⟩⟩
end
def OSl {α : Type} (M : Nat → Prop) (sz : Nat) (RE : Vw → List Value → α → Prop) (V : Vw) (ob : Option Nat) (v : Value) (xs : List α) : Prop :=
 (ob = none ∧ v = .slice none 0 0 ∧ xs = []) ∨ ∃ b cs, ob = some b ∧ v = .slice (some ⟨b, 0, none⟩) xs.length sz ∧ Own M V b (.cells sz cs) ∧ Rows RE V cs xs ∧ xs.length ≤ 9223372036854775807
def RInt (_ : Vw) (cs : List Value) (x : Int) : Prop := cs = [.int .i64 x]
def RBool (_ : Vw) (cs : List Value) (x : Bool) : Prop := cs = [.bool x]
def RStr (_ : Vw) (cs : List Value) (x : ByteArray) : Prop := cs = [.string x]
theorem RInt.ty : Ty 1 RInt := ⟨fun _ _ _ h => by rw [h]; rfl, fun _ _ _ h => by rw [h]; rfl, fun _ _ _ _ _ h => h⟩
theorem RBool.ty : Ty 1 RBool := ⟨fun _ _ _ h => by rw [h]; rfl, fun _ _ _ h => by rw [h]; rfl, fun _ _ _ _ _ h => h⟩
theorem RStr.ty : Ty 1 RStr := ⟨fun _ _ _ h => by rw [h]; rfl, fun _ _ _ h => by rw [h]; rfl, fun _ _ _ _ _ h => h⟩
end Go.Vm
