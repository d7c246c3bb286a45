/-
  Part of an evaluator for the model, proved sound: no condition.
-/
import Derived.Test.YtlcjnalocidldaaDoorEVm13
import Derived.IntWalk
import Derived.Laws.Strings
import Derived.Tactics
set_option linter.unusedSimpArgs false
set_option linter.unusedVariables false
namespace Go.Vm
open Go
section
variable {P : Program} {C : CallRel} {o : Oper} {t : T} {H : AH} {l : List (Nat × Value)}
theorem L {i : Nat} {v : Value} (k : Nat) (h : l[k]? = some (i, v)) (h2 : (l.take k).all (fun p => !(p.1 == i)) = true) : aev (fr l) (.tmp i) = v := by
 show fr l i = v
 have hk := (List.getElem?_eq_some_iff.1 h).1
 have hl : l = l.take k ++ (i, v) :: l.drop (k + 1) := by
  rw [← (List.getElem?_eq_some_iff.1 h).2, List.getElem_cons_drop, List.take_append_drop]
 have hnone : (l.take k).find? (fun p => p.1 == i) = none := by
  rw [List.find?_eq_none]
  intro p hp
  have := List.all_eq_true.1 h2 p hp
  simpa using this
 unfold fr
 rw [hl, List.find?_append, hnone]
 simp
theorem K {v : Value} : aev t (.const v) = v := rfl
theorem Fu {f : FuncId} : aev t (.func f) = .func (.func f) #[] #[] := rfl
theorem Gl {g : Nat} : aev t (.global g) = .pointer (some ⟨g, 0, none⟩) := rfl
def tinfo (P : Program) (e : TypeId) (z : Value) (n m : Nat) : Prop := (P.info? e).map (fun i => (i.zero, i.size, i.bytes)) = some (some z, n, m)
theorem tinfo_get {e : TypeId} {z : Value} {n m : Nat} (h : tinfo P e z n m) : ∃ i, P.info? e = some i ∧ i.zero = some z ∧ i.size = n ∧ i.bytes = m := by
 unfold tinfo at h
 obtain ⟨i, h1, h2⟩ := Option.map_eq_some_iff.1 h
 simp at h2
 exact ⟨i, h1, h2⟩
namespace S
theorem move {x : Operand} {v : Value} (ho : o.op = .move x) (hx : aev t x = v) : Step P C o t H .pure v H := hx ▸ .p _ (.move x ho)
theorem assign {x : Operand} {v : Value} (ho : o.op = .assign x) (hx : aev t x = v) : Step P C o t H .pure v H := hx ▸ .p _ (.assign x ho)
theorem pickT {c x y : Operand} {v : Value} (ho : o.op = .pick c x y) (hc : aev t c = .bool true) (hx : aev t x = v) : Step P C o t H .pure v H := hx ▸ .p _ (.pick c x y true ho hc)
theorem pickF {c x y : Operand} {v : Value} (ho : o.op = .pick c x y) (hc : aev t c = .bool false) (hx : aev t y = v) : Step P C o t H .pure v H := hx ▸ .p _ (.pick c x y false ho hc)
theorem nilCheck {x : Operand} {a : Addr} (ho : o.op = .nilCheck x) (hx : aev t x = .pointer (some a)) : Step P C o t H .pure (.pointer (some a)) H := .p _ (.nilCheck x a ho hx)
theorem fieldAddr {s : TypeId} {x : Operand} {f b off : Nat} {fields : Array Field} {fd : Field} {z : Value} {n m : Nat} (ho : o.op = .fieldAddr s x f) (hx : aev t x = .pointer (some ⟨b, off, none⟩)) (hu : P.underlying s = some (.struct fields)) (hf : fields[f]? = some fd)
  (hi : tinfo P fd.type z n m) (hs : (n == 0) = false) {k : Nat} (hk : off + fd.offset = k) : Step P C o t H .pure (.pointer (some ⟨b, k, none⟩)) H := by
 obtain ⟨i, h1, h2, h3, h4⟩ := tinfo_get hi
 subst hk
 exact .p _ (.fieldAddr s x f b off fields fd i ho hx hu hf h1 (by rw [h3]; simpa using hs))
theorem index {ty : TypeId} {x ix : Operand} {b off n c : Nat} {k : IntKind} {j : Int} {e : TypeId} {z : Value} {sz m : Nat} (ho : o.op = .indexAddr ty x ix) (hx : aev t x = .slice (some ⟨b, off, none⟩) n c) (hix : aev t ix = .int k j)
  (hu : P.underlying ty = some (.slice e)) (hi : tinfo P e z sz m) (h0 : 0 ≤ j) (h1 : j < n) : Step P C o t H .pure (.pointer (some ⟨b, off + j.toNat * sz, none⟩)) H := by
 obtain ⟨i, h2, h3, h4, h5⟩ := tinfo_get hi
 rw [← h4]
 exact .p _ (.indexS ty x ix b off n c k j e i ho hx hix hu h2 h0 h1)
theorem indexA {ty : TypeId} {x ix : Operand} {b off n : Nat} {k : IntKind} {j : Int} {e : TypeId} {z : Value} {sz m : Nat} (ho : o.op = .indexAddr ty x ix) (hx : aev t x = .pointer (some ⟨b, off, none⟩)) (hix : aev t ix = .int k j)
  (hu : P.underlying ty = some (.array n e)) (hi : tinfo P e z sz m) (h0 : 0 ≤ j) (h1 : j < n) : Step P C o t H .pure (.pointer (some ⟨b, off + j.toNat * sz, none⟩)) H := by
 obtain ⟨i, h2, h3, h4, h5⟩ := tinfo_get hi
 rw [← h4]
 exact .p _ (.indexA ty x ix b off n k j e i ho hx hix hu h2 h0 h1)
theorem extract {x : Operand} {i : Nat} {vs : Array Value} {v : Value} (ho : o.op = .extract x i) (hx : aev t x = .tuple vs) (hv : vs[i]? = some v) (ht : 2 ≤ vs.size) : Step P C o t H .pure v H := .p _ (.extract x i vs v ho hx hv ht)
theorem makeFunc {fn : Fn} {us vs : Array Operand} (ho : o.op = .makeFunc fn us vs) : Step P C o t H .pure (.func fn (us.map (aev t)) (vs.map (aev t))) H := .p _ (.makeFunc fn us vs ho)
theorem len {x : Operand} {ty e : TypeId} {b : Addr} {n c : Nat} (ho : o.op = .call { callee := .builtin .len, args := #[x], argTypes := #[ty] }) (hx : aev t x = .slice (some b) n c) (hu : P.underlying ty = some (.slice e)) : Step P C o t H .pure (.int .i64 n) H := .p _ (.lenS x ty e b n c ho hu hx)
theorem nilS {op : BinOp} {ty u e : TypeId} {x y : Operand} {b : Addr} {n c : Nat} (ho : o.op = .binOp op ty x y u) (hop : op = .eql ∨ op = .neq) (hx : aev t x = .slice (some b) n c) (hy : aev t y = .slice none 0 0) (hu : P.underlying ty = some (.slice e)) : Step P C o t H .pure (.bool (op == .neq)) H :=
 .p _ (.nilS op ty u e x y b n c ho hop hu (.inl ⟨hx, hy⟩))
theorem nilP {op : BinOp} {ty u e : TypeId} {x y : Operand} {b : Addr} (ho : o.op = .binOp op ty x y u) (hop : op = .eql ∨ op = .neq) (hx : aev t x = .pointer (some b)) (hy : aev t y = .pointer none) (hu : P.underlying ty = some (.pointer e)) : Step P C o t H .pure (.bool (op == .neq)) H :=
 .p _ (.nilP op ty u e x y b ho hop hu (.inl ⟨hx, hy⟩))
theorem flat2 {op : BinOp} {ty u : TypeId} {x y : Operand} {v a b : Value} (ho : o.op = .binOp op ty x y u) (hx : aev t x = a) (hy : aev t y = b) (ha : Flat a) (hb : Flat b) (hv : Flat v)
  (hr : ∀ w, (binOp op ty a b).run P w = .ok v w) (hg : ∀ w, (eqGuard op ty x y a b).run P w = .ok () w) : Step P C o t H .pure v H := by
 refine .p _ (.flat v (fun z hz => ?_) (fun cs b => by rw [ho]; simp) hv (fun w => ?_))
 ·rw [ho] at hz
  simp [Op.operands] at hz
  rcases hz with rfl | rfl
  ·rw [hx]; exact ha
  ·rw [hy]; exact hb
 ·simp only [execOp, ho, hx, hy, Sem.run_bind, hg, Result.andThen_ok, hr, Sem.run_pure]
theorem guard_int {op : BinOp} {ty : TypeId} {x y : Operand} {k k' : IntKind} {a b : Int} (w : World) : (eqGuard op ty x y (.int k a) (.int k' b)).run P w = .ok () w := by cases op <;> rfl
theorem guard_bool {op : BinOp} {ty : TypeId} {x y : Operand} {a b : Bool} (w : World) : (eqGuard op ty x y (.bool a) (.bool b)).run P w = .ok () w := by cases op <;> rfl
variable {ty u : TypeId} {x y : Operand} {k : IntKind} {a b : Int}
theorem lss (ho : o.op = .binOp .lss ty x y u) (hx : aev t x = .int k a) (hy : aev t y = .int k b) : Step P C o t H .pure (.bool (decide (a < b))) H :=
 flat2 ho hx hy (.atom _ (.int _ _)) (.atom _ (.int _ _)) (.atom _ (.bool _)) (fun w => by simp [binOp, Op.intCmp]) guard_int
theorem leq (ho : o.op = .binOp .leq ty x y u) (hx : aev t x = .int k a) (hy : aev t y = .int k b) : Step P C o t H .pure (.bool (decide (a ≤ b))) H :=
 flat2 ho hx hy (.atom _ (.int _ _)) (.atom _ (.int _ _)) (.atom _ (.bool _)) (fun w => by simp [binOp, Op.intCmp]) guard_int
theorem gtr (ho : o.op = .binOp .gtr ty x y u) (hx : aev t x = .int k a) (hy : aev t y = .int k b) : Step P C o t H .pure (.bool (decide (b < a))) H :=
 flat2 ho hx hy (.atom _ (.int _ _)) (.atom _ (.int _ _)) (.atom _ (.bool _)) (fun w => by simp [binOp, Op.intCmp]) guard_int
theorem geq (ho : o.op = .binOp .geq ty x y u) (hx : aev t x = .int k a) (hy : aev t y = .int k b) : Step P C o t H .pure (.bool (decide (b ≤ a))) H :=
 flat2 ho hx hy (.atom _ (.int _ _)) (.atom _ (.int _ _)) (.atom _ (.bool _)) (fun w => by simp [binOp, Op.intCmp]) guard_int
theorem eqlI (ho : o.op = .binOp .eql ty x y u) (hx : aev t x = .int k a) (hy : aev t y = .int k b) : Step P C o t H .pure (.bool (decide (a = b))) H :=
 flat2 ho hx hy (.atom _ (.int _ _)) (.atom _ (.int _ _)) (.atom _ (.bool _)) (fun w => by simp [binOp, Op.intCmp]; rw [Bool.eq_iff_iff]; simp) guard_int
theorem neqI (ho : o.op = .binOp .neq ty x y u) (hx : aev t x = .int k a) (hy : aev t y = .int k b) : Step P C o t H .pure (.bool (decide (a ≠ b))) H :=
 flat2 ho hx hy (.atom _ (.int _ _)) (.atom _ (.int _ _)) (.atom _ (.bool _)) (fun w => by simp [binOp, Op.intCmp]; try rfl) guard_int
theorem add (ho : o.op = .binOp .add ty x y u) (hx : aev t x = .int k a) (hy : aev t y = .int k b) : Step P C o t H .pure (.int k (k.wrap (a + b))) H :=
 flat2 ho hx hy (.atom _ (.int _ _)) (.atom _ (.int _ _)) (.atom _ (.int _ _)) (fun w => by simp [binOp, Op.intArith]) guard_int
theorem sub (ho : o.op = .binOp .sub ty x y u) (hx : aev t x = .int k a) (hy : aev t y = .int k b) : Step P C o t H .pure (.int k (k.wrap (a - b))) H :=
 flat2 ho hx hy (.atom _ (.int _ _)) (.atom _ (.int _ _)) (.atom _ (.int _ _)) (fun w => by simp [binOp, Op.intArith]) guard_int
theorem mul (ho : o.op = .binOp .mul ty x y u) (hx : aev t x = .int k a) (hy : aev t y = .int k b) : Step P C o t H .pure (.int k (k.wrap (a * b))) H :=
 flat2 ho hx hy (.atom _ (.int _ _)) (.atom _ (.int _ _)) (.atom _ (.int _ _)) (fun w => by simp [binOp, Op.intArith]) guard_int
theorem i64_ok {z : Int} (h1 : -9223372036854775808 ≤ z) (h2 : z ≤ 9223372036854775807) : IntKind.i64.wrap z = z := by
 unfold IntKind.wrap
 simp [IntKind.signed, IntKind.bits]
 omega
theorem eqIn_bool {a b : Bool} (hu : P.underlying ty = some .bool) (d : Nat) (w : World) : (Op.equalIn (d + 1) ty (.bool a) (.bool b)).run P w = .ok (a == b) w := by
 simp [Op.equalIn, run_und hu]
theorem eqlB {a b : Bool} (ho : o.op = .binOp .eql ty x y u) (hx : aev t x = .bool a) (hy : aev t y = .bool b) (hu : P.underlying ty = some .bool) : Step P C o t H .pure (.bool (a == b)) H :=
 flat2 ho hx hy (.atom _ (.bool _)) (.atom _ (.bool _)) (.atom _ (.bool _)) (fun w => by simp only [binOp]; simp [Op.equal, Op.maxDepth, eqIn_bool hu 9999]) guard_bool
theorem neqB {a b : Bool} (ho : o.op = .binOp .neq ty x y u) (hx : aev t x = .bool a) (hy : aev t y = .bool b) (hu : P.underlying ty = some .bool) : Step P C o t H .pure (.bool (!(a == b))) H :=
 flat2 ho hx hy (.atom _ (.bool _)) (.atom _ (.bool _)) (.atom _ (.bool _)) (fun w => by simp only [binOp]; simp [Op.equal, Op.maxDepth, eqIn_bool hu 9999]) guard_bool
theorem not {a : Bool} (ho : o.op = .unOp .not ty x) (hx : aev t x = .bool a) : Step P C o t H .pure (.bool (!a)) H := by
 refine .p _ (.flat _ (fun z hz => ?_) (fun cs b => by rw [ho]; simp) (.atom _ (.bool _)) (fun w => ?_))
 ·rw [ho] at hz
  simp [Op.operands] at hz
  rw [hz, hx]; exact .atom _ (.bool _)
 ·simp [execOp, ho, hx, Op.unary]
theorem lenNil (ho : o.op = .call { callee := .builtin .len, args := #[x], argTypes := #[ty] }) (hx : aev t x = .slice none 0 0) {e : TypeId} (hu : P.underlying ty = some (.slice e)) : Step P C o t H .pure (.int .i64 0) H := by
 refine .p _ (.flat _ (fun z hz => ?_) (fun cs b => by rw [ho]; simp) (.atom _ (.int _ _)) (fun w => ?_))
 ·rw [ho] at hz
  simp [Op.operands, Call.operands] at hz
  rw [hz, hx]; exact .atom _ .nilSlice
 ·simp [execOp, ho, hx, resolve, invoke, builtin, Builtin.len_, run_und hu, goInt]
theorem load {ty : TypeId} {x : Operand} {b off : Nat} {d : TypeDesc} {v : Value} (ho : o.op = .load ty x) (hx : aev t x = .pointer (some ⟨b, off, none⟩)) (hu : P.underlying ty = some d) (ha : isAggD d = false) (hc : H.cell b off = some v) : Step P C o t H (.read b) v H := .l b v (.load1 ty x b off d v ho hx hu ha hc)
theorem loadN {ty : TypeId} {x : Operand} {b off : Nat} {d : TypeDesc} {cs : List Value} {z : Value} {n m : Nat} (ho : o.op = .load ty x) (hx : aev t x = .pointer (some ⟨b, off, none⟩)) (hu : P.underlying ty = some d) (ha : isAggD d = true) (hi : tinfo P ty z n m) (hl : cs.length = n)
  (hc : ∀ (j : Nat) (v : Value), cs[j]? = some v → H.cell b (off + j) = some v) : Step P C o t H (.read b) (.agg cs.toArray) H := by
 obtain ⟨i, h1, h2, h3, h4⟩ := tinfo_get hi
 exact .l b _ (.loadN ty x b off d cs i ho hx hu ha h1 (by omega) hc)
theorem loadB {ty : TypeId} {x : Operand} {b e : Nat} {d : TypeDesc} {cs : List Value} {z : Value} {n m : Nat} (ho : o.op = .load ty x) (hx : aev t x = .pointer (some ⟨b, 0, none⟩)) (hu : P.underlying ty = some d) (ha : isAggD d = true) (hi : tinfo P ty z n m) (hg : H.get b = some (.cells e cs)) (hl : cs.length = n) :
  Step P C o t H (.read b) (.agg cs.toArray) H := loadN ho hx hu ha hi hl (fun j v hj => by rw [Nat.zero_add]; unfold AH.cell; rw [hg]; exact hj)
theorem cellB {b e o : Nat} {cs : List Value} {v : Value} (hg : H.get b = some (.cells e cs)) (h : cs[o]? = some v) : H.cell b o = some v := by unfold AH.cell; rw [hg]; exact h
theorem box {e : TypeId} {x : Operand} {v : Value} {cs : List Value} (ho : o.op = .box e x) (hx : aev t x = v) (hv : v ≠ topV) (hc : v.cells.toList = cs) : Step P C o t H (.alloc H.next) (.pointer (some ⟨H.next, 0, none⟩)) (H.new (.cells 0 cs)) := by
 have := Step.a (P := P) (C := C) (o := o) (t := t) (H := H) _ _ (.box e x ho (by rw [hx]; exact hv))
 rwa [hx, hc] at this
theorem alloc {e : TypeId} {z : Value} {n m : Nat} {cs : List Value} (ho : o.op = .alloc e) (hi : tinfo P e z n m) (hz : constB z = true) (hc : z.cells.toList = cs) : Step P C o t H (.alloc H.next) (.pointer (some ⟨H.next, 0, none⟩)) (H.new (.cells n cs)) := by
 obtain ⟨i, h1, h2, h3, h4⟩ := tinfo_get hi
 have := Step.a (P := P) (C := C) (o := o) (t := t) (H := H) _ _ (.alloc e i z ho h1 h2 hz)
 rwa [h3, hc] at this
theorem makeMap {ty : TypeId} (ho : o.op = .makeMap ty none) : Step P C o t H (.alloc H.next) (.map (some H.next)) (H.new (.amap [])) := .a _ _ (.makeMap ty ho)
theorem makeSlice {ty : TypeId} {x y : Operand} {k k' : IntKind} {e : TypeId} {z : Value} {n m q : Nat} (ho : o.op = .makeSlice ty x y) (hx : aev t x = .int k q) (hy : aev t y = .int k' q) (hu : P.underlying ty = some (.slice e)) (hi : tinfo P e z n m) (hz : constB z = true) (hs : z.cells.size = n) (hn : (n == 0) = false)
  (hb : q < 2 ^ 40) (hb2 : q * m ≤ 2 ^ 46) : Step P C o t H (.alloc H.next) (.slice (some ⟨H.next, 0, none⟩) q n) (H.new (.cells n ((List.range (q * n)).map fun j => z.cells[j % z.cells.size]!))) := by
 obtain ⟨i, h1, h2, h3, h4⟩ := tinfo_get hi
 have := Step.a (P := P) (C := C) (o := o) (t := t) (H := H) _ _ (.makeSlice ty x k e i z q y k' ho hx hy hu h1 h2 hz (by omega) hb (by rw [h4]; exact hb2) (by rw [h3]; simpa using hn))
 rwa [h3] at this
theorem buildSlice {ty : TypeId} {len : Nat} {parts : Array (Nat × Operand)} {e : TypeId} {z : Value} {n m : Nat} {r : Array Value} {cs : List Value} (ho : o.op = .buildSlice ty len parts) (hu : P.underlying ty = some (.slice e)) (hi : tinfo P e z n m) (hz : constB z = true) (hs : z.cells.size = n) (hn : (n == 0) = false) (hlim : len * n ≤ 2 ^ 24)
  (ht : ∀ p ∈ parts.toList, aev t p.2 ≠ topV) (hr : Instr.fill (fun k => some (k * n, n)) ((Array.range (len * n)).map fun j => z.cells[j % z.cells.size]!) (parts.map fun (k, x) => (k, aev t x)).toList = some r) (hrs : r.size = len * n) (hc : r.toList = cs) :
  Step P C o t H (.alloc H.next) (.slice (some ⟨H.next, 0, none⟩) len n) (H.new (.cells n cs)) := by
 obtain ⟨i, h1, h2, h3, h4⟩ := tinfo_get hi
 subst h3 hc
 exact .a _ _ (.buildSlice ty len parts e i z r ho hu h1 h2 hz hs hlim (fun p hp => ht p (by simpa using hp)) hr hrs (by simpa using hn))
theorem store {ty : TypeId} {x y : Operand} {b off esz : Nat} {c cs : List Value} {v z : Value} {n m : Nat} (ho : o.op = .store ty x y) (hx : aev t x = .pointer (some ⟨b, off, none⟩)) (hy : aev t y = v) (hi : tinfo P ty z n m) (hg : H.get b = some (.cells esz c)) (hlo : H.lo ≤ b) (hv : v ≠ topV)
  (hcs : v.cells.toList = cs) (hs : cs.length = n) (hb : off + n ≤ c.length) (h1 : cs.all One = true) : Step P C o t H .eff undef (H.upd b (some (.cells esz (splice c off cs)))) := by
 obtain ⟨i, h2, h3, h4, h5⟩ := tinfo_get hi
 subst hcs
 have := Step.m (P := P) (C := C) (o := o) (t := t) (H := H) _ _ (.store ty x y b off esz c i ho hx hlo hg (by rw [hy]; exact hv) h2 (by rw [hy, h4]; simpa using hs) (by omega) (fun v hv => List.all_eq_true.1 h1 v (by rwa [hy] at hv)))
 rwa [hy] at this
theorem call {f : Operand} {xs : Array Operand} {ts : Array TypeId} {g : FuncId} {us vs args : Array Value} {v : Value} {H' : AH} (ho : o.op = .call { callee := .value f, args := xs, argTypes := ts }) (hf : aev t f = .func (.func g) us vs) (he : enterable P g) (ha : us ++ xs.map (aev t) ++ vs = args) (hc : C g args H v H') :
  Step P C o t H .eff v H' := .call f xs ts g us vs v H' ho hf he (ha ▸ hc)
end S
end
end Go.Vm
namespace Go.Vm
open Go
structure OwnH (H0 H : AH) (b : Nat) (x : AObj) : Prop where
 ge : H0.next ≤ b
 lt : b < H.next
 get : H.get b = some x
structure NwH (H : AH) (b : Nat) (H' : AH) (x : AObj) : Prop where
 eq : b = H.next
 heap : H' = H.new x
theorem NwH.own {H0 H H' : AH} {b : Nat} {x : AObj} (h : NwH H b H' x) (he : H0.next ≤ H.next) : OwnH H0 H' b x := by
 obtain ⟨rfl, rfl⟩ := h
 exact ⟨he, by simp [AH.new], by simp [AH.new]⟩
structure StH (H : AH) (b : Nat) (H' : AH) (x : AObj) : Prop where
 heap : H' = H.upd b (some x)
theorem StH.own {H0 H H' : AH} {b : Nat} {x y : AObj} (h : StH H b H' x) (ho : OwnH H0 H b y) : OwnH H0 H' b x := by
 obtain ⟨rfl⟩ := h
 exact ⟨ho.ge, ho.lt, by simp [AH.upd]⟩
structure ApH (H : AH) (b : Option Nat) (b' : Nat) (H' : AH) (x : AObj) : Prop where
 eq : b' = H.next
 heap : H' = (match b with | some b => H.upd b none | none => H).new x
theorem ApH.own {H0 H H' : AH} {b : Option Nat} {b' : Nat} {x : AObj} (h : ApH H b b' H' x) (he : H0.next ≤ H.next) : OwnH H0 H' b' x := by
 obtain ⟨rfl, rfl⟩ := h
 cases b <;> exact ⟨he, by simp [AH.new, AH.upd], by simp [AH.new, AH.upd]⟩
theorem WP.loopI {P : Program} {G N : Nat} {σ : Type} (F : σ → List (Nat × Value)) (I : σ → AH → Prop) (μ : σ → Nat) {c : Code} {Q : XQ}
  (round : ∀ s H, I s H → WP P G N c (sq (fun l H' => ∃ s', I s' H' ∧ μ s' < μ s ∧ ∀ p ∈ F s', fr l p.1 = p.2) Q) (F s) H) (s : σ) (H : AH) (h : I s H) (l : List (Nat × Value)) (hl : ∀ p ∈ F s, fr l p.1 = p.2) : WP P G N (.loop c) Q l H := by
 have key : ∀ (n : Nat) (s : σ) (H : AH), μ s = n → I s H → WP P G N (.loop c) Q (F s) H := by
  intro n
  induction n using Nat.strongRecOn with
  | _ n ih =>
   intro s H hn hI
   refine WP.loop ((round s H hI).mono (fun e l H' hq => ?_))
   cases e with
   | normal =>
    obtain ⟨s', h1, h2, h3⟩ := hq
    exact WP.weak (F s') h3 (ih (μ s') (hn ▸ h2) s' H' rfl h1)
   | exit id => exact hq
   | ret => exact hq
 exact WP.weak (F s) hl (key _ s H rfl h)
theorem allNil {l : List (Nat × Value)} : ∀ p ∈ ([] : List (Nat × Value)), fr l p.1 = p.2 := fun p h => by cases h
theorem allCons {l r : List (Nat × Value)} {i : Nat} {v : Value} (h : aev (fr l) (.tmp i) = v) (hr : ∀ p ∈ r, fr l p.1 = p.2) : ∀ p ∈ (i, v) :: r, fr l p.1 = p.2 := fun p hp => by
 cases hp with
 | head => exact h
 | tail _ hp => exact hr p hp
section
variable {P : Program} {G N : Nat} {ops : Array Oper} {i : Nat} {l : List (Nat × Value)} {H : AH} {Q : LQ} {o : Oper} {d : Tmp}
end
end Go.Vm
namespace Go.Vm
open Go
structure Vw where
 F : Nat → Prop
 H : AH
 wf : ∀ b, F b → b < H.next
 lon : H.lo ≤ H.next
structure Vw.le (V V' : Vw) : Prop where
 next : V.H.next ≤ V'.H.next
 lo : V'.H.lo = V.H.lo
 sub : ∀ b, V.F b → V'.F b
 get : ∀ b, V.F b → V'.H.get b = V.H.get b
theorem Vw.le.refl (V : Vw) : V.le V := ⟨Nat.le_refl _, rfl, fun _ h => h, fun _ _ => rfl⟩
theorem Vw.le.trans {A B D : Vw} (h : A.le B) (h' : B.le D) : A.le D := ⟨Nat.le_trans h.next h'.next, h'.lo.trans h.lo, fun b hb => h'.sub b (h.sub b hb), fun b hb => (h'.get b (h.sub b hb)).trans (h.get b hb)⟩
structure Nx (M : Nat → Prop) (V V' : Vw) : Prop where
 le : V.le V'
 old : ∀ b, b < V.H.next → V'.F b → V.F b
 keep : ∀ b, b < V.H.next → ¬ M b → V'.H.get b = V.H.get b
 new : ∀ b, V.H.next ≤ b → M b
structure Own (M : Nat → Prop) (V : Vw) (b : Nat) (x : AObj) : Prop where
 m : M b
 lo : V.H.lo ≤ b
 lt : b < V.H.next
 nf : ¬ V.F b
 get : V.H.get b = some x
theorem Own.cell {M : Nat → Prop} {V : Vw} {b e o : Nat} {c : List Value} {v : Value} (h : Own M V b (.cells e c)) (hv : c[o]? = some v) : V.H.cell b o = some v := S.cellB h.get hv
def Vw.new (V : Vw) (x : AObj) : Vw := ⟨V.F, V.H.new x, fun b hb => Nat.lt_of_lt_of_le (V.wf b hb) (Nat.le_succ _), Nat.le_trans V.lon (Nat.le_succ _)⟩
structure Nw (V : Vw) (b : Nat) (V' : Vw) (x : AObj) : Prop where
 eq : b = V.H.next
 view : V' = V.new x
theorem Nw.le {V V' : Vw} {b : Nat} {x : AObj} (h : Nw V b V' x) : V.le V' := by
 obtain ⟨rfl, rfl⟩ := h
 exact ⟨Nat.le_succ _, rfl, fun _ h => h, fun b hb => by have := V.wf b hb; simp [Vw.new, AH.new, Nat.ne_of_lt this]⟩
theorem Nw.own {M : Nat → Prop} {V0 V V' : Vw} {b : Nat} {x : AObj} (n : Nw V b V' x) (h : Nx M V0 V) : Own M V' b x := by
 obtain ⟨rfl, rfl⟩ := n
 exact ⟨h.new _ h.le.next, V.lon, Nat.lt_succ_self _, fun hf => by have := V.wf _ hf; omega, by simp [Vw.new, AH.new]⟩
def Vw.set (V : Vw) (b : Nat) (x : AObj) : Vw := ⟨V.F, V.H.upd b (some x), V.wf, V.lon⟩
structure St (V : Vw) (b : Nat) (V' : Vw) (x : AObj) : Prop where
 view : V' = V.set b x
theorem St.le {M : Nat → Prop} {V V' : Vw} {b : Nat} {x y : AObj} (h : St V b V' x) (o : Own M V b y) : V.le V' := by
 obtain ⟨rfl⟩ := h
 refine ⟨Nat.le_refl _, rfl, fun _ h => h, fun c hc => ?_⟩
 have : c ≠ b := fun e => o.nf (e ▸ hc)
 simp [Vw.set, AH.upd, this]
theorem St.own {M : Nat → Prop} {V V' : Vw} {b : Nat} {x y : AObj} (n : St V b V' x) (o : Own M V b y) : Own M V' b x := by
 obtain ⟨rfl⟩ := n
 exact ⟨o.m, o.lo, o.lt, o.nf, by simp [Vw.set, AH.upd]⟩
def Vw.app (V : Vw) (b : Option Nat) (x : AObj) : Vw := ⟨V.F, (match b with | some b => V.H.upd b none | none => V.H).new x, fun c hc => by cases b <;> exact Nat.lt_of_lt_of_le (V.wf c hc) (Nat.le_succ _), by cases b <;> exact Nat.le_trans V.lon (Nat.le_succ _)⟩
structure Ap (V : Vw) (b : Option Nat) (b' : Nat) (V' : Vw) (x : AObj) : Prop where
 eq : b' = V.H.next
 view : V' = V.app b x
structure OwnO (M : Nat → Prop) (V : Vw) (b : Nat) : Prop where
 m : M b
 lo : V.H.lo ≤ b
 lt : b < V.H.next
 nf : ¬ V.F b
theorem Own.o {M : Nat → Prop} {V : Vw} {b : Nat} {x : AObj} (o : Own M V b x) : OwnO M V b := ⟨o.m, o.lo, o.lt, o.nf⟩
theorem Ap.get {V V' : Vw} {b : Option Nat} {b' c : Nat} {x : AObj} (n : Ap V b b' V' x) (hc : c < V.H.next) (hne : b ≠ some c) : V'.H.get c = V.H.get c := by
 obtain ⟨rfl, rfl⟩ := n
 cases b with
 | none => simp [Vw.app, AH.new, Nat.ne_of_lt hc]
 | some b =>
  have : c ≠ b := fun e => hne (by rw [e])
  simp [Vw.app, AH.new, AH.upd, Nat.ne_of_lt hc, this]
theorem Ap.next {V V' : Vw} {b : Option Nat} {b' : Nat} {x : AObj} (n : Ap V b b' V' x) : V'.H.next = V.H.next + 1 ∧ V'.H.lo = V.H.lo ∧ V'.F = V.F := by
 obtain ⟨rfl, rfl⟩ := n
 cases b <;> exact ⟨rfl, rfl, rfl⟩
theorem Ap.le {M : Nat → Prop} {V V' : Vw} {b : Option Nat} {b' : Nat} {x : AObj} (n : Ap V b b' V' x) (o : ∀ c, b = some c → OwnO M V c) : V.le V' := by
 obtain ⟨h1, h2, h3⟩ := n.next
 exact ⟨by omega, h2, fun c hc => by rw [h3]; exact hc, fun c hc => n.get (V.wf c hc) (fun e => (o c e).nf hc)⟩
theorem Ap.own {M : Nat → Prop} {V0 V V' : Vw} {b : Option Nat} {b' : Nat} {x : AObj} (n : Ap V b b' V' x) (h : Nx M V0 V) : Own M V' b' x := by
 obtain ⟨h1, h2, h3⟩ := n.next
 refine ⟨h.new _ (by rw [n.eq]; exact h.le.next), by rw [h2, n.eq]; exact V.lon, by rw [h1, n.eq]; omega, fun hf => ?_, ?_⟩
 ·rw [h3] at hf
  have := V.wf _ hf
  have := n.eq
  omega
 ·obtain ⟨rfl, rfl⟩ := n
  cases b <;> simp [Vw.app, AH.new, AH.upd]
def Vw.fz (V : Vw) (b : Option Nat) (h : ∀ c, b = some c → c < V.H.next) : Vw := ⟨fun c => V.F c ∨ b = some c, V.H, fun c hc => hc.elim (V.wf c) (h c), V.lon⟩
theorem Vw.fz_le (V : Vw) (b : Option Nat) (h : ∀ c, b = some c → c < V.H.next) : V.le (V.fz b h) := ⟨Nat.le_refl _, rfl, fun _ h => .inl h, fun _ _ => rfl⟩
def Cc (P : Program) (G : Nat) (g : FuncId) (args : Array Value) (V : Vw) (X : Nat → Prop) (Post : Value → Vw → Prop) : Prop :=
 ∃ v V', Cl P G g args V.H v V'.H ∧ Nx (fun b => V.H.next ≤ b ∨ X b) V V' ∧ Post v V'
structure Ty {α : Type} (sz : Nat) (RE : Vw → List Value → α → Prop) : Prop where
 len : ∀ V cs x, RE V cs x → cs.length = sz
 one : ∀ V cs x, RE V cs x → cs.all One = true
 up : ∀ V V' cs x, V.le V' → RE V cs x → RE V' cs x
def Sl {α : Type} (sz : Nat) (RE : Vw → List Value → α → Prop) (V : Vw) (v : Value) (xs : List α) : Prop :=
 (v = .slice none 0 0 ∧ xs = []) ∨ ∃ b o c, v = .slice (some ⟨b, o, none⟩) xs.length c ∧ (V.F b ∧ xs.length ≤ 9223372036854775807) ∧ ∀ (i : Nat) (x : α), xs[i]? = some x → ∃ cs : List Value, cs.length = sz ∧ RE V cs x ∧ ∀ (j : Nat) (u : Value), cs[j]? = some u → V.H.cell b (o + i * sz + j) = some u
section
variable {α : Type} {sz : Nat} {RE : Vw → List Value → α → Prop} {V V' : Vw} {v : Value} {xs : List α}
theorem Sl.up (hm : Ty sz RE) (h : Sl sz RE V v xs) (he : V.le V') : Sl sz RE V' v xs := by
 rcases h with h | ⟨b, o, c, h1, h2, h3⟩
 ·exact .inl h
 ·refine .inr ⟨b, o, c, h1, ⟨he.sub b h2.1, h2.2⟩, fun i x hx => ?_⟩
  obtain ⟨cs, h4, h5, h6⟩ := h3 i x hx
  exact ⟨cs, h4, hm.up _ _ _ _ he h5, fun j u hj => (cell_congr (he.get b h2.1)).trans (h6 j u hj)⟩
theorem Sl.len {P : Program} {C : CallRel} {o : Oper} {t : T} {H1 : AH} (h : Sl sz RE V v xs) {x : Operand} {ty e : TypeId}
  (ho : o.op = .call { callee := .builtin .len, args := #[x], argTypes := #[ty] }) (hx : aev t x = v) (hu : P.underlying ty = some (.slice e)) : Step P C o t H1 .pure (.int .i64 xs.length) H1 := by
 rcases h with ⟨h1, h2⟩ | ⟨b, o', c, h1, _⟩
 ·subst h1 h2
  exact S.lenNil ho hx hu
 ·subst h1
  exact S.len ho hx hu
theorem Sl.one (h : Sl sz RE V v xs) : One v = true := by
 rcases h with ⟨h1, _⟩ | ⟨b, o', c, h1, _⟩ <;> subst h1 <;> rfl
theorem Sl.nil : Sl sz RE V (.slice none 0 0) [] := .inl ⟨rfl, rfl⟩
theorem Sl.at (h : Sl sz RE V v xs) {i : Nat} {x : α} (hx : xs[i]? = some x) :
  ∃ b o c cs, v = .slice (some ⟨b, o, none⟩) xs.length c ∧ V.F b ∧ cs.length = sz ∧ RE V cs x ∧ ∀ (j : Nat) (u : Value), cs[j]? = some u → V.H.cell b (o + i * sz + j) = some u := by
 rcases h with ⟨h1, h2⟩ | ⟨b, o', c, h1, hb, h2⟩
 ·subst h2; simp at hx
 ·obtain ⟨cs, h3, h4, h5⟩ := h2 i x hx
  exact ⟨b, o', c, cs, h1, hb.1, h3, h4, h5⟩
end
inductive Rows {α : Type} (RE : Vw → List Value → α → Prop) (V : Vw) : List Value → List α → Prop
 | nil : Rows RE V [] []
 | cons (r cs : List Value) (x : α) (xs : List α) (h : RE V r x) (h' : Rows RE V cs xs) : Rows RE V (r ++ cs) (x :: xs)
section
variable {α : Type} {sz : Nat} {RE : Vw → List Value → α → Prop} {V V' : Vw} {v : Value} {xs ys : List α} {cs ds : List Value}
theorem Rows.append (h : Rows RE V cs xs) (h' : Rows RE V ds ys) : Rows RE V (cs ++ ds) (xs ++ ys) := by
 induction h with
 | nil => exact h'
 | cons r cs x xs h _ ih => rw [List.append_assoc]; exact .cons r _ x _ h ih
theorem Rows.len (hm : Ty sz RE) (h : Rows RE V cs xs) : cs.length = xs.length * sz := by
 induction h with
 | nil => simp
 | cons r cs x xs h _ ih => rw [List.length_append, ih, hm.len _ _ _ h, List.length_cons, Nat.add_mul]; omega
theorem Rows.one (hm : Ty sz RE) (h : Rows RE V cs xs) : cs.all One = true := by
 induction h with
 | nil => rfl
 | cons r cs x xs h _ ih => rw [List.all_append, hm.one _ _ _ h, ih]; rfl
theorem Rows.up (hm : Ty sz RE) (h : Rows RE V cs xs) (he : V.le V') : Rows RE V' cs xs := by
 induction h with
 | nil => exact .nil
 | cons r cs x xs h _ ih => exact .cons r cs x xs (hm.up _ _ _ _ he h) ih
theorem Rows.at (hm : Ty sz RE) (h : Rows RE V cs xs) : ∀ {i : Nat} {x : α}, xs[i]? = some x → ∃ r, RE V r x ∧ ∀ (j : Nat) (u : Value), r[j]? = some u → cs[i * sz + j]? = some u := by
 induction h with
 | nil => intro i x h; simp at h
 | cons r cs y ys h _ ih =>
  intro i x hx
  cases i with
  | zero =>
   simp at hx
   subst hx
   refine ⟨r, h, fun j u hj => ?_⟩
   rw [Nat.zero_mul, Nat.zero_add, List.getElem?_append_left (List.getElem?_eq_some_iff.1 hj).1]
   exact hj
  | succ i =>
   obtain ⟨q, h1, h2⟩ := ih (i := i) (by simpa using hx)
   refine ⟨q, h1, fun j u hj => ?_⟩
   have hl := hm.len _ _ _ h
   rw [List.getElem?_append_right (by rw [hl, Nat.add_mul]; omega), hl]
   rw [show (i + 1) * sz + j - sz = i * sz + j by rw [Nat.add_mul]; omega]
   exact h2 j u hj
end
def OSl {α : Type} (M : Nat → Prop) (sz : Nat) (RE : Vw → List Value → α → Prop) (V : Vw) (ob : Option Nat) (v : Value) (xs : List α) : Prop :=
 (ob = none ∧ v = .slice none 0 0 ∧ xs = []) ∨ ∃ b cs, ob = some b ∧ v = .slice (some ⟨b, 0, none⟩) xs.length sz ∧ Own M V b (.cells sz cs) ∧ Rows RE V cs xs ∧ xs.length ≤ 9223372036854775807
def RInt (_ : Vw) (cs : List Value) (x : Int) : Prop := cs = [.int .i64 x]
def RBool (_ : Vw) (cs : List Value) (x : Bool) : Prop := cs = [.bool x]
def RStr (_ : Vw) (cs : List Value) (x : ByteArray) : Prop := cs = [.string x]
theorem RInt.ty : Ty 1 RInt := ⟨fun _ _ _ h => by rw [h]; rfl, fun _ _ _ h => by rw [h]; rfl, fun _ _ _ _ _ h => h⟩
theorem RBool.ty : Ty 1 RBool := ⟨fun _ _ _ h => by rw [h]; rfl, fun _ _ _ h => by rw [h]; rfl, fun _ _ _ _ _ h => h⟩
theorem RStr.ty : Ty 1 RStr := ⟨fun _ _ _ h => by rw [h]; rfl, fun _ _ _ h => by rw [h]; rfl, fun _ _ _ _ _ h => h⟩
end Go.Vm
