/-
  Part of an evaluator for the model, proved sound: no condition.
-/
import Derived.Test.YtlcjnalocidldaaDoorESp7
set_option linter.unusedSimpArgs false
set_option linter.unusedVariables false
namespace Go.Vm
open Go
def shlO (k : IntKind) (x y : Int) : Option Int := if 0 ≤ y then some (k.wrap (x * 2 ^ (min y.toNat k.bits))) else none
def shrO (k : IntKind) (x y : Int) : Option Int := if 0 ≤ y then some (x.fdiv (2 ^ (min y.toNat k.bits))) else none
def quoO (k : IntKind) (x y : Int) : Option Int := if y = 0 then none else some (k.wrap (x.tdiv y))
def remO (k : IntKind) (x y : Int) : Option Int := if y = 0 then none else some (x.tmod y)
def andB (k : IntKind) (x y : Int) : Int := k.wrap (BitVec.ofInt k.bits x &&& BitVec.ofInt k.bits y).toNat
def orB (k : IntKind) (x y : Int) : Int := k.wrap (BitVec.ofInt k.bits x ||| BitVec.ofInt k.bits y).toNat
def ixS (s : ByteArray) (i : Int) : Option Int := (if 0 ≤ i then s[i.toNat]? else none).map fun b => (b.toNat : Int)
namespace S
variable {P : Program} {C : CallRel} {o : Oper} {t : T} {H : AH} {ty u : TypeId} {x y : Operand} {k k' : IntKind} {a b c : Int}
theorem shl (hc : shlO k a b = some c) (ho : o.op = .binOp .shl ty x y u) (hx : aev t x = .int k a) (hy : aev t y = .int k' b) : Step P C o t H .pure (.int k c) H := by
 unfold shlO at hc
 split at hc
 ·rename_i h0
  cases hc
  exact flat2 ho hx hy (.atom _ (.int _ _)) (.atom _ (.int _ _)) (.atom _ (.int _ _)) (fun w => by simp [binOp, Op.shift]; intro h9; omega) guard_int
 ·cases hc
theorem shr (hc : shrO k a b = some c) (ho : o.op = .binOp .shr ty x y u) (hx : aev t x = .int k a) (hy : aev t y = .int k' b) : Step P C o t H .pure (.int k c) H := by
 unfold shrO at hc
 split at hc
 ·rename_i h0
  cases hc
  exact flat2 ho hx hy (.atom _ (.int _ _)) (.atom _ (.int _ _)) (.atom _ (.int _ _)) (fun w => by simp [binOp, Op.shift]; intro h9; omega) guard_int
 ·cases hc
theorem quo (hc : quoO k a b = some c) (ho : o.op = .binOp .quo ty x y u) (hx : aev t x = .int k a) (hy : aev t y = .int k b) : Step P C o t H .pure (.int k c) H := by
 unfold quoO at hc
 split at hc
 ·cases hc
 ·rename_i h0
  cases hc
  exact flat2 ho hx hy (.atom _ (.int _ _)) (.atom _ (.int _ _)) (.atom _ (.int _ _)) (fun w => by simp [binOp, Op.intDiv, h0]) guard_int
theorem rem (hc : remO k a b = some c) (ho : o.op = .binOp .rem ty x y u) (hx : aev t x = .int k a) (hy : aev t y = .int k b) : Step P C o t H .pure (.int k c) H := by
 unfold remO at hc
 split at hc
 ·cases hc
 ·rename_i h0
  cases hc
  exact flat2 ho hx hy (.atom _ (.int _ _)) (.atom _ (.int _ _)) (.atom _ (.int _ _)) (fun w => by simp [binOp, Op.intDiv, h0]) guard_int
theorem andI (ho : o.op = .binOp .and ty x y u) (hx : aev t x = .int k a) (hy : aev t y = .int k b) : Step P C o t H .pure (.int k (andB k a b)) H :=
 flat2 ho hx hy (.atom _ (.int _ _)) (.atom _ (.int _ _)) (.atom _ (.int _ _)) (fun w => by simp [binOp, Op.intBits, andB]) guard_int
theorem orI (ho : o.op = .binOp .or ty x y u) (hx : aev t x = .int k a) (hy : aev t y = .int k b) : Step P C o t H .pure (.int k (orB k a b)) H :=
 flat2 ho hx hy (.atom _ (.int _ _)) (.atom _ (.int _ _)) (.atom _ (.int _ _)) (fun w => by simp [binOp, Op.intBits, orB]) guard_int
theorem conv {s e : TypeId} (ho : o.op = .convert s e x) (hx : aev t x = .int k a) (hs : P.underlying s = some (.int k)) (he : P.underlying e = some (.int k')) : Step P C o t H .pure (.int k' (k'.wrap a)) H := by
 refine .p _ (.flat _ (fun z hz => ?_) (fun cs b => by rw [ho]; simp) (.atom _ (.int _ _)) (fun w => ?_))
 ·rw [ho] at hz
  simp [Op.operands] at hz
  rw [hz, hx]; exact .atom _ (.int _ _)
 ·simp [execOp, ho, hx, convert, run_und hs, run_und he, Conv.intToInt]
theorem indexS {s : ByteArray} (hc : ixS s b = some c) (ho : o.op = .index ty x y) (hx : aev t x = .string s) (hy : aev t y = .int k b) (hu : P.underlying ty = some .string) : Step P C o t H .pure (.int .u8 c) H := by
 unfold ixS at hc
 obtain ⟨q, hq, rfl⟩ := Option.map_eq_some_iff.1 hc
 refine .p _ (.flat _ (fun z hz => ?_) (fun cs b => by rw [ho]; simp) (.atom _ (.int _ _)) (fun w => ?_))
 ·rw [ho] at hz
  simp [Op.operands] at hz
  rcases hz with rfl | rfl
  ·rw [hx]; exact .atom _ (.string _)
  ·rw [hy]; exact .atom _ (.int _ _)
 ·simp [execOp, ho, hx, hy, Instr.index, asIntOf, run_und hu, hq]
end S
theorem flC {v : Value} {vs : List Value} (h : Atom v) (hs : ∀ u ∈ vs, Flat u) : ∀ u ∈ v :: vs, Flat u := by
 intro u hu
 rcases List.mem_cons.1 hu with rfl | hu
 ·exact .atom _ h
 ·exact hs u hu
theorem flN : ∀ u ∈ ([] : List Value), Flat u := fun u hu => by cases hu
theorem flA {vs : List Value} (h : ∀ u ∈ vs, Flat u) : Flat (.agg vs.toArray) := .agg _ (fun i h1 => h _ (by simp))
theorem part_cell {P : Program} {t : TypeId} {dd : TypeDesc} {cs : Array Value} {off : Nat} {v : Value} (hu : P.underlying t = some dd) (ha : isAggD dd = false) (hc : cs[off]? = some v) (w : World) : (part t cs off).run P w = .ok v w := by
 simp [part, run_isAgg hu, ha, hc]
theorem part_agg {P : Program} {t : TypeId} {dd : TypeDesc} {cs : Array Value} {off n m : Nat} {z : Value} (hu : P.underlying t = some dd) (ha : isAggD dd = true) (hi : tinfo P t z n m) (w : World) : (part t cs off).run P w = .ok (.agg (cs.extract off (off + n))) w := by
 obtain ⟨q, h1, h2, h3, h4⟩ := tinfo_get hi
 simp [part, run_isAgg hu, ha, run_siz h1, h3]
inductive EqFs (P : Program) (d : Nat) (xs ys : Array Value) : List Field → Bool → Prop
 | nil : EqFs P d xs ys [] true
 | cons (f : Field) (fs : List Field) (a b : Value) (e es : Bool) (hn : f.name ≠ "_") (h1 : ∀ w, (part f.type xs f.offset).run P w = .ok a w) (h2 : ∀ w, (part f.type ys f.offset).run P w = .ok b w) (h3 : ∀ w, (Op.equalIn d f.type a b).run P w = .ok e w) (h4 : EqFs P d xs ys fs es) : EqFs P d xs ys (f :: fs) (e && es)
theorem EqFs.for {P : Program} {d : Nat} {xs ys : Array Value} {fs : List Field} {b : Bool} (h : EqFs P d xs ys fs b) (w : World) :
  Sem.run P (forIn fs ((none, ()) : Option Bool × Unit) fun f __s => if f.name = "_" then pure (ForInStep.yield (none, ())) else do
   let a ← part f.type xs f.offset
   let b ← part f.type ys f.offset
   let e ← Op.equalIn d f.type a b
   if e = false then pure (ForInStep.done (some false, ())) else pure (ForInStep.yield (none, ()))) w = .ok (if b then (none, ()) else (some false, ())) w := by
 induction h with
 | nil => simp
 | cons f fs a b e es hn h1 h2 h3 h4 ih =>
  rw [List.forIn_cons]
  simp only [if_neg hn]
  simp only [Sem.run_bind, h1, Result.andThen_ok, h2, h3]
  cases e with
  | false => simp
  | true => simpa using ih
theorem eqIn_struct {P : Program} {t : TypeId} {fs : Array Field} {xs ys : Array Value} {d : Nat} {b : Bool} (hu : P.underlying t = some (.struct fs)) (hst : P.stoodInHeld t = false) (h : EqFs P d xs ys fs.toList b) (w : World) : (Op.equalIn (d + 1) t (.agg xs) (.agg ys)).run P w = .ok b w := by
 have := h.for w
 simp [Op.equalIn, run_und hu, hst]
 rw [← Array.forIn_toList]
 rw [this]
 cases b <;> simp
theorem eqIn_int {P : Program} {t : TypeId} {k k' : IntKind} {a b : Int} (hu : P.underlying t = some (.int k)) (d : Nat) (w : World) : (Op.equalIn (d + 1) t (.int k' a) (.int k' b)).run P w = .ok (decide (a = b)) w := by
 simp [Op.equalIn, run_und hu]
 rw [Bool.eq_iff_iff]; simp
theorem eqIn_b {P : Program} {t : TypeId} {a b : Bool} (hu : P.underlying t = some .bool) (d : Nat) (w : World) : (Op.equalIn (d + 1) t (.bool a) (.bool b)).run P w = .ok (a == b) w := by
 simp [Op.equalIn, run_und hu]
namespace S
variable {P : Program} {C : CallRel} {o : Oper} {t : T} {H : AH} {ty u : TypeId} {x y : Operand}
theorem eqlT {xs ys : Array Value} {fs : Array Field} {b : Bool} (hxs : Flat (.agg xs)) (hys : Flat (.agg ys)) (ho : o.op = .binOp .eql ty x y u) (hx : aev t x = .agg xs) (hy : aev t y = .agg ys) (hu : P.underlying ty = some (.struct fs)) (hst : P.stoodInHeld ty = false) (hg : P.eqGuardType P.depth ty = false) (h : EqFs P 9999 xs ys fs.toList b) : Step P C o t H .pure (.bool b) H :=
 flat2 ho hx hy hxs hys (.atom _ (.bool _)) (fun w => by simp [binOp, Op.equal, Op.maxDepth, eqIn_struct hu hst h]) (fun w => by simp [eqGuard, hg])
theorem neqT {xs ys : Array Value} {fs : Array Field} {b : Bool} (hxs : Flat (.agg xs)) (hys : Flat (.agg ys)) (ho : o.op = .binOp .neq ty x y u) (hx : aev t x = .agg xs) (hy : aev t y = .agg ys) (hu : P.underlying ty = some (.struct fs)) (hst : P.stoodInHeld ty = false) (hg : P.eqGuardType P.depth ty = false) (h : EqFs P 9999 xs ys fs.toList b) : Step P C o t H .pure (.bool (!b)) H :=
 flat2 ho hx hy hxs hys (.atom _ (.bool _)) (fun w => by simp [binOp, Op.equal, Op.maxDepth, eqIn_struct hu hst h]) (fun w => by simp [eqGuard, hg])
end S
end Go.Vm
namespace Go.Vm
open Go
def RT.fn (tb : List Value) : RT Nat := ⟨1, fun _ cs x => ∃ v, cs = [v] ∧ tb[x]? = some v ∧ ∃ g, v = .func (.func g) #[] #[], ⟨fun _ _ _ ⟨v, h, _⟩ => by rw [h]; rfl, fun _ _ _ ⟨v, h, _, g, h2⟩ => by rw [h, h2]; rfl, fun _ _ _ _ he h => h⟩⟩
end Go.Vm
