/-
  Part of an evaluator for the model, proved sound: no condition.
-/
import Derived.Test.YtcacllfgnjlhiaaESp4
set_option linter.unusedSimpArgs false
set_option linter.unusedVariables false
namespace Go.Vm
open Go
def mG {β : Type} (m : List (Int × β)) (k : Int) : Option β := (m.find? fun p => p.1 == k).map (·.2)
def mI {β : Type} (m : List (Int × β)) (k : Int) : Option Nat := m.findIdx? fun p => p.1 == k
def mS {β : Type} (m : List (Int × β)) (k : Int) (x : β) : List (Int × β) := match mI m k with
 | some j => m.set j (k, x)
 | none => m ++ [(k, x)]
def mD {β : Type} (m : List (Int × β)) (k : Int) : List (Int × β) := match mI m k with
 | some j => m.eraseIdx j
 | none => m
def RT.vrel {β : Type} (R : RT β) (agg : Bool) (V : Vw) (v : Value) (x : β) : Prop := if agg = true then ∃ cs, v = .agg cs ∧ R.rel V cs.toList x else R.rel V [v] x
theorem RT.vrel.up {β : Type} {R : RT β} {agg : Bool} {V V' : Vw} {v : Value} {x : β} (h : R.vrel agg V v x) (hle : V.le V') : R.vrel agg V' v x := by
 unfold RT.vrel at h ⊢
 cases agg with
 | true => obtain ⟨cs, h1, h2⟩ := h; exact ⟨cs, h1, R.ty.up _ _ _ _ hle h2⟩
 | false => exact R.ty.up _ _ _ _ hle h
inductive MRel {β : Type} (R : RT β) (agg : Bool) (V : Vw) : List (Int × Value) → List (Int × β) → Prop
 | nil : MRel R agg V [] []
 | cons (k : Int) (v : Value) (x : β) (l : List (Int × Value)) (m : List (Int × β)) (h : R.vrel agg V v x) (h' : MRel R agg V l m) : MRel R agg V ((k, v) :: l) ((k, x) :: m)
section
variable {β : Type} {R : RT β} {agg : Bool} {V V' : Vw} {l : List (Int × Value)} {m : List (Int × β)} {k : Int}
theorem MRel.up (h : MRel R agg V l m) (hle : V.le V') : MRel R agg V' l m := by
 induction h with
 | nil => exact .nil
 | cons k v x l m h _ ih => exact .cons k v x l m (h.up hle) ih
theorem MRel.ix (h : MRel R agg V l m) : mix l k = mI m k := by
 induction h with
 | nil => rfl
 | cons q v x l m h _ ih => simp only [mix, mI, List.findIdx?_cons] at ih ⊢; rw [ih]
theorem MRel.get (h : MRel R agg V l m) : (mget l k = none ∧ mG m k = none) ∨ ∃ v x, mget l k = some v ∧ mG m k = some x ∧ R.vrel agg V v x := by
 induction h with
 | nil => exact .inl ⟨rfl, rfl⟩
 | cons q v x l m h _ ih =>
  by_cases hq : (q == k) = true
  ·exact .inr ⟨v, x, by simp [mget, List.find?_cons, hq], by simp [mG, List.find?_cons, hq], h⟩
  ·have hq : (q == k) = false := by simpa using hq
   simp only [mget, mG, List.find?_cons, hq] at ih ⊢
   exact ih
theorem MRel.set (h : MRel R agg V l m) {v : Value} {x : β} (hv : R.vrel agg V v x) : MRel R agg V (mset l k v) (mS m k x) := by
 unfold mset mS
 rw [h.ix]
 cases hm : mI m k with
 | none =>
  clear hm
  show MRel R agg V (l ++ [(k, v)]) (m ++ [(k, x)])
  induction h with
  | nil => exact .cons _ _ _ _ _ hv .nil
  | cons q u y l m h _ ih => exact .cons q u y _ _ h ih
 | some j =>
  clear hm
  show MRel R agg V (l.set j (k, v)) (m.set j (k, x))
  induction h generalizing j with
  | nil => exact .nil
  | cons q u y l m h h' ih =>
   cases j with
   | zero => exact .cons k v x l m hv h'
   | succ j => exact .cons q u y _ _ h (ih j)
theorem MRel.del (h : MRel R agg V l m) : MRel R agg V (mdel l k) (mD m k) := by
 unfold mdel mD
 rw [h.ix]
 cases hm : mI m k with
 | none => exact h
 | some j =>
  clear hm
  show MRel R agg V (l.eraseIdx j) (m.eraseIdx j)
  induction h generalizing j with
  | nil => exact .nil
  | cons q u y l m h h' ih =>
   cases j with
   | zero => exact h'
   | succ j => exact .cons q u y _ _ h (ih j)
end
def At.om {β : Type} (R : RT β) (agg : Bool) (v : Value) (m : List (Int × β)) : At where
 sat V p := ∃ b l, v = .map (some b) ∧ p = [(b, .amap l)] ∧ MRel R agg V l m
 up V V' p hle h := by
  obtain ⟨b, l, h1, h2, h3⟩ := h
  exact ⟨b, l, h1, h2, h3.up hle⟩
section
variable {P : Program} {G N : Nat} {dr : Bool} {ops : Array Oper} {i : Nat} {hist : Hist} {l : List (Nat × Value)} {V : Vw} {Q : LQ} {o : Oper} {d : Tmp} {As : List At} {k : Nat} {β : Type} {R : RT β} {agg : Bool} {v : Value} {m : List (Int × β)}
theorem Ow.omsat (h : Ow V As) (hk : As[k]? = some (.om R agg v m)) : ∃ b es, v = .map (some b) ∧ V.H.get b = some (.amap es) ∧ V.H.lo ≤ b ∧ b < V.H.next ∧ ¬ V.F b ∧ MRel R agg V es m := by
 obtain ⟨p, h1, h2, _⟩ := Ow.chg (Bs := [.om R agg v m]) (h.pick k hk)
 obtain ⟨p1, p2, rfl, ⟨b, es, rfl, rfl, h5⟩, h4⟩ := h2.split
 obtain ⟨q1, q2, q3, q4⟩ := h1.own (b, .amap es) (by simp)
 exact ⟨b, es, rfl, q4, q1, q2, q3, h5⟩
theorem Ow.omne (h : Ow V As) (hk : As[k]? = some (.om R agg v m)) : v ≠ topV := by obtain ⟨b, es, rfl, _⟩ := h.omsat hk; simp [topV]
theorem Ow.omcells (h : Ow V As) (hk : As[k]? = some (.om R agg v m)) : v.cells = #[v] := by obtain ⟨b, es, rfl, _⟩ := h.omsat hk; rfl
theorem O.makeMap {ty : TypeId} (R : RT β) (agg : Bool) (ow : Ow V As) (ho : ops[i]? = some o) (hd : o.dst = some d) (hg : GOk ops l o) (hop : o.op = .makeMap ty none)
  (hk : ∀ x, okU dr ops i (.alloc V.H.next) V.H (V.H.new x) hist) (h : ∀ v V1, V.le V1 → Ow V1 (.om R agg v [] :: As) → WU dr P G ops (i + 1) (hadd dr (i, .alloc V.H.next, V.H, V1.H) hist) ((d, v) :: l) V1.H Q) : WU dr P G ops i hist l V.H Q := by
 have nw : Nw V V.H.next (V.new (.amap [])) (.amap []) := ⟨rfl, rfl⟩
 refine U.k ho hd hg (S.makeMap hop) (hk _) (h (.map (some V.H.next)) _ nw.le ?_)
 obtain ⟨p, h1, h2, h3⟩ := Ow.chg (Bs := [.pt V.H.next (.amap [])]) (As := As) (ow.nw nw)
 obtain ⟨p1, p2, rfl, h4, h5⟩ := h2.split
 cases h5
 have h4 : p1 = [(V.H.next, .amap [])] := h4
 subst h4
 exact h3 _ [.om R agg (.map (some V.H.next)) []] _ (.refl _) (fun c _ _ _ hf => ⟨rfl, hf⟩) h1 (.cons [(V.H.next, .amap [])] [] _ _ ⟨V.H.next, [], rfl, rfl, .nil⟩ .nil) (fun c hc => .inl hc)
theorem Ow.omget {C : CallRel} {t : T} {ty kt e : TypeId} {x y : Operand} {q : Int} {z : Value} {n mm : Nat} {z0 : β} {ok : Bool} (ow : Ow V As) (hk : As[k]? = some (.om R agg v m)) (ho : o.op = .lookup ty x y ok) (hx : aev t x = v) (hy : aev t y = .int .i64 q)
  (hu : P.underlying ty = some (.map kt e)) (hkt : P.underlying kt = some (.int .i64)) (hi : tinfo P e z n mm) (hz : constB z = true) (hz0 : R.vrel agg V z z0) :
  ∃ b u, (b < V.H.next ∧ v = .map (some b)) ∧ R.vrel agg V u ((mG m q).getD z0) ∧ Step P C o t V.H (.read b) (if ok = true then .tuple #[u, .bool (mG m q).isSome] else u) V.H := by
 obtain ⟨b, es, rfl, h1, h2, h3, h4, h5⟩ := ow.omsat hk
 obtain ⟨inf, i1, i2, i3, i4⟩ := tinfo_get hi
 have hs := LOp.lookup (P := P) (ρ := aev t) (H := V.H) (o := o) ty kt e x y b es q inf z ok ho hx hy hu hkt i1 i2 hz h1
 rcases h5.get (k := q) with ⟨g1, g2⟩ | ⟨u, w, g1, g2, g3⟩
 ·refine ⟨b, z, ⟨h3, rfl⟩, by rw [g2]; exact hz0, ?_⟩
  have he : lookV ok es q z = if ok = true then .tuple #[z, .bool (mG m q).isSome] else z := by unfold lookV; rw [g1, g2]; rfl
  rw [← he]; exact .l b _ hs
 ·refine ⟨b, u, ⟨h3, rfl⟩, by rw [g2]; exact g3, ?_⟩
  have he : lookV ok es q z = if ok = true then .tuple #[u, .bool (mG m q).isSome] else u := by unfold lookV; rw [g1, g2]; rfl
  rw [← he]; exact .l b _ hs
theorem Ow.omchg {V' : Vw} {b : Nat} {es es' : List (Int × Value)} {m' : List (Int × β)} (ow : Ow V As) (hk : As[k]? = some (.om R agg (.map (some b)) m)) (hg : V.H.get b = some (.amap es)) (n : St V b V' (.amap es')) (hr : MRel R agg V' es' m') : Ow V' (As.set k (.om R agg (.map (some b)) m')) :=
 ow.st1 hk (b := b) (x := .amap es) (fun p hp hs => by
  obtain ⟨b2, l2, h1, rfl, _⟩ := hs
  cases h1
  have := (hp.own (b, .amap l2) (by simp)).2.2.2
  rw [hg] at this
  cases this
  rfl) n ⟨b, es', rfl, rfl, hr⟩
theorem O.mapUpdate {ty kt e : TypeId} {x y z : Operand} {q : Int} {u : Value} {w : β} (ow : Ow V As) (hk0 : As[k]? = some (.om R agg v m)) (ho : ops[i]? = some o) (hd : o.dst = none) (hg : GOk ops l o) (hop : o.op = .mapUpdate ty x y z) (hx : aev (fr l) x = v) (hy : aev (fr l) y = .int .i64 q) (hz : aev (fr l) z = u)
  (hu : P.underlying ty = some (.map kt e)) (hkt : P.underlying kt = some (.int .i64)) (hv : R.vrel agg V u w) (hk : ∀ H1 : AH, (∀ c, (∀ b, v = .map (some b) → c ≠ b) → H1.get c = V.H.get c) → okU dr ops i .eff V.H H1 hist)
  (h : ∀ V1, V.le V1 → Ow V1 (As.set k (.om R agg v (mS m q w))) → WU dr P G ops (i + 1) (hadd dr (i, .eff, V.H, V1.H) hist) l V1.H Q) : WU dr P G ops i hist l V.H Q := by
 obtain ⟨b, es, rfl, h1, h2, h3, h4, h5⟩ := ow.omsat hk0
 have hs := MOp.mapUpdate (P := P) (ρ := aev (fr l)) (H := V.H) (o := o) ty kt e x y z b es q hop hx hy hu hkt h2 h1
 rw [hz] at hs
 have n : St V b (V.set b (.amap (mset es q u))) (.amap (mset es q u)) := ⟨rfl⟩
 have hle := n.le (M := fun _ => True) ⟨trivial, h2, h3, h4, h1⟩
 refine U.kn (v := undef) ho hd hg (.m _ _ hs) (hk _ (fun c hc => by simp [AH.upd, hc b rfl])) (h (V.set b (.amap (mset es q u))) hle ?_)
 exact ow.omchg hk0 h1 n ((h5.set hv).up hle)
end
section
variable {P : Program} {G N : Nat} {dr : Bool} {ops : Array Oper} {i : Nat} {hist : Hist} {l : List (Nat × Value)} {V : Vw} {Q : LQ} {o : Oper} {d : Tmp} {As : List At} {k b e n : Nat} {α : Type} {R : RT α} {xs : List α}
end
section
variable {P : Program} {V : Vw} {o : Oper} {As : List At} {k : Nat} {β : Type} {R : RT β} {agg : Bool} {v : Value} {m : List (Int × β)} {C : CallRel} {t : T} {ty kt e : TypeId} {x y : Operand} {q : Int} {z : Value} {n mm : Nat} {z0 : β}
theorem Ow.omget1 (ow : Ow V As) (hk : As[k]? = some (.om R agg v m)) (ho : o.op = .lookup ty x y false) (hx : aev t x = v) (hy : aev t y = .int .i64 q) (hu : P.underlying ty = some (.map kt e)) (hkt : P.underlying kt = some (.int .i64)) (hi : tinfo P e z n mm) (hz : constB z = true) (hz0 : R.vrel agg V z z0) :
  ∃ b u, (b < V.H.next ∧ v = .map (some b)) ∧ R.vrel agg V u ((mG m q).getD z0) ∧ Step P C o t V.H (.read b) u V.H := by
 obtain ⟨b, u, h1, h2, h3⟩ := ow.omget (C := C) hk ho hx hy hu hkt hi hz hz0
 exact ⟨b, u, h1, h2, by simpa using h3⟩
theorem Ow.omget2 (ow : Ow V As) (hk : As[k]? = some (.om R agg v m)) (ho : o.op = .lookup ty x y true) (hx : aev t x = v) (hy : aev t y = .int .i64 q) (hu : P.underlying ty = some (.map kt e)) (hkt : P.underlying kt = some (.int .i64)) (hi : tinfo P e z n mm) (hz : constB z = true) (hz0 : R.vrel agg V z z0) :
  ∃ b u, (b < V.H.next ∧ v = .map (some b)) ∧ R.vrel agg V u ((mG m q).getD z0) ∧ Step P C o t V.H (.read b) (.tuple #[u, .bool (mG m q).isSome]) V.H := by
 obtain ⟨b, u, h1, h2, h3⟩ := ow.omget (C := C) hk ho hx hy hu hkt hi hz hz0
 exact ⟨b, u, h1, h2, by simpa using h3⟩
theorem vrel_cell {α : Type} {R : RT α} {V : Vw} {u : Value} {x : α} (h : R.vrel false V u x) : R.rel V [u] x := by simpa [RT.vrel] using h
theorem cell_vrel {α : Type} {R : RT α} {V : Vw} {u : Value} {x : α} (h : R.rel V [u] x) : R.vrel false V u x := by simpa [RT.vrel] using h
end
section
variable {α : Type} {R : RT α} {V : Vw} {v : Value} {xs : List α} {As : List At} {k : Nat}
theorem Ow.oseqNil (ow : Ow V As) (hk : As[k]? = some (.os R v xs)) {P : Program} {C : CallRel} {o : Oper} {t : T} {H : AH} {x y : Operand} {ty u e : TypeId} (ho : o.op = .binOp .eql ty x y u) (hx : aev t x = v) (hy : aev t y = .slice none 0 0) (hu : P.underlying ty = some (.slice e)) : Step P C o t H .pure (.bool (isNil v)) H := by
 obtain ⟨p, _, _, ⟨_, rfl, _⟩ | ⟨b, o', cs, rfl, _⟩⟩ := ow.osat hk
 ·exact S.nilNil ho hx hy hu
 ·exact S.nilS ho (.inl rfl) hx hy hu
theorem Ow.osnil_of (ow : Ow V As) (hk : As[k]? = some (.os R v xs)) (hn : isNil v = true) : xs = [] := by
 obtain ⟨p, _, _, ⟨_, _, rfl⟩ | ⟨b, o', cs, rfl, _⟩⟩ := ow.osat hk
 ·rfl
 ·cases hn
end
end Go.Vm
