/-
  Part of an evaluator for the model, proved sound: no condition.
-/
import Derived.Test.YtngmbcedamphmaaESp4
set_option linter.unusedSimpArgs false
set_option linter.unusedVariables false
namespace Go.Vm
open Go
def mI {β : Type} (m : List (Int × β)) (k : Int) : Option Nat := m.findIdx? fun p => p.1 == k
def RT.vrel {β : Type} (R : RT β) (agg : Bool) (V : Vw) (v : Value) (x : β) : Prop := if agg = true then ∃ cs, v = .agg cs ∧ R.rel V cs.toList x else R.rel V [v] x
inductive MRel {β : Type} (R : RT β) (agg : Bool) (V : Vw) : List (Int × Value) → List (Int × β) → Prop
 | nil : MRel R agg V [] []
 | cons (k : Int) (v : Value) (x : β) (l : List (Int × Value)) (m : List (Int × β)) (h : R.vrel agg V v x) (h' : MRel R agg V l m) : MRel R agg V ((k, v) :: l) ((k, x) :: m)
section
variable {β : Type} {R : RT β} {agg : Bool} {V V' : Vw} {l : List (Int × Value)} {m : List (Int × β)} {k : Int}
theorem MRel.ix (h : MRel R agg V l m) : mix l k = mI m k := by
 induction h with
 | nil => rfl
 | cons q v x l m h _ ih => simp only [mix, mI, List.findIdx?_cons] at ih ⊢; rw [ih]
end
section
variable {P : Program} {G N : Nat} {dr : Bool} {ops : Array Oper} {i : Nat} {hist : Hist} {l : List (Nat × Value)} {V : Vw} {Q : LQ} {o : Oper} {d : Tmp} {As : List At} {k : Nat} {β : Type} {R : RT β} {agg : Bool} {v : Value} {m : List (Int × β)}
end
section
variable {P : Program} {G N : Nat} {dr : Bool} {ops : Array Oper} {i : Nat} {hist : Hist} {l : List (Nat × Value)} {V : Vw} {Q : LQ} {o : Oper} {d : Tmp} {As : List At} {k b e n : Nat} {α : Type} {R : RT α} {xs : List α}
end
section
variable {P : Program} {V : Vw} {o : Oper} {As : List At} {k : Nat} {β : Type} {R : RT β} {agg : Bool} {v : Value} {m : List (Int × β)} {C : CallRel} {t : T} {ty kt e : TypeId} {x y : Operand} {q : Int} {z : Value} {n mm : Nat} {z0 : β}
end
section
variable {α : Type} {R : RT α} {V : Vw} {v : Value} {xs : List α} {As : List At} {k : Nat}
theorem Ow.oseqNil (ow : Ow V As) (hk : As[k]? = some (.os R v xs)) {P : Program} {C : CallRel} {o : Oper} {t : T} {H : AH} {x y : Operand} {ty u e : TypeId} (ho : o.op = .binOp .eql ty x y u) (hx : aev t x = v) (hy : aev t y = .slice none 0 0) (hu : P.underlying ty = some (.slice e)) : Step P C o t H .pure (.bool (isNil v)) H := by
 obtain ⟨p, _, _, ⟨_, rfl, _⟩ | ⟨b, o', cs, rfl, _⟩⟩ := ow.osat hk
 ·exact S.nilNil ho hx hy hu
 ·exact S.nilS ho (.inl rfl) hx hy hu
theorem Ow.osnil_of (ow : Ow V As) (hk : As[k]? = some (.os R v xs)) (hn : isNil v = true) : xs = [] := by
 obtain ⟨p, _, _, ⟨_, _, rfl⟩ | ⟨b, o', cs, rfl, _⟩⟩ := ow.osat hk
 ·rfl
 ·cases hn
end
end Go.Vm
