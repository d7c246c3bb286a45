/-
 Parts of strings; a slice of bytes as a string.
-/
import Derived.Test.YtngmbcedamphmaaESp13
import Derived.Laws.Strings2
import Derived.Laws.Slices
set_option linter.unusedSimpArgs false
set_option linter.unusedVariables false
namespace Go.Vm
open Go
section
variable {P : Program} {C : CallRel} {o : Oper} {t : T} {H : AH}
end
section
variable {P : Program} {G N : Nat} {ops : Array Oper} {i : Nat} {hist : Hist} {l : List (Nat × Value)} {V : Vw} {Q : LQ} {o : Oper} {d : Tmp}
end
section
variable {P : Program} {G N : Nat} {dr : Bool} {ops : Array Oper} {i : Nat} {hist : Hist} {l : List (Nat × Value)} {V : Vw} {Q : LQ} {o : Oper} {d : Tmp} {As : List At} {k : Nat}
end
theorem S.pickB {P : Program} {C : CallRel} {o : Oper} {t : T} {H : AH} {c x y : Operand} {b p q : Bool} (ho : o.op = .pick c x y) (hc : aev t c = .bool b) (hx : aev t x = .bool p) (hy : aev t y = .bool q) : Step P C o t H .pure (.bool (cond b p q)) H := by
 cases b with
 | true => exact S.pickT ho hc hx
 | false => exact S.pickF ho hc hy
end Go.Vm
