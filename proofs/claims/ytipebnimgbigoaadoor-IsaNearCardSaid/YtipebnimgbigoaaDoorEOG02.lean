/-
 What an argument may hold.
-/
import Derived.Test.YtipebnimgbigoaaDoorESp12
import Derived.Test.YtipebnimgbigoaaDoorEDG02
set_option linter.unusedVariables false
namespace Go.Vm.G02
open Go
def OK_TInst (x : TInst) : Prop := (InR .i64 x.op) ∧ (InR .i64 x.d) ∧ (InR .i64 x.a) ∧ (InR .i64 x.b) ∧ (InR .i64 x.imm) ∧ True
end Go.Vm.G02
