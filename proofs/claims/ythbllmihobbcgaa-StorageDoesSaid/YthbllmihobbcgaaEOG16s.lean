/-
 What an argument may hold.
-/
import Derived.Test.YthbllmihobbcgaaESp12
import Derived.Test.YthbllmihobbcgaaEDG16s
set_option linter.unusedVariables false
namespace Go.Vm.G16s
open Go
def OK_Tlaw16_Call (x : Tlaw16_Call) : Prop := (InR .i64 x.kind) ∧ (InR .i64 x.t) ∧ (InR .i64 x.n) ∧ (InR .i64 x.at_) ∧ (InR .i64 x.val) ∧ True
end Go.Vm.G16s
