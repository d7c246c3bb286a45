/-
 What an argument may hold.
-/
import Derived.Test.YtngmbcedamphmaaESp12
import Derived.Test.YtngmbcedamphmaaEDG13s
set_option linter.unusedVariables false
namespace Go.Vm.G13s
open Go
def OK_TIns (x : TIns) : Prop := (InR .i64 x.op) ∧ (InR .i64 x.d) ∧ (InR .i64 x.a) ∧ (InR .i64 x.b) ∧ (InR .i64 x.imm) ∧ (OKv 8 (fun x => InR .i64 x) x.args) ∧ (InR .i64 x.what) ∧ (True) ∧ (True) ∧ True
def OK_TFunc (x : TFunc) : Prop := (x.name.size ≤ 9223372036854775807) ∧ (InR .i64 x.params) ∧ (InR .i64 x.regs) ∧ (OKw OK_TIns x.code) ∧ True
end Go.Vm.G13s
