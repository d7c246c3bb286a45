/-
 What an argument may hold.
-/
import Derived.Test.YtoefpigdafjcdaaDoorESp12
import Derived.Test.YtoefpigdafjcdaaDoorEDG08
set_option linter.unusedVariables false
namespace Go.Vm.G08
open Go
def OK_TIns (x : TIns) : Prop := (InR .i64 x.op) ∧ (InR .i64 x.d) ∧ (InR .i64 x.a) ∧ (InR .i64 x.b) ∧ (InR .i64 x.imm) ∧ (OKv 8 (fun x => InR .i64 x) x.args) ∧ (InR .i64 x.what) ∧ (True) ∧ (True) ∧ True
def OK_TFunc (x : TFunc) : Prop := (x.name.size ≤ 9223372036854775807) ∧ (InR .i64 x.params) ∧ (InR .i64 x.regs) ∧ (OKv 80 OK_TIns x.code) ∧ True
def OK_TModule (x : TModule) : Prop := (OKv 56 OK_TFunc x.funcs) ∧ (OKv 8 (fun x => InR .i64 x) x.threads) ∧ True
end Go.Vm.G08
