/-
 What an argument may hold.
-/
import Derived.Test.YtcacllfgnjlhiaaESp12
import Derived.Test.YtcacllfgnjlhiaaEDG11
set_option linter.unusedVariables false
namespace Go.Vm.G11
open Go
def OK_TIns (x : TIns) : Prop := (InR .i64 x.op) ∧ (InR .i64 x.d) ∧ (InR .i64 x.a) ∧ (InR .i64 x.b) ∧ (InR .i64 x.imm) ∧ (OKs (fun x => InR .i64 x) x.args) ∧ (InR .i64 x.what) ∧ (True) ∧ (True) ∧ True
def OK_TFunc (x : TFunc) : Prop := (x.name.size ≤ 9223372036854775807) ∧ (InR .i64 x.params) ∧ (InR .i64 x.regs) ∧ (OKs OK_TIns x.code) ∧ True
def OK_TModule (x : TModule) : Prop := (OKs OK_TFunc x.funcs) ∧ (OKs (fun x => InR .i64 x) x.threads) ∧ True
def OK_Ttidy_Options (x : Ttidy_Options) : Prop := (True) ∧ (True) ∧ (True) ∧ True
end Go.Vm.G11
