/-
 What an argument may hold.
-/
import Derived.Test.YtbmkccjfldmgiaaESp12
import Derived.Test.YtbmkccjfldmgiaaEDGA21
set_option linter.unusedVariables false
namespace Go.Vm.GA21
open Go
def OK_TAct (x : TAct) : Prop := (InR .i64 x.kind) ∧ (InR .i64 x.at_) ∧ (InR .i64 x.val) ∧ (InR .i64 x.what) ∧ (True) ∧ (True) ∧ True
def OK_TEvent (x : TEvent) : Prop := (InR .i64 x.t) ∧ (OK_TAct x.act) ∧ (InR .i64 x.rf) ∧ (InR .i64 x.id) ∧ True
end Go.Vm.GA21
