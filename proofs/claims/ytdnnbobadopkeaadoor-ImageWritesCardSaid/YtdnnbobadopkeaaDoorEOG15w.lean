/-
 What an argument may hold.
-/
import Derived.Test.YtdnnbobadopkeaaDoorESp12
import Derived.Test.YtdnnbobadopkeaaDoorEDG15w
set_option linter.unusedVariables false
namespace Go.Vm.G15w
open Go
def OK_TNote (x : TNote) : Prop := (InR .i64 x.role) ∧ (InR .i64 x.what) ∧ (True) ∧ (True) ∧ True
def OK_TImage (x : TImage) : Prop := (OKs (fun x => InR .u32 x) x.code) ∧ (OKs OK_TNote x.notes) ∧ (OKs (fun x => InR .i64 x) x.threads) ∧ True
end Go.Vm.G15w
