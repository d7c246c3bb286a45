/-
 What an argument may hold.
-/
import Derived.Test.YtlcjnalocidldaaDoorESp12
import Derived.Test.YtlcjnalocidldaaDoorEDK17
set_option linter.unusedVariables false
namespace Go.Vm.K17
open Go
def OK_TNote (x : TNote) : Prop := (InR .i64 x.role) ∧ (InR .i64 x.what) ∧ (True) ∧ (True) ∧ True
def OK_TImage (x : TImage) : Prop := (OKv 4 (fun x => InR .u32 x) x.code) ∧ (OKv 24 OK_TNote x.notes) ∧ (OKv 8 (fun x => InR .i64 x) x.threads) ∧ True
def OK_Tlaw17_Move (x : Tlaw17_Move) : Prop := (InR .i64 x.kind) ∧ (InR .i64 x.k) ∧ (True) ∧ True
end Go.Vm.K17
