/-
  What an argument may hold.
-/
import Derived.Test.YtbmkccjfldmgiaaESp12
import Derived.Test.YtbmkccjfldmgiaaEDGO21
set_option linter.unusedVariables false
namespace Go.Vm.GO21
open Go

end Go.Vm.GO21
