/-
  What the functions compute is what the plain ones say, for all inputs at which those answer.
-/
import Derived.Test.YtngmbcedamphmaaEWG13b
set_option linter.unusedSimpArgs false
set_option linter.unusedVariables false
namespace Go.Vm.G13
open Go Go.Proofs
set_option maxHeartbeats 4000000
set_option maxRecDepth 10000
end Go.Vm.G13
