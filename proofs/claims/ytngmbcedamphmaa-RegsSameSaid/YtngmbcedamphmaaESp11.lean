/-
  Part of an evaluator for the model, proved sound: no condition.
-/
import Derived.Test.YtngmbcedamphmaaESp10
set_option linter.unusedSimpArgs false
set_option linter.unusedVariables false
namespace Go.Vm
open Go
def RT.fn (tb : List Value) : RT Nat := ⟨1, fun _ cs x => ∃ v, cs = [v] ∧ tb[x]? = some v ∧ ∃ g, v = .func (.func g) #[] #[], ⟨fun _ _ _ ⟨v, h, _⟩ => by rw [h]; rfl, fun _ _ _ ⟨v, h, _, g, h2⟩ => by rw [h, h2]; rfl, fun _ _ _ _ he h => h⟩⟩
end Go.Vm
