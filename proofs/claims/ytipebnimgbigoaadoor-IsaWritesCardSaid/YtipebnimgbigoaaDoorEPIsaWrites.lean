/-
 The law: Good, Encode and Text.
-/
import Derived.Test.YtipebnimgbigoaaDoorEP02B
set_option linter.unusedSimpArgs false
set_option linter.unusedVariables false
namespace Go.Vm.G02
open Go
theorem law02_IsaWrites_law (p : TInst) (o : OK_TInst p) : law02_IsaWrites p = some true := by
 unfold law02_IsaWrites
 rw [alive, Option.bind_some, if_neg (by decide)]
 rcases cases_q p with ⟨E, h1, h2, h3, h4, h5, h6, h7, h8⟩ | ⟨h3, h4, h5, h7, h8⟩
 ·rw [h4, Option.bind_some, h5, Option.bind_some, h3, Option.bind_some, if_neg (by decide), h7, Option.bind_some, h8, Option.bind_some]
  unfold law02_IsaWrites_k1
  rw [if_neg (by simp), if_pos rfl, h6, Option.bind_some, Option.bind_some]
  simp
 ·rw [h4, Option.bind_some, h5, Option.bind_some, h3, Option.bind_some, if_neg (by decide), h7, Option.bind_some, h8, Option.bind_some]
  unfold law02_IsaWrites_k1
  rw [if_neg (by simp), if_neg (by decide), Option.bind_some]
  simp
end Go.Vm.G02
