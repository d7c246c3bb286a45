/-
 The law of reading a word.
-/
import Derived.Test.YtipebnimgbigoaaDoorEP02v
import Derived.Test.YtipebnimgbigoaaDoorEOG02
set_option linter.unusedSimpArgs false
set_option linter.unusedVariables false
namespace Go.Vm.G02
open Go
theorem InR.u32 {x : Int} (h : InR .u32 x) : ∃ n : Nat, x = (n : Int) ∧ n < 4294967296 := by
 unfold InR Lit.wf at h
 simp [IntKind.min, IntKind.max, IntKind.signed, IntKind.bits] at h
 exact ⟨x.toNat, by omega, by omega⟩
theorem law02_IsaReads_law (x : Int) (o : InR .u32 x) : law02_IsaReads x = some true := by
 obtain ⟨n, rfl, hn⟩ := InR.u32 o
 unfold law02_IsaReads
 rw [alive, Option.bind_some, if_neg (by decide)]
 rcases decode hn with ⟨j, h1, h2, h3, h4, h5⟩ | ⟨_, h4, h5⟩
 ·rw [h4, h5, Option.bind_some, Option.bind_some, if_neg (by simp), h3.2, Option.bind_some, h3.1]
  simp
 ·rw [h4, h5, Option.bind_some, Option.bind_some, if_neg (by simp)]
  have e : isa_Encode ⟨0, 0, 0, 0, 0⟩ = some (0, 1) := enc_bad _ rfl
  rw [e]
  rfl
end Go.Vm.G02
