/-
  No cell of these rows narrows 'for every input' (looked for: loops, veiled, ifaces, maps, wideKeys, modest, calm, conditions, laid).
  DERIVED. THE GIVEN ROWS OF THIS SEAT. 3 by the template 'for every input the law returns true; each argument reads behind the call as it read before'; 0 by the template 'total and deterministic' (their statements: YtcacllfgnjlhiaaTotals.lean).
  GIVEN WITH THE SEED: the statements are not yours to turn. If you find one false, say at which input.
  Laid BY PROGRAM, IN A SANDBOX (cutbox-rows.mjs): the forced cells as the released guide's own fill.sh prints them over the translation 68c6944d7c2ee31f… (all of the seat's roots in one cut). By AI agents, Wed Nov 11 2026. No macro, syntax, notation, axiom, sorry.
-/
import Derived.Test.YtcacllfgnjlhiaaChecked
import GoSem.Claim
import GoSem.ClaimJoined
import GoSem.ClaimMapViews
import Derived.JoinedTies
import Derived.KernelRfl
namespace Go.Proofs.Ytcacllfgnjlhiaa
/- THE CELL 'sum', in the pinned program and in every row, IS THE sha256 OF THE DUMP (.gsa) THAT YtcacllfgnjlhiaaProg.lean LOADS. Nothing in Lean hashes anything: it is a label: what it is worth is what the hold of that sum in a sandbox is worth. -/
noncomputable def Try.pinned : Pinned := { name := "ytcacllfgnjlhiaa", sum := "68c6944d7c2ee31f544170e6ee4cdf531f0a26059264a9ea5cf49d1ac7b0b07b", checked := Try.checked }
namespace Rows
def none {H : Type} : Left H := { results := [], args := [] }

/-- 'tourbillonlaw11.TidyMeans': WHATEVER THE INPUT: true; the input reads as it did. -/
def tidyMeansSpec : ChangeSpec := { name := "tidyMeans", fn := fun _ => fun
  | [d1, d2, d3, d4] => { results := [.lit (.bool true)], args := [d1, d2, d3, d4] }
  | _ => none }
def tidyMeansRow : OpenClaim := { program := "ytcacllfgnjlhiaa", sum := "68c6944d7c2ee31f544170e6ee4cdf531f0a26059264a9ea5cf49d1ac7b0b07b", func := "tourbillon/tourbillonlaw11.TidyMeans", spec := "tidyMeans", unfollowed := true, recurses := true, apart := false }
def TidyMeansSaid : Prop := tidyMeansRow.holds Try.pinned (OpenSpec.ofChange tidyMeansSpec)

/-- ITS FALSE NEIGHBOUR: 'it returns false'. Refute it at one input. -/
def tidyMeansWrong : ChangeSpec := { name := "tidyMeans", fn := fun _ => fun
  | [d1, d2, d3, d4] => { results := [.lit (.bool false)], args := [d1, d2, d3, d4] }
  | _ => none }
def TidyMeansWrongFalsely : Prop := tidyMeansRow.holds Try.pinned (OpenSpec.ofChange tidyMeansWrong)

/-- 'tourbillonlaw11.TidyLess': WHATEVER THE INPUT: true; the input reads as it did. -/
def tidyLessSpec : ChangeSpec := { name := "tidyLess", fn := fun _ => fun
  | [d1, d2] => { results := [.lit (.bool true)], args := [d1, d2] }
  | _ => none }
def tidyLessRow : OpenClaim := { program := "ytcacllfgnjlhiaa", sum := "68c6944d7c2ee31f544170e6ee4cdf531f0a26059264a9ea5cf49d1ac7b0b07b", func := "tourbillon/tourbillonlaw11.TidyLess", spec := "tidyLess", unfollowed := true, recurses := true, apart := false }
def TidyLessSaid : Prop := tidyLessRow.holds Try.pinned (OpenSpec.ofChange tidyLessSpec)

/-- ITS FALSE NEIGHBOUR: 'it returns false'. Refute it at one input. -/
def tidyLessWrong : ChangeSpec := { name := "tidyLess", fn := fun _ => fun
  | [d1, d2] => { results := [.lit (.bool false)], args := [d1, d2] }
  | _ => none }
def TidyLessWrongFalsely : Prop := tidyLessRow.holds Try.pinned (OpenSpec.ofChange tidyLessWrong)

/-- 'tourbillonlaw11.TidyTwice': WHATEVER THE INPUT: true; the input reads as it did. -/
def tidyTwiceSpec : ChangeSpec := { name := "tidyTwice", fn := fun _ => fun
  | [d1, d2, d3] => { results := [.lit (.bool true)], args := [d1, d2, d3] }
  | _ => none }
def tidyTwiceRow : OpenClaim := { program := "ytcacllfgnjlhiaa", sum := "68c6944d7c2ee31f544170e6ee4cdf531f0a26059264a9ea5cf49d1ac7b0b07b", func := "tourbillon/tourbillonlaw11.TidyTwice", spec := "tidyTwice", unfollowed := true, recurses := true, apart := false }
def TidyTwiceSaid : Prop := tidyTwiceRow.holds Try.pinned (OpenSpec.ofChange tidyTwiceSpec)

/-- ITS FALSE NEIGHBOUR: 'it returns false'. Refute it at one input. -/
def tidyTwiceWrong : ChangeSpec := { name := "tidyTwice", fn := fun _ => fun
  | [d1, d2, d3] => { results := [.lit (.bool false)], args := [d1, d2, d3] }
  | _ => none }
def TidyTwiceWrongFalsely : Prop := tidyTwiceRow.holds Try.pinned (OpenSpec.ofChange tidyTwiceWrong)

/- THE SECOND FORM. 'bulk': how many values and letters a reading holds, each counted each time it is reached (what is shared counts as often as it is met; a slice's spare places count too). A statement '..UptoSaid' is the law's where the arguments, and the package variables that the reading takes, are together of bulk at most 1048576: NARROWER than '..Said'. Prove '..Said' where nothing that the law and all that it calls make is longer than what came in: it says more and counts as full. Else prove '..UptoSaid'. A law counts once. -/
mutual
def uptoBulk {H : Type} : DataW H → Nat
  | .lit (.string bytes) => bytes.length + 1
  | .lit _ => 1
  | .nil => 1
  | .ptr d => uptoBulk d + 1
  | .slice elems spare => uptoBulkAll elems + uptoBulkAll spare + 1
  | .agg parts => uptoBulkAll parts + 1
  | .iface _ d => uptoBulk d + 1
  | .map entries => uptoBulkEntries entries + 1
  | .held _ => 1
def uptoBulkAll {H : Type} : List (DataW H) → Nat
  | [] => 0
  | d :: r => uptoBulk d + uptoBulkAll r
def uptoBulkEntries {H : Type} : List (Lit × DataW H) → Nat
  | [] => 0
  | x :: r => uptoBulkEntry x + uptoBulkEntries r
def uptoBulkEntry {H : Type} : Lit × DataW H → Nat
  | (.string bytes, d) => bytes.length + uptoBulk d + 1
  | (_, d) => uptoBulk d + 1
 end
def uptoSmall : (H : Type) → List (DataW H) → Bool := fun _ ds => decide (uptoBulkAll ds ≤ 1048576)
def OpenSpec.upto (s : _root_.Go.ChangeSpec) : _root_.Go.OpenSpec := { _root_.Go.OpenSpec.ofChange s with cond := some uptoSmall }

/-- 'tourbillonlaw11.TidyMeans', WHERE WHAT IT READS IS OF BULK AT MOST 1048576: true; the input reads as it did. -/
def tidyMeansUptoRow : OpenClaim := { program := "ytcacllfgnjlhiaa", sum := "68c6944d7c2ee31f544170e6ee4cdf531f0a26059264a9ea5cf49d1ac7b0b07b", func := "tourbillon/tourbillonlaw11.TidyMeans", spec := "tidyMeans", unfollowed := true, recurses := true, apart := false, narrowed := true }
def TidyMeansUptoSaid : Prop := tidyMeansUptoRow.holds Try.pinned (OpenSpec.upto tidyMeansSpec)

/-- 'tourbillonlaw11.TidyLess', WHERE WHAT IT READS IS OF BULK AT MOST 1048576: true; the input reads as it did. -/
def tidyLessUptoRow : OpenClaim := { program := "ytcacllfgnjlhiaa", sum := "68c6944d7c2ee31f544170e6ee4cdf531f0a26059264a9ea5cf49d1ac7b0b07b", func := "tourbillon/tourbillonlaw11.TidyLess", spec := "tidyLess", unfollowed := true, recurses := true, apart := false, narrowed := true }
def TidyLessUptoSaid : Prop := tidyLessUptoRow.holds Try.pinned (OpenSpec.upto tidyLessSpec)

/-- 'tourbillonlaw11.TidyTwice', WHERE WHAT IT READS IS OF BULK AT MOST 1048576: true; the input reads as it did. -/
def tidyTwiceUptoRow : OpenClaim := { program := "ytcacllfgnjlhiaa", sum := "68c6944d7c2ee31f544170e6ee4cdf531f0a26059264a9ea5cf49d1ac7b0b07b", func := "tourbillon/tourbillonlaw11.TidyTwice", spec := "tidyTwice", unfollowed := true, recurses := true, apart := false, narrowed := true }
def TidyTwiceUptoSaid : Prop := tidyTwiceUptoRow.holds Try.pinned (OpenSpec.upto tidyTwiceSpec)

end Rows
end Go.Proofs.Ytcacllfgnjlhiaa
