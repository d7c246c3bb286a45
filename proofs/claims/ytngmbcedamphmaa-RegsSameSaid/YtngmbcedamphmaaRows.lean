/-
  No cell of these rows narrows 'for every input' (looked for: loops, veiled, ifaces, maps, wideKeys, modest, calm, conditions, laid).
  DERIVED. THE GIVEN ROWS OF THIS SEAT. 3 by the template 'for every input the law returns true; each argument reads behind the call as it read before'; 0 by the template 'total and deterministic' (their statements: YtngmbcedamphmaaTotals.lean).
  GIVEN WITH THE SEED: the statements are not yours to turn. If you find one false, say at which input.
  Laid BY PROGRAM, IN A SANDBOX (cutbox-rows.mjs): the forced cells as the released guide's own fill.sh prints them over the translation b3c0c1f1eb7f7a05… (all of the seat's roots in one cut). By AI agents, Wed Nov 11 2026. No macro, syntax, notation, axiom, sorry.
-/
import Derived.Test.YtngmbcedamphmaaChecked
import GoSem.Claim
import GoSem.ClaimJoined
import GoSem.ClaimMapViews
import Derived.JoinedTies
import Derived.KernelRfl
namespace Go.Proofs.Ytngmbcedamphmaa
/- THE CELL 'sum', in the pinned program and in every row, IS THE sha256 OF THE DUMP (.gsa) THAT YtngmbcedamphmaaProg.lean LOADS. Nothing in Lean hashes anything: it is a label: what it is worth is what the hold of that sum in a sandbox is worth. -/
noncomputable def Try.pinned : Pinned := { name := "ytngmbcedamphmaa", sum := "b3c0c1f1eb7f7a05a9d1ab9aa1d59c2a9ef8928966582f87f9e991e914158390", checked := Try.checked }
namespace Rows
def none {H : Type} : Left H := { results := [], args := [] }

/-- 'tourbillonlaw13.RegsHold': WHATEVER THE INPUT: true; the input reads as it did. -/
def regsHoldSpec : ChangeSpec := { name := "regsHold", fn := fun _ => fun
  | [d] => { results := [.lit (.bool true)], args := [d] }
  | _ => none }
def regsHoldRow : OpenClaim := { program := "ytngmbcedamphmaa", sum := "b3c0c1f1eb7f7a05a9d1ab9aa1d59c2a9ef8928966582f87f9e991e914158390", func := "tourbillon/tourbillonlaw13.RegsHold", spec := "regsHold", unfollowed := true, recurses := true, apart := false }
def RegsHoldSaid : Prop := regsHoldRow.holds Try.pinned (OpenSpec.ofChange regsHoldSpec)

/-- ITS FALSE NEIGHBOUR: 'it returns false'. Refute it at one input. -/
def regsHoldWrong : ChangeSpec := { name := "regsHold", fn := fun _ => fun
  | [d] => { results := [.lit (.bool false)], args := [d] }
  | _ => none }
def RegsHoldWrongFalsely : Prop := regsHoldRow.holds Try.pinned (OpenSpec.ofChange regsHoldWrong)

/-- 'tourbillonlaw13.RegsSame': WHATEVER THE INPUT: true; the input reads as it did. -/
def regsSameSpec : ChangeSpec := { name := "regsSame", fn := fun _ => fun
  | [d] => { results := [.lit (.bool true)], args := [d] }
  | _ => none }
def regsSameRow : OpenClaim := { program := "ytngmbcedamphmaa", sum := "b3c0c1f1eb7f7a05a9d1ab9aa1d59c2a9ef8928966582f87f9e991e914158390", func := "tourbillon/tourbillonlaw13.RegsSame", spec := "regsSame", unfollowed := true, recurses := true, apart := false }
def RegsSameSaid : Prop := regsSameRow.holds Try.pinned (OpenSpec.ofChange regsSameSpec)

/-- ITS FALSE NEIGHBOUR: 'it returns false'. Refute it at one input. -/
def regsSameWrong : ChangeSpec := { name := "regsSame", fn := fun _ => fun
  | [d] => { results := [.lit (.bool false)], args := [d] }
  | _ => none }
def RegsSameWrongFalsely : Prop := regsSameRow.holds Try.pinned (OpenSpec.ofChange regsSameWrong)

/-- 'tourbillonlaw13.RegsRename': WHATEVER THE INPUT: true; the input reads as it did. -/
def regsRenameSpec : ChangeSpec := { name := "regsRename", fn := fun _ => fun
  | [d1, d2] => { results := [.lit (.bool true)], args := [d1, d2] }
  | _ => none }
def regsRenameRow : OpenClaim := { program := "ytngmbcedamphmaa", sum := "b3c0c1f1eb7f7a05a9d1ab9aa1d59c2a9ef8928966582f87f9e991e914158390", func := "tourbillon/tourbillonlaw13.RegsRename", spec := "regsRename", unfollowed := true, recurses := true, apart := false }
def RegsRenameSaid : Prop := regsRenameRow.holds Try.pinned (OpenSpec.ofChange regsRenameSpec)

/-- ITS FALSE NEIGHBOUR: 'it returns false'. Refute it at one input. -/
def regsRenameWrong : ChangeSpec := { name := "regsRename", fn := fun _ => fun
  | [d1, d2] => { results := [.lit (.bool false)], args := [d1, d2] }
  | _ => none }
def RegsRenameWrongFalsely : Prop := regsRenameRow.holds Try.pinned (OpenSpec.ofChange regsRenameWrong)

/- THE SECOND FORM. 'bulk': how many values and letters a reading holds, each counted each time it is reached (what is shared counts as often as it is met; a slice's spare places count too). A statement '..UptoSaid' is the law's where the arguments, and the package variables that the reading takes, are together of bulk at most 1048576: NARROWER than '..Said'. Prove '..Said' where nothing that the law and all that it calls make is longer than what came in: it says more and counts as full. Else prove '..UptoSaid'. A law counts once. -/
mutual
def uptoBulk {H : Type} : DataW H → Nat
  | .lit (.string bytes) => bytes.length + 1
  | .lit _ => 1
  | .nil => 1
  | .ptr d => uptoBulk d + 1
  | .slice elems spare => uptoBulkAll elems + uptoBulkAll spare + 1
  | .agg parts => uptoBulkAll parts + 1
  | .iface _ d => uptoBulk d + 1
  | .map entries => uptoBulkEntries entries + 1
  | .held _ => 1
def uptoBulkAll {H : Type} : List (DataW H) → Nat
  | [] => 0
  | d :: r => uptoBulk d + uptoBulkAll r
def uptoBulkEntries {H : Type} : List (Lit × DataW H) → Nat
  | [] => 0
  | x :: r => uptoBulkEntry x + uptoBulkEntries r
def uptoBulkEntry {H : Type} : Lit × DataW H → Nat
  | (.string bytes, d) => bytes.length + uptoBulk d + 1
  | (_, d) => uptoBulk d + 1
 end
def uptoSmall : (H : Type) → List (DataW H) → Bool := fun _ ds => decide (uptoBulkAll ds ≤ 1048576)
def OpenSpec.upto (s : _root_.Go.ChangeSpec) : _root_.Go.OpenSpec := { _root_.Go.OpenSpec.ofChange s with cond := some uptoSmall }

/-- 'tourbillonlaw13.RegsHold', WHERE WHAT IT READS IS OF BULK AT MOST 1048576: true; the input reads as it did. -/
def regsHoldUptoRow : OpenClaim := { program := "ytngmbcedamphmaa", sum := "b3c0c1f1eb7f7a05a9d1ab9aa1d59c2a9ef8928966582f87f9e991e914158390", func := "tourbillon/tourbillonlaw13.RegsHold", spec := "regsHold", unfollowed := true, recurses := true, apart := false, narrowed := true }
def RegsHoldUptoSaid : Prop := regsHoldUptoRow.holds Try.pinned (OpenSpec.upto regsHoldSpec)

/-- 'tourbillonlaw13.RegsSame', WHERE WHAT IT READS IS OF BULK AT MOST 1048576: true; the input reads as it did. -/
def regsSameUptoRow : OpenClaim := { program := "ytngmbcedamphmaa", sum := "b3c0c1f1eb7f7a05a9d1ab9aa1d59c2a9ef8928966582f87f9e991e914158390", func := "tourbillon/tourbillonlaw13.RegsSame", spec := "regsSame", unfollowed := true, recurses := true, apart := false, narrowed := true }
def RegsSameUptoSaid : Prop := regsSameUptoRow.holds Try.pinned (OpenSpec.upto regsSameSpec)

/-- 'tourbillonlaw13.RegsRename', WHERE WHAT IT READS IS OF BULK AT MOST 1048576: true; the input reads as it did. -/
def regsRenameUptoRow : OpenClaim := { program := "ytngmbcedamphmaa", sum := "b3c0c1f1eb7f7a05a9d1ab9aa1d59c2a9ef8928966582f87f9e991e914158390", func := "tourbillon/tourbillonlaw13.RegsRename", spec := "regsRename", unfollowed := true, recurses := true, apart := false, narrowed := true }
def RegsRenameUptoSaid : Prop := regsRenameUptoRow.holds Try.pinned (OpenSpec.upto regsRenameSpec)

end Rows
end Go.Proofs.Ytngmbcedamphmaa
