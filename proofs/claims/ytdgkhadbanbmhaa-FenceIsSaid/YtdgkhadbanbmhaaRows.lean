/-
  No cell of these rows narrows 'for every input' (looked for: loops, veiled, ifaces, maps, wideKeys, modest, calm, conditions, laid).
  DERIVED. THE GIVEN ROWS OF THIS SEAT. 3 by the template 'for every input the law returns true; each argument reads behind the call as it read before'; 0 by the template 'total and deterministic' (their statements: YtdgkhadbanbmhaaTotals.lean).
  GIVEN WITH THE SEED: the statements are not yours to turn. If you find one false, say at which input.
  Laid BY PROGRAM, IN A SANDBOX (cutbox-rows.mjs): the forced cells as the released guide's own fill.sh prints them over the translation e5f27cf718153e93… (all of the seat's roots in one cut). By AI agents, Wed Nov 11 2026. No macro, syntax, notation, axiom, sorry.
-/
import Derived.Test.YtdgkhadbanbmhaaChecked
import GoSem.Claim
import GoSem.ClaimJoined
import GoSem.ClaimMapViews
import Derived.JoinedTies
import Derived.KernelRfl
namespace Go.Proofs.Ytdgkhadbanbmhaa
/- THE CELL 'sum', in the pinned program and in every row, IS THE sha256 OF THE DUMP (.gsa) THAT YtdgkhadbanbmhaaProg.lean LOADS. Nothing in Lean hashes anything: it is a label: what it is worth is what the hold of that sum in a sandbox is worth. -/
noncomputable def Try.pinned : Pinned := { name := "ytdgkhadbanbmhaa", sum := "e5f27cf718153e934636fa9a64794c9ad5f020343fb827083f5c376bdf2a412c", checked := Try.checked }
namespace Rows
def none {H : Type} : Left H := { results := [], args := [] }

/-- 'tourbillonlaw12.FenceStays': WHATEVER THE INPUT: true; the input reads as it did. -/
def fenceStaysSpec : ChangeSpec := { name := "fenceStays", fn := fun _ => fun
  | [d1, d2] => { results := [.lit (.bool true)], args := [d1, d2] }
  | _ => none }
def fenceStaysRow : OpenClaim := { program := "ytdgkhadbanbmhaa", sum := "e5f27cf718153e934636fa9a64794c9ad5f020343fb827083f5c376bdf2a412c", func := "tourbillon/tourbillonlaw12.FenceStays", spec := "fenceStays", apart := false }
def FenceStaysSaid : Prop := fenceStaysRow.holds Try.pinned (OpenSpec.ofChange fenceStaysSpec)

/-- ITS FALSE NEIGHBOUR: 'it returns false'. Refute it at one input. -/
def fenceStaysWrong : ChangeSpec := { name := "fenceStays", fn := fun _ => fun
  | [d1, d2] => { results := [.lit (.bool false)], args := [d1, d2] }
  | _ => none }
def FenceStaysWrongFalsely : Prop := fenceStaysRow.holds Try.pinned (OpenSpec.ofChange fenceStaysWrong)

/-- 'tourbillonlaw12.FenceIs': WHATEVER THE INPUT: true; the input reads as it did. -/
def fenceIsSpec : ChangeSpec := { name := "fenceIs", fn := fun _ => fun
  | [d1, d2] => { results := [.lit (.bool true)], args := [d1, d2] }
  | _ => none }
def fenceIsRow : OpenClaim := { program := "ytdgkhadbanbmhaa", sum := "e5f27cf718153e934636fa9a64794c9ad5f020343fb827083f5c376bdf2a412c", func := "tourbillon/tourbillonlaw12.FenceIs", spec := "fenceIs", apart := false }
def FenceIsSaid : Prop := fenceIsRow.holds Try.pinned (OpenSpec.ofChange fenceIsSpec)

/-- ITS FALSE NEIGHBOUR: 'it returns false'. Refute it at one input. -/
def fenceIsWrong : ChangeSpec := { name := "fenceIs", fn := fun _ => fun
  | [d1, d2] => { results := [.lit (.bool false)], args := [d1, d2] }
  | _ => none }
def FenceIsWrongFalsely : Prop := fenceIsRow.holds Try.pinned (OpenSpec.ofChange fenceIsWrong)

/-- 'tourbillonlaw12.FenceMerges': WHATEVER THE INPUT: true; the input reads as it did. -/
def fenceMergesSpec : ChangeSpec := { name := "fenceMerges", fn := fun _ => fun
  | [d1, d2] => { results := [.lit (.bool true)], args := [d1, d2] }
  | _ => none }
def fenceMergesRow : OpenClaim := { program := "ytdgkhadbanbmhaa", sum := "e5f27cf718153e934636fa9a64794c9ad5f020343fb827083f5c376bdf2a412c", func := "tourbillon/tourbillonlaw12.FenceMerges", spec := "fenceMerges", apart := false }
def FenceMergesSaid : Prop := fenceMergesRow.holds Try.pinned (OpenSpec.ofChange fenceMergesSpec)

/-- ITS FALSE NEIGHBOUR: 'it returns false'. Refute it at one input. -/
def fenceMergesWrong : ChangeSpec := { name := "fenceMerges", fn := fun _ => fun
  | [d1, d2] => { results := [.lit (.bool false)], args := [d1, d2] }
  | _ => none }
def FenceMergesWrongFalsely : Prop := fenceMergesRow.holds Try.pinned (OpenSpec.ofChange fenceMergesWrong)

/- THE SECOND FORM. 'bulk': how many values and letters a reading holds, each counted each time it is reached (what is shared counts as often as it is met; a slice's spare places count too). A statement '..UptoSaid' is the law's where the arguments, and the package variables that the reading takes, are together of bulk at most 1048576: NARROWER than '..Said'. Prove '..Said' where nothing that the law and all that it calls make is longer than what came in: it says more and counts as full. Else prove '..UptoSaid'. A law counts once. -/
mutual
def uptoBulk {H : Type} : DataW H → Nat
  | .lit (.string bytes) => bytes.length + 1
  | .lit _ => 1
  | .nil => 1
  | .ptr d => uptoBulk d + 1
  | .slice elems spare => uptoBulkAll elems + uptoBulkAll spare + 1
  | .agg parts => uptoBulkAll parts + 1
  | .iface _ d => uptoBulk d + 1
  | .map entries => uptoBulkEntries entries + 1
  | .held _ => 1
def uptoBulkAll {H : Type} : List (DataW H) → Nat
  | [] => 0
  | d :: r => uptoBulk d + uptoBulkAll r
def uptoBulkEntries {H : Type} : List (Lit × DataW H) → Nat
  | [] => 0
  | x :: r => uptoBulkEntry x + uptoBulkEntries r
def uptoBulkEntry {H : Type} : Lit × DataW H → Nat
  | (.string bytes, d) => bytes.length + uptoBulk d + 1
  | (_, d) => uptoBulk d + 1
 end
def uptoSmall : (H : Type) → List (DataW H) → Bool := fun _ ds => decide (uptoBulkAll ds ≤ 1048576)
def OpenSpec.upto (s : _root_.Go.ChangeSpec) : _root_.Go.OpenSpec := { _root_.Go.OpenSpec.ofChange s with cond := some uptoSmall }

/-- 'tourbillonlaw12.FenceStays', WHERE WHAT IT READS IS OF BULK AT MOST 1048576: true; the input reads as it did. -/
def fenceStaysUptoRow : OpenClaim := { program := "ytdgkhadbanbmhaa", sum := "e5f27cf718153e934636fa9a64794c9ad5f020343fb827083f5c376bdf2a412c", func := "tourbillon/tourbillonlaw12.FenceStays", spec := "fenceStays", apart := false, narrowed := true }
def FenceStaysUptoSaid : Prop := fenceStaysUptoRow.holds Try.pinned (OpenSpec.upto fenceStaysSpec)

/-- 'tourbillonlaw12.FenceIs', WHERE WHAT IT READS IS OF BULK AT MOST 1048576: true; the input reads as it did. -/
def fenceIsUptoRow : OpenClaim := { program := "ytdgkhadbanbmhaa", sum := "e5f27cf718153e934636fa9a64794c9ad5f020343fb827083f5c376bdf2a412c", func := "tourbillon/tourbillonlaw12.FenceIs", spec := "fenceIs", apart := false, narrowed := true }
def FenceIsUptoSaid : Prop := fenceIsUptoRow.holds Try.pinned (OpenSpec.upto fenceIsSpec)

/-- 'tourbillonlaw12.FenceMerges', WHERE WHAT IT READS IS OF BULK AT MOST 1048576: true; the input reads as it did. -/
def fenceMergesUptoRow : OpenClaim := { program := "ytdgkhadbanbmhaa", sum := "e5f27cf718153e934636fa9a64794c9ad5f020343fb827083f5c376bdf2a412c", func := "tourbillon/tourbillonlaw12.FenceMerges", spec := "fenceMerges", apart := false, narrowed := true }
def FenceMergesUptoSaid : Prop := fenceMergesUptoRow.holds Try.pinned (OpenSpec.upto fenceMergesSpec)

end Rows
end Go.Proofs.Ytdgkhadbanbmhaa
