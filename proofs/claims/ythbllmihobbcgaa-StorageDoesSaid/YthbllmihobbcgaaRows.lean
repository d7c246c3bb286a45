/-
  No cell of these rows narrows 'for every input' (looked for: loops, veiled, ifaces, maps, wideKeys, modest, calm, conditions, laid).
  DERIVED. THE GIVEN ROWS OF THIS SEAT. 6 by the template 'for every input the law returns true; each argument reads behind the call as it read before'; 0 by the template 'total and deterministic' (their statements: YthbllmihobbcgaaTotals.lean).
  GIVEN WITH THE SEED: the statements are not yours to turn. If you find one false, say at which input.
  Laid BY PROGRAM, IN A SANDBOX (cutbox-rows.mjs): the forced cells as the released guide's own fill.sh prints them over the translation 430e6607862b0bbc… (all of the seat's roots in one cut). By AI agents, Wed Nov 11 2026. No macro, syntax, notation, axiom, sorry.
-/
import Derived.Test.YthbllmihobbcgaaChecked
import GoSem.Claim
import GoSem.ClaimJoined
import GoSem.ClaimMapViews
import Derived.JoinedTies
import Derived.KernelRfl
namespace Go.Proofs.Ythbllmihobbcgaa
/- THE CELL 'sum', in the pinned program and in every row, IS THE sha256 OF THE DUMP (.gsa) THAT YthbllmihobbcgaaProg.lean LOADS. Nothing in Lean hashes anything: it is a label: what it is worth is what the hold of that sum in a sandbox is worth. -/
noncomputable def Try.pinned : Pinned := { name := "ythbllmihobbcgaa", sum := "430e6607862b0bbc8222137663ffea9819872d5fef76aadfda540e85343cb9ec", checked := Try.checked }
namespace Rows
def none {H : Type} : Left H := { results := [], args := [] }

/-- 'tourbillonlaw16.StorageForward': WHATEVER THE INPUT: true; the input reads as it did. -/
def storageForwardSpec : ChangeSpec := { name := "storageForward", fn := fun _ => fun
  | [d1, d2, d3] => { results := [.lit (.bool true)], args := [d1, d2, d3] }
  | _ => none }
def storageForwardRow : OpenClaim := { program := "ythbllmihobbcgaa", sum := "430e6607862b0bbc8222137663ffea9819872d5fef76aadfda540e85343cb9ec", func := "tourbillon/tourbillonlaw16.StorageForward", spec := "storageForward", apart := false }
def StorageForwardSaid : Prop := storageForwardRow.holds Try.pinned (OpenSpec.ofChange storageForwardSpec)

/-- ITS FALSE NEIGHBOUR: 'it returns false'. Refute it at one input. -/
def storageForwardWrong : ChangeSpec := { name := "storageForward", fn := fun _ => fun
  | [d1, d2, d3] => { results := [.lit (.bool false)], args := [d1, d2, d3] }
  | _ => none }
def StorageForwardWrongFalsely : Prop := storageForwardRow.holds Try.pinned (OpenSpec.ofChange storageForwardWrong)

/-- 'tourbillonlaw16.StorageBars': WHATEVER THE INPUT: true; the input reads as it did. -/
def storageBarsSpec : ChangeSpec := { name := "storageBars", fn := fun _ => fun
  | [d1, d2] => { results := [.lit (.bool true)], args := [d1, d2] }
  | _ => none }
def storageBarsRow : OpenClaim := { program := "ythbllmihobbcgaa", sum := "430e6607862b0bbc8222137663ffea9819872d5fef76aadfda540e85343cb9ec", func := "tourbillon/tourbillonlaw16.StorageBars", spec := "storageBars", apart := false }
def StorageBarsSaid : Prop := storageBarsRow.holds Try.pinned (OpenSpec.ofChange storageBarsSpec)

/-- ITS FALSE NEIGHBOUR: 'it returns false'. Refute it at one input. -/
def storageBarsWrong : ChangeSpec := { name := "storageBars", fn := fun _ => fun
  | [d1, d2] => { results := [.lit (.bool false)], args := [d1, d2] }
  | _ => none }
def StorageBarsWrongFalsely : Prop := storageBarsRow.holds Try.pinned (OpenSpec.ofChange storageBarsWrong)

/-- 'tourbillonlaw16.StorageOwn': WHATEVER THE INPUT: true; the input reads as it did. -/
def storageOwnSpec : ChangeSpec := { name := "storageOwn", fn := fun _ => fun
  | [d1, d2, d3, d4, d5] => { results := [.lit (.bool true)], args := [d1, d2, d3, d4, d5] }
  | _ => none }
def storageOwnRow : OpenClaim := { program := "ythbllmihobbcgaa", sum := "430e6607862b0bbc8222137663ffea9819872d5fef76aadfda540e85343cb9ec", func := "tourbillon/tourbillonlaw16.StorageOwn", spec := "storageOwn", apart := false }
def StorageOwnSaid : Prop := storageOwnRow.holds Try.pinned (OpenSpec.ofChange storageOwnSpec)

/-- ITS FALSE NEIGHBOUR: 'it returns false'. Refute it at one input. -/
def storageOwnWrong : ChangeSpec := { name := "storageOwn", fn := fun _ => fun
  | [d1, d2, d3, d4, d5] => { results := [.lit (.bool false)], args := [d1, d2, d3, d4, d5] }
  | _ => none }
def StorageOwnWrongFalsely : Prop := storageOwnRow.holds Try.pinned (OpenSpec.ofChange storageOwnWrong)

/-- 'tourbillonlaw16.StorageAcks': WHATEVER THE INPUT: true; the input reads as it did. -/
def storageAcksSpec : ChangeSpec := { name := "storageAcks", fn := fun _ => fun
  | [d1, d2] => { results := [.lit (.bool true)], args := [d1, d2] }
  | _ => none }
def storageAcksRow : OpenClaim := { program := "ythbllmihobbcgaa", sum := "430e6607862b0bbc8222137663ffea9819872d5fef76aadfda540e85343cb9ec", func := "tourbillon/tourbillonlaw16.StorageAcks", spec := "storageAcks", apart := false }
def StorageAcksSaid : Prop := storageAcksRow.holds Try.pinned (OpenSpec.ofChange storageAcksSpec)

/-- ITS FALSE NEIGHBOUR: 'it returns false'. Refute it at one input. -/
def storageAcksWrong : ChangeSpec := { name := "storageAcks", fn := fun _ => fun
  | [d1, d2] => { results := [.lit (.bool false)], args := [d1, d2] }
  | _ => none }
def StorageAcksWrongFalsely : Prop := storageAcksRow.holds Try.pinned (OpenSpec.ofChange storageAcksWrong)

/-- 'tourbillonlaw16.StorageSettles': WHATEVER THE INPUT: true; the input reads as it did. -/
def storageSettlesSpec : ChangeSpec := { name := "storageSettles", fn := fun _ => fun
  | [d1, d2] => { results := [.lit (.bool true)], args := [d1, d2] }
  | _ => none }
def storageSettlesRow : OpenClaim := { program := "ythbllmihobbcgaa", sum := "430e6607862b0bbc8222137663ffea9819872d5fef76aadfda540e85343cb9ec", func := "tourbillon/tourbillonlaw16.StorageSettles", spec := "storageSettles", apart := false }
def StorageSettlesSaid : Prop := storageSettlesRow.holds Try.pinned (OpenSpec.ofChange storageSettlesSpec)

/-- ITS FALSE NEIGHBOUR: 'it returns false'. Refute it at one input. -/
def storageSettlesWrong : ChangeSpec := { name := "storageSettles", fn := fun _ => fun
  | [d1, d2] => { results := [.lit (.bool false)], args := [d1, d2] }
  | _ => none }
def StorageSettlesWrongFalsely : Prop := storageSettlesRow.holds Try.pinned (OpenSpec.ofChange storageSettlesWrong)

/-- 'tourbillonlaw16.StorageDoes': WHATEVER THE INPUT: true; the input reads as it did. -/
def storageDoesSpec : ChangeSpec := { name := "storageDoes", fn := fun _ => fun
  | [d1, d2] => { results := [.lit (.bool true)], args := [d1, d2] }
  | _ => none }
def storageDoesRow : OpenClaim := { program := "ythbllmihobbcgaa", sum := "430e6607862b0bbc8222137663ffea9819872d5fef76aadfda540e85343cb9ec", func := "tourbillon/tourbillonlaw16.StorageDoes", spec := "storageDoes", unfollowed := true, recurses := true, apart := false }
def StorageDoesSaid : Prop := storageDoesRow.holds Try.pinned (OpenSpec.ofChange storageDoesSpec)

/-- ITS FALSE NEIGHBOUR: 'it returns false'. Refute it at one input. -/
def storageDoesWrong : ChangeSpec := { name := "storageDoes", fn := fun _ => fun
  | [d1, d2] => { results := [.lit (.bool false)], args := [d1, d2] }
  | _ => none }
def StorageDoesWrongFalsely : Prop := storageDoesRow.holds Try.pinned (OpenSpec.ofChange storageDoesWrong)

/- THE SECOND FORM. 'bulk': how many values and letters a reading holds, each counted each time it is reached (what is shared counts as often as it is met; a slice's spare places count too). A statement '..UptoSaid' is the law's where the arguments, and the package variables that the reading takes, are together of bulk at most 1048576: NARROWER than '..Said'. Prove '..Said' where nothing that the law and all that it calls make is longer than what came in: it says more and counts as full. Else prove '..UptoSaid'. A law counts once. -/
mutual
def uptoBulk {H : Type} : DataW H → Nat
  | .lit (.string bytes) => bytes.length + 1
  | .lit _ => 1
  | .nil => 1
  | .ptr d => uptoBulk d + 1
  | .slice elems spare => uptoBulkAll elems + uptoBulkAll spare + 1
  | .agg parts => uptoBulkAll parts + 1
  | .iface _ d => uptoBulk d + 1
  | .map entries => uptoBulkEntries entries + 1
  | .held _ => 1
def uptoBulkAll {H : Type} : List (DataW H) → Nat
  | [] => 0
  | d :: r => uptoBulk d + uptoBulkAll r
def uptoBulkEntries {H : Type} : List (Lit × DataW H) → Nat
  | [] => 0
  | x :: r => uptoBulkEntry x + uptoBulkEntries r
def uptoBulkEntry {H : Type} : Lit × DataW H → Nat
  | (.string bytes, d) => bytes.length + uptoBulk d + 1
  | (_, d) => uptoBulk d + 1
 end
def uptoSmall : (H : Type) → List (DataW H) → Bool := fun _ ds => decide (uptoBulkAll ds ≤ 1048576)
def OpenSpec.upto (s : _root_.Go.ChangeSpec) : _root_.Go.OpenSpec := { _root_.Go.OpenSpec.ofChange s with cond := some uptoSmall }

/-- 'tourbillonlaw16.StorageForward', WHERE WHAT IT READS IS OF BULK AT MOST 1048576: true; the input reads as it did. -/
def storageForwardUptoRow : OpenClaim := { program := "ythbllmihobbcgaa", sum := "430e6607862b0bbc8222137663ffea9819872d5fef76aadfda540e85343cb9ec", func := "tourbillon/tourbillonlaw16.StorageForward", spec := "storageForward", apart := false, narrowed := true }
def StorageForwardUptoSaid : Prop := storageForwardUptoRow.holds Try.pinned (OpenSpec.upto storageForwardSpec)

/-- 'tourbillonlaw16.StorageBars', WHERE WHAT IT READS IS OF BULK AT MOST 1048576: true; the input reads as it did. -/
def storageBarsUptoRow : OpenClaim := { program := "ythbllmihobbcgaa", sum := "430e6607862b0bbc8222137663ffea9819872d5fef76aadfda540e85343cb9ec", func := "tourbillon/tourbillonlaw16.StorageBars", spec := "storageBars", apart := false, narrowed := true }
def StorageBarsUptoSaid : Prop := storageBarsUptoRow.holds Try.pinned (OpenSpec.upto storageBarsSpec)

/-- 'tourbillonlaw16.StorageOwn', WHERE WHAT IT READS IS OF BULK AT MOST 1048576: true; the input reads as it did. -/
def storageOwnUptoRow : OpenClaim := { program := "ythbllmihobbcgaa", sum := "430e6607862b0bbc8222137663ffea9819872d5fef76aadfda540e85343cb9ec", func := "tourbillon/tourbillonlaw16.StorageOwn", spec := "storageOwn", apart := false, narrowed := true }
def StorageOwnUptoSaid : Prop := storageOwnUptoRow.holds Try.pinned (OpenSpec.upto storageOwnSpec)

/-- 'tourbillonlaw16.StorageAcks', WHERE WHAT IT READS IS OF BULK AT MOST 1048576: true; the input reads as it did. -/
def storageAcksUptoRow : OpenClaim := { program := "ythbllmihobbcgaa", sum := "430e6607862b0bbc8222137663ffea9819872d5fef76aadfda540e85343cb9ec", func := "tourbillon/tourbillonlaw16.StorageAcks", spec := "storageAcks", apart := false, narrowed := true }
def StorageAcksUptoSaid : Prop := storageAcksUptoRow.holds Try.pinned (OpenSpec.upto storageAcksSpec)

/-- 'tourbillonlaw16.StorageSettles', WHERE WHAT IT READS IS OF BULK AT MOST 1048576: true; the input reads as it did. -/
def storageSettlesUptoRow : OpenClaim := { program := "ythbllmihobbcgaa", sum := "430e6607862b0bbc8222137663ffea9819872d5fef76aadfda540e85343cb9ec", func := "tourbillon/tourbillonlaw16.StorageSettles", spec := "storageSettles", apart := false, narrowed := true }
def StorageSettlesUptoSaid : Prop := storageSettlesUptoRow.holds Try.pinned (OpenSpec.upto storageSettlesSpec)

/-- 'tourbillonlaw16.StorageDoes', WHERE WHAT IT READS IS OF BULK AT MOST 1048576: true; the input reads as it did. -/
def storageDoesUptoRow : OpenClaim := { program := "ythbllmihobbcgaa", sum := "430e6607862b0bbc8222137663ffea9819872d5fef76aadfda540e85343cb9ec", func := "tourbillon/tourbillonlaw16.StorageDoes", spec := "storageDoes", unfollowed := true, recurses := true, apart := false, narrowed := true }
def StorageDoesUptoSaid : Prop := storageDoesUptoRow.holds Try.pinned (OpenSpec.upto storageDoesSpec)

end Rows
end Go.Proofs.Ythbllmihobbcgaa
