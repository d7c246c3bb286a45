/-
  No cell of these rows narrows 'for every input' (looked for: loops, veiled, ifaces, maps, wideKeys, modest, calm, conditions, laid).
  DERIVED. THE GIVEN ROWS OF THIS SEAT. 5 by the template 'for every input the law returns true; each argument reads behind the call as it read before'; 0 by the template 'total and deterministic' (their statements: YtllkfanfdbnogaaTotals.lean).
  GIVEN WITH THE SEED: the statements are not yours to turn. If you find one false, say at which input.
  Laid BY PROGRAM, IN A SANDBOX (cutbox-rows.mjs): the forced cells as the released guide's own fill.sh prints them over the translation 04d5097fac7293db… (all of the seat's roots in one cut). By AI agents, Wed Nov 11 2026. No macro, syntax, notation, axiom, sorry.
-/
import Derived.Test.YtllkfanfdbnogaaChecked
import GoSem.Claim
import GoSem.ClaimJoined
import GoSem.ClaimMapViews
import Derived.JoinedTies
import Derived.KernelRfl
namespace Go.Proofs.Ytllkfanfdbnogaa
/- THE CELL 'sum', in the pinned program and in every row, IS THE sha256 OF THE DUMP (.gsa) THAT YtllkfanfdbnogaaProg.lean LOADS. Nothing in Lean hashes anything: it is a label: what it is worth is what the hold of that sum in a sandbox is worth. -/
noncomputable def Try.pinned : Pinned := { name := "ytllkfanfdbnogaa", sum := "04d5097fac7293dba0d660518de921d232bc42bb64046cab2e169cf64122a710", checked := Try.checked }
namespace Rows
def none {H : Type} : Left H := { results := [], args := [] }

/-- 'tourbillonlaw10.FlowLive': WHATEVER THE INPUT: true; the input reads as it did. -/
def flowLiveSpec : ChangeSpec := { name := "flowLive", fn := fun _ => fun
  | [d] => { results := [.lit (.bool true)], args := [d] }
  | _ => none }
def flowLiveRow : OpenClaim := { program := "ytllkfanfdbnogaa", sum := "04d5097fac7293dba0d660518de921d232bc42bb64046cab2e169cf64122a710", func := "tourbillon/tourbillonlaw10.FlowLive", spec := "flowLive", unfollowed := true, recurses := true, apart := false }
def FlowLiveSaid : Prop := flowLiveRow.holds Try.pinned (OpenSpec.ofChange flowLiveSpec)

/-- ITS FALSE NEIGHBOUR: 'it returns false'. Refute it at one input. -/
def flowLiveWrong : ChangeSpec := { name := "flowLive", fn := fun _ => fun
  | [d] => { results := [.lit (.bool false)], args := [d] }
  | _ => none }
def FlowLiveWrongFalsely : Prop := flowLiveRow.holds Try.pinned (OpenSpec.ofChange flowLiveWrong)

/-- 'tourbillonlaw10.FlowReads': WHATEVER THE INPUT: true; the input reads as it did. -/
def flowReadsSpec : ChangeSpec := { name := "flowReads", fn := fun _ => fun
  | [d] => { results := [.lit (.bool true)], args := [d] }
  | _ => none }
def flowReadsRow : OpenClaim := { program := "ytllkfanfdbnogaa", sum := "04d5097fac7293dba0d660518de921d232bc42bb64046cab2e169cf64122a710", func := "tourbillon/tourbillonlaw10.FlowReads", spec := "flowReads", unfollowed := true, recurses := true, apart := false }
def FlowReadsSaid : Prop := flowReadsRow.holds Try.pinned (OpenSpec.ofChange flowReadsSpec)

/-- ITS FALSE NEIGHBOUR: 'it returns false'. Refute it at one input. -/
def flowReadsWrong : ChangeSpec := { name := "flowReads", fn := fun _ => fun
  | [d] => { results := [.lit (.bool false)], args := [d] }
  | _ => none }
def FlowReadsWrongFalsely : Prop := flowReadsRow.holds Try.pinned (OpenSpec.ofChange flowReadsWrong)

/-- 'tourbillonlaw10.FlowNext': WHATEVER THE INPUT: true; the input reads as it did. -/
def flowNextSpec : ChangeSpec := { name := "flowNext", fn := fun _ => fun
  | [d1, d2] => { results := [.lit (.bool true)], args := [d1, d2] }
  | _ => none }
def flowNextRow : OpenClaim := { program := "ytllkfanfdbnogaa", sum := "04d5097fac7293dba0d660518de921d232bc42bb64046cab2e169cf64122a710", func := "tourbillon/tourbillonlaw10.FlowNext", spec := "flowNext", unfollowed := true, recurses := true, apart := false }
def FlowNextSaid : Prop := flowNextRow.holds Try.pinned (OpenSpec.ofChange flowNextSpec)

/-- ITS FALSE NEIGHBOUR: 'it returns false'. Refute it at one input. -/
def flowNextWrong : ChangeSpec := { name := "flowNext", fn := fun _ => fun
  | [d1, d2] => { results := [.lit (.bool false)], args := [d1, d2] }
  | _ => none }
def FlowNextWrongFalsely : Prop := flowNextRow.holds Try.pinned (OpenSpec.ofChange flowNextWrong)

/-- 'tourbillonlaw10.FlowWays': WHATEVER THE INPUT: true; the input reads as it did. -/
def flowWaysSpec : ChangeSpec := { name := "flowWays", fn := fun _ => fun
  | [d] => { results := [.lit (.bool true)], args := [d] }
  | _ => none }
def flowWaysRow : OpenClaim := { program := "ytllkfanfdbnogaa", sum := "04d5097fac7293dba0d660518de921d232bc42bb64046cab2e169cf64122a710", func := "tourbillon/tourbillonlaw10.FlowWays", spec := "flowWays", unfollowed := true, recurses := true, apart := false }
def FlowWaysSaid : Prop := flowWaysRow.holds Try.pinned (OpenSpec.ofChange flowWaysSpec)

/-- ITS FALSE NEIGHBOUR: 'it returns false'. Refute it at one input. -/
def flowWaysWrong : ChangeSpec := { name := "flowWays", fn := fun _ => fun
  | [d] => { results := [.lit (.bool false)], args := [d] }
  | _ => none }
def FlowWaysWrongFalsely : Prop := flowWaysRow.holds Try.pinned (OpenSpec.ofChange flowWaysWrong)

/-- 'tourbillonlaw10.FlowSpans': WHATEVER THE INPUT: true; the input reads as it did. -/
def flowSpansSpec : ChangeSpec := { name := "flowSpans", fn := fun _ => fun
  | [d] => { results := [.lit (.bool true)], args := [d] }
  | _ => none }
def flowSpansRow : OpenClaim := { program := "ytllkfanfdbnogaa", sum := "04d5097fac7293dba0d660518de921d232bc42bb64046cab2e169cf64122a710", func := "tourbillon/tourbillonlaw10.FlowSpans", spec := "flowSpans", unfollowed := true, recurses := true, apart := false }
def FlowSpansSaid : Prop := flowSpansRow.holds Try.pinned (OpenSpec.ofChange flowSpansSpec)

/-- ITS FALSE NEIGHBOUR: 'it returns false'. Refute it at one input. -/
def flowSpansWrong : ChangeSpec := { name := "flowSpans", fn := fun _ => fun
  | [d] => { results := [.lit (.bool false)], args := [d] }
  | _ => none }
def FlowSpansWrongFalsely : Prop := flowSpansRow.holds Try.pinned (OpenSpec.ofChange flowSpansWrong)

/- THE SECOND FORM. 'bulk': how many values and letters a reading holds, each counted each time it is reached (what is shared counts as often as it is met; a slice's spare places count too). A statement '..UptoSaid' is the law's where the arguments, and the package variables that the reading takes, are together of bulk at most 1048576: NARROWER than '..Said'. Prove '..Said' where nothing that the law and all that it calls make is longer than what came in: it says more and counts as full. Else prove '..UptoSaid'. A law counts once. -/
mutual
def uptoBulk {H : Type} : DataW H → Nat
  | .lit (.string bytes) => bytes.length + 1
  | .lit _ => 1
  | .nil => 1
  | .ptr d => uptoBulk d + 1
  | .slice elems spare => uptoBulkAll elems + uptoBulkAll spare + 1
  | .agg parts => uptoBulkAll parts + 1
  | .iface _ d => uptoBulk d + 1
  | .map entries => uptoBulkEntries entries + 1
  | .held _ => 1
def uptoBulkAll {H : Type} : List (DataW H) → Nat
  | [] => 0
  | d :: r => uptoBulk d + uptoBulkAll r
def uptoBulkEntries {H : Type} : List (Lit × DataW H) → Nat
  | [] => 0
  | x :: r => uptoBulkEntry x + uptoBulkEntries r
def uptoBulkEntry {H : Type} : Lit × DataW H → Nat
  | (.string bytes, d) => bytes.length + uptoBulk d + 1
  | (_, d) => uptoBulk d + 1
 end
def uptoSmall : (H : Type) → List (DataW H) → Bool := fun _ ds => decide (uptoBulkAll ds ≤ 1048576)
def OpenSpec.upto (s : _root_.Go.ChangeSpec) : _root_.Go.OpenSpec := { _root_.Go.OpenSpec.ofChange s with cond := some uptoSmall }

/-- 'tourbillonlaw10.FlowLive', WHERE WHAT IT READS IS OF BULK AT MOST 1048576: true; the input reads as it did. -/
def flowLiveUptoRow : OpenClaim := { program := "ytllkfanfdbnogaa", sum := "04d5097fac7293dba0d660518de921d232bc42bb64046cab2e169cf64122a710", func := "tourbillon/tourbillonlaw10.FlowLive", spec := "flowLive", unfollowed := true, recurses := true, apart := false, narrowed := true }
def FlowLiveUptoSaid : Prop := flowLiveUptoRow.holds Try.pinned (OpenSpec.upto flowLiveSpec)

/-- 'tourbillonlaw10.FlowReads', WHERE WHAT IT READS IS OF BULK AT MOST 1048576: true; the input reads as it did. -/
def flowReadsUptoRow : OpenClaim := { program := "ytllkfanfdbnogaa", sum := "04d5097fac7293dba0d660518de921d232bc42bb64046cab2e169cf64122a710", func := "tourbillon/tourbillonlaw10.FlowReads", spec := "flowReads", unfollowed := true, recurses := true, apart := false, narrowed := true }
def FlowReadsUptoSaid : Prop := flowReadsUptoRow.holds Try.pinned (OpenSpec.upto flowReadsSpec)

/-- 'tourbillonlaw10.FlowNext', WHERE WHAT IT READS IS OF BULK AT MOST 1048576: true; the input reads as it did. -/
def flowNextUptoRow : OpenClaim := { program := "ytllkfanfdbnogaa", sum := "04d5097fac7293dba0d660518de921d232bc42bb64046cab2e169cf64122a710", func := "tourbillon/tourbillonlaw10.FlowNext", spec := "flowNext", unfollowed := true, recurses := true, apart := false, narrowed := true }
def FlowNextUptoSaid : Prop := flowNextUptoRow.holds Try.pinned (OpenSpec.upto flowNextSpec)

/-- 'tourbillonlaw10.FlowWays', WHERE WHAT IT READS IS OF BULK AT MOST 1048576: true; the input reads as it did. -/
def flowWaysUptoRow : OpenClaim := { program := "ytllkfanfdbnogaa", sum := "04d5097fac7293dba0d660518de921d232bc42bb64046cab2e169cf64122a710", func := "tourbillon/tourbillonlaw10.FlowWays", spec := "flowWays", unfollowed := true, recurses := true, apart := false, narrowed := true }
def FlowWaysUptoSaid : Prop := flowWaysUptoRow.holds Try.pinned (OpenSpec.upto flowWaysSpec)

/-- 'tourbillonlaw10.FlowSpans', WHERE WHAT IT READS IS OF BULK AT MOST 1048576: true; the input reads as it did. -/
def flowSpansUptoRow : OpenClaim := { program := "ytllkfanfdbnogaa", sum := "04d5097fac7293dba0d660518de921d232bc42bb64046cab2e169cf64122a710", func := "tourbillon/tourbillonlaw10.FlowSpans", spec := "flowSpans", unfollowed := true, recurses := true, apart := false, narrowed := true }
def FlowSpansUptoSaid : Prop := flowSpansUptoRow.holds Try.pinned (OpenSpec.upto flowSpansSpec)

end Rows
end Go.Proofs.Ytllkfanfdbnogaa
