/-
  No cell of these rows narrows 'for every input' (looked for: loops, veiled, ifaces, maps, wideKeys, modest, calm, conditions, laid).
  DERIVED. THE GIVEN ROWS OF THIS SEAT. 5 by the template 'for every input the law returns true; each argument reads behind the call as it read before'; 0 by the template 'total and deterministic' (their statements: YtbmkccjfldmgiaaTotals.lean).
  GIVEN WITH THE SEED: the statements are not yours to turn. If you find one false, say at which input.
  Laid BY PROGRAM, IN A SANDBOX (cutbox-rows.mjs): the forced cells as the released guide's own fill.sh prints them over the translation 9e88963d36aaa4a2… (all of the seat's roots in one cut). By AI agents, Wed Nov 11 2026. No macro, syntax, notation, axiom, sorry.
-/
import Derived.Test.YtbmkccjfldmgiaaChecked
import GoSem.Claim
import GoSem.ClaimJoined
import GoSem.ClaimMapViews
import Derived.JoinedTies
import Derived.KernelRfl
namespace Go.Proofs.Ytbmkccjfldmgiaa
/- THE CELL 'sum', in the pinned program and in every row, IS THE sha256 OF THE DUMP (.gsa) THAT YtbmkccjfldmgiaaProg.lean LOADS. Nothing in Lean hashes anything: it is a label: what it is worth is what the hold of that sum in a sandbox is worth. -/
noncomputable def Try.pinned : Pinned := { name := "ytbmkccjfldmgiaa", sum := "9e88963d36aaa4a27b1ebe1da75cf9e4f4393b6ee19e563d2a7a633071299817", checked := Try.checked }
namespace Rows
def none {H : Type} : Left H := { results := [], args := [] }

/-- 'tourbillonlaw21.OrderWays': WHATEVER THE INPUT: true; the input reads as it did. -/
def orderWaysSpec : ChangeSpec := { name := "orderWays", fn := fun _ => fun
  | [d] => { results := [.lit (.bool true)], args := [d] }
  | _ => none }
def orderWaysRow : OpenClaim := { program := "ytbmkccjfldmgiaa", sum := "9e88963d36aaa4a27b1ebe1da75cf9e4f4393b6ee19e563d2a7a633071299817", func := "tourbillon/tourbillonlaw21.OrderWays", spec := "orderWays", unfollowed := true, recurses := true, apart := false }
def OrderWaysSaid : Prop := orderWaysRow.holds Try.pinned (OpenSpec.ofChange orderWaysSpec)

/-- ITS FALSE NEIGHBOUR: 'it returns false'. Refute it at one input. -/
def orderWaysWrong : ChangeSpec := { name := "orderWays", fn := fun _ => fun
  | [d] => { results := [.lit (.bool false)], args := [d] }
  | _ => none }
def OrderWaysWrongFalsely : Prop := orderWaysRow.holds Try.pinned (OpenSpec.ofChange orderWaysWrong)

/-- 'tourbillonlaw21.OrderSerial': WHATEVER THE INPUT: true; the input reads as it did. -/
def orderSerialSpec : ChangeSpec := { name := "orderSerial", fn := fun _ => fun
  | [d] => { results := [.lit (.bool true)], args := [d] }
  | _ => none }
def orderSerialRow : OpenClaim := { program := "ytbmkccjfldmgiaa", sum := "9e88963d36aaa4a27b1ebe1da75cf9e4f4393b6ee19e563d2a7a633071299817", func := "tourbillon/tourbillonlaw21.OrderSerial", spec := "orderSerial", unfollowed := true, recurses := true, apart := false }
def OrderSerialSaid : Prop := orderSerialRow.holds Try.pinned (OpenSpec.ofChange orderSerialSpec)

/-- ITS FALSE NEIGHBOUR: 'it returns false'. Refute it at one input. -/
def orderSerialWrong : ChangeSpec := { name := "orderSerial", fn := fun _ => fun
  | [d] => { results := [.lit (.bool false)], args := [d] }
  | _ => none }
def OrderSerialWrongFalsely : Prop := orderSerialRow.holds Try.pinned (OpenSpec.ofChange orderSerialWrong)

/-- 'tourbillonlaw21.OrderHappens': WHATEVER THE INPUT: true; the input reads as it did. -/
def orderHappensSpec : ChangeSpec := { name := "orderHappens", fn := fun _ => fun
  | [d] => { results := [.lit (.bool true)], args := [d] }
  | _ => none }
def orderHappensRow : OpenClaim := { program := "ytbmkccjfldmgiaa", sum := "9e88963d36aaa4a27b1ebe1da75cf9e4f4393b6ee19e563d2a7a633071299817", func := "tourbillon/tourbillonlaw21.OrderHappens", spec := "orderHappens", unfollowed := true, recurses := true, apart := false }
def OrderHappensSaid : Prop := orderHappensRow.holds Try.pinned (OpenSpec.ofChange orderHappensSpec)

/-- ITS FALSE NEIGHBOUR: 'it returns false'. Refute it at one input. -/
def orderHappensWrong : ChangeSpec := { name := "orderHappens", fn := fun _ => fun
  | [d] => { results := [.lit (.bool false)], args := [d] }
  | _ => none }
def OrderHappensWrongFalsely : Prop := orderHappensRow.holds Try.pinned (OpenSpec.ofChange orderHappensWrong)

/-- 'tourbillonlaw21.OrderApart': WHATEVER THE INPUT: true; the input reads as it did. -/
def orderApartSpec : ChangeSpec := { name := "orderApart", fn := fun _ => fun
  | [d] => { results := [.lit (.bool true)], args := [d] }
  | _ => none }
def orderApartRow : OpenClaim := { program := "ytbmkccjfldmgiaa", sum := "9e88963d36aaa4a27b1ebe1da75cf9e4f4393b6ee19e563d2a7a633071299817", func := "tourbillon/tourbillonlaw21.OrderApart", spec := "orderApart", unfollowed := true, recurses := true, apart := false }
def OrderApartSaid : Prop := orderApartRow.holds Try.pinned (OpenSpec.ofChange orderApartSpec)

/-- ITS FALSE NEIGHBOUR: 'it returns false'. Refute it at one input. -/
def orderApartWrong : ChangeSpec := { name := "orderApart", fn := fun _ => fun
  | [d] => { results := [.lit (.bool false)], args := [d] }
  | _ => none }
def OrderApartWrongFalsely : Prop := orderApartRow.holds Try.pinned (OpenSpec.ofChange orderApartWrong)

/-- 'tourbillonlaw21.OrderAlone': WHATEVER THE INPUT: true; the input reads as it did. -/
def orderAloneSpec : ChangeSpec := { name := "orderAlone", fn := fun _ => fun
  | [d1, d2] => { results := [.lit (.bool true)], args := [d1, d2] }
  | _ => none }
def orderAloneRow : OpenClaim := { program := "ytbmkccjfldmgiaa", sum := "9e88963d36aaa4a27b1ebe1da75cf9e4f4393b6ee19e563d2a7a633071299817", func := "tourbillon/tourbillonlaw21.OrderAlone", spec := "orderAlone", unfollowed := true, recurses := true, apart := false }
def OrderAloneSaid : Prop := orderAloneRow.holds Try.pinned (OpenSpec.ofChange orderAloneSpec)

/-- ITS FALSE NEIGHBOUR: 'it returns false'. Refute it at one input. -/
def orderAloneWrong : ChangeSpec := { name := "orderAlone", fn := fun _ => fun
  | [d1, d2] => { results := [.lit (.bool false)], args := [d1, d2] }
  | _ => none }
def OrderAloneWrongFalsely : Prop := orderAloneRow.holds Try.pinned (OpenSpec.ofChange orderAloneWrong)

/- THE SECOND FORM. 'bulk': how many values and letters a reading holds, each counted each time it is reached (what is shared counts as often as it is met; a slice's spare places count too). A statement '..UptoSaid' is the law's where the arguments, and the package variables that the reading takes, are together of bulk at most 1048576: NARROWER than '..Said'. Prove '..Said' where nothing that the law and all that it calls make is longer than what came in: it says more and counts as full. Else prove '..UptoSaid'. A law counts once. -/
mutual
def uptoBulk {H : Type} : DataW H → Nat
  | .lit (.string bytes) => bytes.length + 1
  | .lit _ => 1
  | .nil => 1
  | .ptr d => uptoBulk d + 1
  | .slice elems spare => uptoBulkAll elems + uptoBulkAll spare + 1
  | .agg parts => uptoBulkAll parts + 1
  | .iface _ d => uptoBulk d + 1
  | .map entries => uptoBulkEntries entries + 1
  | .held _ => 1
def uptoBulkAll {H : Type} : List (DataW H) → Nat
  | [] => 0
  | d :: r => uptoBulk d + uptoBulkAll r
def uptoBulkEntries {H : Type} : List (Lit × DataW H) → Nat
  | [] => 0
  | x :: r => uptoBulkEntry x + uptoBulkEntries r
def uptoBulkEntry {H : Type} : Lit × DataW H → Nat
  | (.string bytes, d) => bytes.length + uptoBulk d + 1
  | (_, d) => uptoBulk d + 1
 end
def uptoSmall : (H : Type) → List (DataW H) → Bool := fun _ ds => decide (uptoBulkAll ds ≤ 1048576)
def OpenSpec.upto (s : _root_.Go.ChangeSpec) : _root_.Go.OpenSpec := { _root_.Go.OpenSpec.ofChange s with cond := some uptoSmall }

/-- 'tourbillonlaw21.OrderWays', WHERE WHAT IT READS IS OF BULK AT MOST 1048576: true; the input reads as it did. -/
def orderWaysUptoRow : OpenClaim := { program := "ytbmkccjfldmgiaa", sum := "9e88963d36aaa4a27b1ebe1da75cf9e4f4393b6ee19e563d2a7a633071299817", func := "tourbillon/tourbillonlaw21.OrderWays", spec := "orderWays", unfollowed := true, recurses := true, apart := false, narrowed := true }
def OrderWaysUptoSaid : Prop := orderWaysUptoRow.holds Try.pinned (OpenSpec.upto orderWaysSpec)

/-- 'tourbillonlaw21.OrderSerial', WHERE WHAT IT READS IS OF BULK AT MOST 1048576: true; the input reads as it did. -/
def orderSerialUptoRow : OpenClaim := { program := "ytbmkccjfldmgiaa", sum := "9e88963d36aaa4a27b1ebe1da75cf9e4f4393b6ee19e563d2a7a633071299817", func := "tourbillon/tourbillonlaw21.OrderSerial", spec := "orderSerial", unfollowed := true, recurses := true, apart := false, narrowed := true }
def OrderSerialUptoSaid : Prop := orderSerialUptoRow.holds Try.pinned (OpenSpec.upto orderSerialSpec)

/-- 'tourbillonlaw21.OrderHappens', WHERE WHAT IT READS IS OF BULK AT MOST 1048576: true; the input reads as it did. -/
def orderHappensUptoRow : OpenClaim := { program := "ytbmkccjfldmgiaa", sum := "9e88963d36aaa4a27b1ebe1da75cf9e4f4393b6ee19e563d2a7a633071299817", func := "tourbillon/tourbillonlaw21.OrderHappens", spec := "orderHappens", unfollowed := true, recurses := true, apart := false, narrowed := true }
def OrderHappensUptoSaid : Prop := orderHappensUptoRow.holds Try.pinned (OpenSpec.upto orderHappensSpec)

/-- 'tourbillonlaw21.OrderApart', WHERE WHAT IT READS IS OF BULK AT MOST 1048576: true; the input reads as it did. -/
def orderApartUptoRow : OpenClaim := { program := "ytbmkccjfldmgiaa", sum := "9e88963d36aaa4a27b1ebe1da75cf9e4f4393b6ee19e563d2a7a633071299817", func := "tourbillon/tourbillonlaw21.OrderApart", spec := "orderApart", unfollowed := true, recurses := true, apart := false, narrowed := true }
def OrderApartUptoSaid : Prop := orderApartUptoRow.holds Try.pinned (OpenSpec.upto orderApartSpec)

/-- 'tourbillonlaw21.OrderAlone', WHERE WHAT IT READS IS OF BULK AT MOST 1048576: true; the input reads as it did. -/
def orderAloneUptoRow : OpenClaim := { program := "ytbmkccjfldmgiaa", sum := "9e88963d36aaa4a27b1ebe1da75cf9e4f4393b6ee19e563d2a7a633071299817", func := "tourbillon/tourbillonlaw21.OrderAlone", spec := "orderAlone", unfollowed := true, recurses := true, apart := false, narrowed := true }
def OrderAloneUptoSaid : Prop := orderAloneUptoRow.holds Try.pinned (OpenSpec.upto orderAloneSpec)

end Rows
end Go.Proofs.Ytbmkccjfldmgiaa
