/-
  NARROWER THAN 'FOR EVERY INPUT', by the rows' own cells (each row's printed sentence says how): WindowRefuses: laid.
  DERIVED. THE GIVEN ROWS OF THIS SEAT. 1 by the template 'for every input the law returns true; each argument reads behind the call as it read before'; 0 by the template 'total and deterministic' (their statements: YtlcjnalocidldaaDoorTotals.lean).
  GIVEN WITH THE SEED: the statements are not yours to turn. If you find one false, say at which input.
  Laid BY PROGRAM, IN A SANDBOX (cutbox-rows.mjs): the forced cells as the released guide's own fill.sh prints them over the translation c1b937c2745855c4… (all of the seat's roots in one cut). By AI agents, Wed Nov 11 2026. No macro, syntax, notation, axiom, sorry.
-/
import Derived.Test.YtlcjnalocidldaaDoorChecked
import GoSem.Claim
import GoSem.ClaimJoined
import GoSem.ClaimMapViews
import Derived.JoinedTies
import Derived.KernelRfl
namespace Go.Proofs.YtlcjnalocidldaaDoor
/- THE CELL 'sum', in the pinned program and in every row, IS THE sha256 OF THE DUMP (.gsa) THAT YtlcjnalocidldaaDoorProg.lean LOADS. Nothing in Lean hashes anything: it is a label: what it is worth is what the hold of that sum in a sandbox is worth. -/
noncomputable def Tryd.pinned : Pinned := { name := "ytlcjnalocidldaadoor", sum := "c1b937c2745855c4b105143a13721f46af921959d433cd12b3d22cb34531bbb2", checked := Tryd.checked }
namespace Rows
def none {H : Type} : Left H := { results := [], args := [] }

/- WHAT THE LISTED PACKAGE-LEVEL VARIABLES READ AS WHEN THE CALL BEGINS. Each datum BY PROGRAM (the guide's laid-datum.mjs) off the statement by which the dump's own 'gosem.cut.vars' lays the variable. In a bare row this is a premise. The card (YtlcjnalocidldaaDoorCards.lean) ties it to the program's text. -/
def laid_tourbillon_isa_shapes {H : Type} : DataW H := .agg [.agg [.lit (.string []), .lit (.string []), .lit (.int .u32 0)], .agg [.lit (.string [108, 100]), .lit (.string [100, 97, 109]), .lit (.int .u32 3892314112)], .agg [.lit (.string [115, 116, 100]), .lit (.string [100, 97, 109]), .lit (.int .u32 4160749568)], .agg [.lit (.string [97, 100, 100, 105]), .lit (.string [100, 97, 105]), .lit (.int .u32 939524096)], .agg [.lit (.string [97, 100, 100]), .lit (.string [100, 97, 98]), .lit (.int .u32 2080375316)], .agg [.lit (.string [115, 117, 98, 102]), .lit (.string [100, 97, 98]), .lit (.int .u32 2080374864)], .agg [.lit (.string [109, 117, 108, 108, 100]), .lit (.string [100, 97, 98]), .lit (.int .u32 2080375250)], .agg [.lit (.string [100, 105, 118, 100]), .lit (.string [100, 97, 98]), .lit (.int .u32 2080375762)], .agg [.lit (.string [99, 109, 112, 100]), .lit (.string [97, 98]), .lit (.int .u32 2082471936)], .agg [.lit (.string [99, 109, 112, 100, 105]), .lit (.string [97, 105]), .lit (.int .u32 740294656)], .agg [.lit (.string [98, 99]), .lit (.string [99, 111]), .lit (.int .u32 1073741824)], .agg [.lit (.string [98]), .lit (.string [108]), .lit (.int .u32 1207959552)], .agg [.lit (.string [98, 108]), .lit (.string [108]), .lit (.int .u32 1207959553)], .agg [.lit (.string [98, 108, 114]), .lit (.string []), .lit (.int .u32 1317011488)], .agg [.lit (.string [109, 102, 108, 114]), .lit (.string [100]), .lit (.int .u32 2080899750)], .agg [.lit (.string [109, 116, 108, 114]), .lit (.string [100]), .lit (.int .u32 2080900006)], .agg [.lit (.string [108, 100, 97, 114, 120]), .lit (.string [100, 97, 98]), .lit (.int .u32 2080374952)], .agg [.lit (.string [115, 116, 100, 99, 120, 46]), .lit (.string [100, 97, 98]), .lit (.int .u32 2080375213)], .agg [.lit (.string [115, 121, 110, 99]), .lit (.string []), .lit (.int .u32 2080375980)], .agg [.lit (.string [108, 119, 115, 121, 110, 99]), .lit (.string []), .lit (.int .u32 2082473132)], .agg [.lit (.string [105, 115, 121, 110, 99]), .lit (.string []), .lit (.int .u32 1275068716)], .agg [.lit (.string [116, 114, 97, 112]), .lit (.string [105]), .lit (.int .u32 266338304)], .agg [.lit (.string [111, 117, 116]), .lit (.string [100]), .lit (.int .u32 1140850690)]]

/-- 'tourbillonlaw17.WindowRefuses': WHATEVER THE INPUT: true; the input reads as it did. -/
def windowRefusesSpec : ChangeSpec := { name := "windowRefuses", fn := fun _ => fun
  | [d1, d2, d3, d4] => { results := [.lit (.bool true)], args := [d1, d2, d3, d4] }
  | _ => none }
def windowRefusesRow : OpenClaim := { program := "ytlcjnalocidldaadoor", sum := "c1b937c2745855c4b105143a13721f46af921959d433cd12b3d22cb34531bbb2", func := "tourbillon/tourbillonlaw17.WindowRefuses", spec := "windowRefuses", unfollowed := true, recurses := true, named := ["tourbillon/isa.shapes"], apart := false, laid := [("tourbillon/isa.shapes", laid_tourbillon_isa_shapes)] }
def WindowRefusesSaid : Prop := windowRefusesRow.holds Tryd.pinned (OpenSpec.ofChange windowRefusesSpec)

/-- ITS FALSE NEIGHBOUR: 'it returns false'. Refute it at one input. -/
def windowRefusesWrong : ChangeSpec := { name := "windowRefuses", fn := fun _ => fun
  | [d1, d2, d3, d4] => { results := [.lit (.bool false)], args := [d1, d2, d3, d4] }
  | _ => none }
def WindowRefusesWrongFalsely : Prop := windowRefusesRow.holds Tryd.pinned (OpenSpec.ofChange windowRefusesWrong)

/- THE SECOND FORM. 'bulk': how many values and letters a reading holds, each counted each time it is reached (what is shared counts as often as it is met; a slice's spare places count too). A statement '..UptoSaid' is the law's where the arguments, and the package variables that the reading takes, are together of bulk at most 1048576: NARROWER than '..Said'. Prove '..Said' where nothing that the law and all that it calls make is longer than what came in: it says more and counts as full. Else prove '..UptoSaid'. A law counts once. -/
mutual
def uptoBulk {H : Type} : DataW H → Nat
  | .lit (.string bytes) => bytes.length + 1
  | .lit _ => 1
  | .nil => 1
  | .ptr d => uptoBulk d + 1
  | .slice elems spare => uptoBulkAll elems + uptoBulkAll spare + 1
  | .agg parts => uptoBulkAll parts + 1
  | .iface _ d => uptoBulk d + 1
  | .map entries => uptoBulkEntries entries + 1
  | .held _ => 1
def uptoBulkAll {H : Type} : List (DataW H) → Nat
  | [] => 0
  | d :: r => uptoBulk d + uptoBulkAll r
def uptoBulkEntries {H : Type} : List (Lit × DataW H) → Nat
  | [] => 0
  | x :: r => uptoBulkEntry x + uptoBulkEntries r
def uptoBulkEntry {H : Type} : Lit × DataW H → Nat
  | (.string bytes, d) => bytes.length + uptoBulk d + 1
  | (_, d) => uptoBulk d + 1
 end
def uptoSmall : (H : Type) → List (DataW H) → Bool := fun _ ds => decide (uptoBulkAll ds ≤ 1048576)
def OpenSpec.upto (s : _root_.Go.ChangeSpec) : _root_.Go.OpenSpec := { _root_.Go.OpenSpec.ofChange s with cond := some uptoSmall }

/-- 'tourbillonlaw17.WindowRefuses', WHERE WHAT IT READS IS OF BULK AT MOST 1048576: true; the input reads as it did. -/
def windowRefusesUptoRow : OpenClaim := { program := "ytlcjnalocidldaadoor", sum := "c1b937c2745855c4b105143a13721f46af921959d433cd12b3d22cb34531bbb2", func := "tourbillon/tourbillonlaw17.WindowRefuses", spec := "windowRefuses", unfollowed := true, recurses := true, named := ["tourbillon/isa.shapes"], apart := false, laid := [("tourbillon/isa.shapes", laid_tourbillon_isa_shapes)], narrowed := true }
def WindowRefusesUptoSaid : Prop := windowRefusesUptoRow.holds Tryd.pinned (OpenSpec.upto windowRefusesSpec)

end Rows
end Go.Proofs.YtlcjnalocidldaaDoor
