/-
  DERIVED. GIVEN WITH THE SEED: THE CARDS: each row of YtoefpigdafjcdaaDoorRows.lean that lists a variable, with what it lists TIED to the program's text (the seventh form; the later family's looks); each row that meets fmt, with fmt's text TOLD by the authors' own Lean function (tested against real Go, not proved from fmt's source: count such statements apart). THE CARD IS WHAT COUNTS. Prove the row's statement (the work); the ties are given (YtoefpigdafjcdaaDoorTie.lean); close each card by the builder's one call (the guide's Derived/Test/ToyasCard.lean, 'card_holds'). Laid BY PROGRAM, IN A SANDBOX (cutbox-door.mjs). By AI agents, Wed Nov 11 2026. No macro, syntax, notation, axiom, sorry.
-/
import Derived.Test.YtoefpigdafjcdaaDoorRows
import GoSem.ClaimSeven
namespace Go.Proofs.YtoefpigdafjcdaaDoor
namespace Rows

/-- THE TIED CARD OF 'tourbillonlaw08.IrText'. -/
def irTextCard : Claim7 := { stood := { row := irTextRow, standIns := [], harness := (true, "0b918efe9f82c9ccad572253c713d496c004e8cca4b0b1efe8a91add2d1d581a"), looks := false }, kinds := [], alts := [], laidByText := true, laidKinds := [.data, .data, .data, .data], laidTests := true, laidLooks := .later }
def IrTextCardSaid : Prop := Claim7.holds Tryd.pinned (.plain (OpenSpec.ofChange irTextSpec)) irTextCard

/-- THE TIED CARD OF 'tourbillonlaw08.IrParts'. -/
def irPartsCard : Claim7 := { stood := { row := irPartsRow, standIns := [], harness := (true, "0b918efe9f82c9ccad572253c713d496c004e8cca4b0b1efe8a91add2d1d581a"), looks := false }, kinds := [], alts := [], laidByText := true, laidKinds := [.data, .data, .data, .data], laidTests := true, laidLooks := .later }
def IrPartsCardSaid : Prop := Claim7.holds Tryd.pinned (.plain (OpenSpec.ofChange irPartsSpec)) irPartsCard

/-- THE SECOND FORM's CARD OF 'tourbillonlaw08.IrText'. -/
def irTextUptoCard : Claim7 := { stood := { row := irTextUptoRow, standIns := [], harness := (true, "0b918efe9f82c9ccad572253c713d496c004e8cca4b0b1efe8a91add2d1d581a"), looks := false }, kinds := [], alts := [], laidByText := true, laidKinds := [.data, .data, .data, .data], laidTests := true, laidLooks := .later }
def IrTextUptoCardSaid : Prop := Claim7.holds Tryd.pinned (.plain (OpenSpec.upto irTextSpec)) irTextUptoCard

/-- THE SECOND FORM's CARD OF 'tourbillonlaw08.IrParts'. -/
def irPartsUptoCard : Claim7 := { stood := { row := irPartsUptoRow, standIns := [], harness := (true, "0b918efe9f82c9ccad572253c713d496c004e8cca4b0b1efe8a91add2d1d581a"), looks := false }, kinds := [], alts := [], laidByText := true, laidKinds := [.data, .data, .data, .data], laidTests := true, laidLooks := .later }
def IrPartsUptoCardSaid : Prop := Claim7.holds Tryd.pinned (.plain (OpenSpec.upto irPartsSpec)) irPartsUptoCard
end Rows
end Go.Proofs.YtoefpigdafjcdaaDoor
