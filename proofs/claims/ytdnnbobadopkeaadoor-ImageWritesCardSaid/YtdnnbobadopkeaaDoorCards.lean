/-
  DERIVED. GIVEN WITH THE SEED: THE CARDS: each row of YtdnnbobadopkeaaDoorRows.lean that lists a variable, with what it lists TIED to the program's text (the seventh form; the later family's looks); each row that meets fmt, with fmt's text TOLD by the authors' own Lean function (tested against real Go, not proved from fmt's source: count such statements apart). THE CARD IS WHAT COUNTS. Prove the row's statement (the work); the ties are given (YtdnnbobadopkeaaDoorTie.lean); close each card by the builder's one call (the guide's Derived/Test/ToyasCard.lean, 'card_holds'). Laid BY PROGRAM, IN A SANDBOX (cutbox-door.mjs). By AI agents, Wed Nov 11 2026. No macro, syntax, notation, axiom, sorry.
-/
import Derived.Test.YtdnnbobadopkeaaDoorRows
import GoSem.ClaimSeven
namespace Go.Proofs.YtdnnbobadopkeaaDoor
namespace Rows

/-- THE TIED CARD OF 'tourbillonlaw15.ImageReads'. -/
def imageReadsCard : Claim7 := { stood := { row := imageReadsRow, standIns := [], harness := (true, "b65bc2b3dc6d3942864c480b36d3d94dee2bc1c52e5ee4141c3dac20a8da80d1"), looks := false }, kinds := [], alts := [], laidByText := true, laidKinds := [.data], laidTests := true, laidLooks := .later }
def ImageReadsCardSaid : Prop := Claim7.holds Tryd.pinned (.plain (OpenSpec.ofChange imageReadsSpec)) imageReadsCard

/-- THE TIED CARD OF 'tourbillonlaw15.ImageOne'. -/
def imageOneCard : Claim7 := { stood := { row := imageOneRow, standIns := [], harness := (true, "b65bc2b3dc6d3942864c480b36d3d94dee2bc1c52e5ee4141c3dac20a8da80d1"), looks := false }, kinds := [], alts := [], laidByText := true, laidKinds := [.data], laidTests := true, laidLooks := .later }
def ImageOneCardSaid : Prop := Claim7.holds Tryd.pinned (.plain (OpenSpec.ofChange imageOneSpec)) imageOneCard

/-- THE TIED CARD OF 'tourbillonlaw15.ImageWrites'. -/
def imageWritesCard : Claim7 := { stood := { row := imageWritesRow, standIns := [], harness := (true, "b65bc2b3dc6d3942864c480b36d3d94dee2bc1c52e5ee4141c3dac20a8da80d1"), looks := false }, kinds := [], alts := [], laidByText := true, laidKinds := [.data, .data, .data, .data, .listed, .data, .data, .data, .pinned], laidTests := true, laidLooks := .later }
def ImageWritesCardSaid : Prop := Claim7.holds Tryd.pinned (.plain (OpenSpec.ofChange imageWritesSpec)) imageWritesCard

/-- THE SECOND FORM's CARD OF 'tourbillonlaw15.ImageReads'. -/
def imageReadsUptoCard : Claim7 := { stood := { row := imageReadsUptoRow, standIns := [], harness := (true, "b65bc2b3dc6d3942864c480b36d3d94dee2bc1c52e5ee4141c3dac20a8da80d1"), looks := false }, kinds := [], alts := [], laidByText := true, laidKinds := [.data], laidTests := true, laidLooks := .later }
def ImageReadsUptoCardSaid : Prop := Claim7.holds Tryd.pinned (.plain (OpenSpec.upto imageReadsSpec)) imageReadsUptoCard

/-- THE SECOND FORM's CARD OF 'tourbillonlaw15.ImageOne'. -/
def imageOneUptoCard : Claim7 := { stood := { row := imageOneUptoRow, standIns := [], harness := (true, "b65bc2b3dc6d3942864c480b36d3d94dee2bc1c52e5ee4141c3dac20a8da80d1"), looks := false }, kinds := [], alts := [], laidByText := true, laidKinds := [.data], laidTests := true, laidLooks := .later }
def ImageOneUptoCardSaid : Prop := Claim7.holds Tryd.pinned (.plain (OpenSpec.upto imageOneSpec)) imageOneUptoCard

/-- THE SECOND FORM's CARD OF 'tourbillonlaw15.ImageWrites'. -/
def imageWritesUptoCard : Claim7 := { stood := { row := imageWritesUptoRow, standIns := [], harness := (true, "b65bc2b3dc6d3942864c480b36d3d94dee2bc1c52e5ee4141c3dac20a8da80d1"), looks := false }, kinds := [], alts := [], laidByText := true, laidKinds := [.data, .data, .data, .data, .listed, .data, .data, .data, .pinned], laidTests := true, laidLooks := .later }
def ImageWritesUptoCardSaid : Prop := Claim7.holds Tryd.pinned (.plain (OpenSpec.upto imageWritesSpec)) imageWritesUptoCard
end Rows
end Go.Proofs.YtdnnbobadopkeaaDoor
