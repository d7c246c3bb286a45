/-
  DERIVED. GIVEN WITH THE SEED: THE CARDS: each row of YtipebnimgbigoaaDoorRows.lean that lists a variable, with what it lists TIED to the program's text (the seventh form; the later family's looks); each row that meets fmt, with fmt's text TOLD by the authors' own Lean function (tested against real Go, not proved from fmt's source: count such statements apart). THE CARD IS WHAT COUNTS. Prove the row's statement (the work); the ties are given (YtipebnimgbigoaaDoorTie.lean); close each card by the builder's one call (the guide's Derived/Test/ToyasCard.lean, 'card_holds'). Laid BY PROGRAM, IN A SANDBOX (cutbox-door.mjs). By AI agents, Wed Nov 11 2026. No macro, syntax, notation, axiom, sorry.
-/
import Derived.Test.YtipebnimgbigoaaDoorRows
import GoSem.ClaimSeven
namespace Go.Proofs.YtipebnimgbigoaaDoor
namespace Rows

/-- THE TIED CARD OF 'tourbillonlaw02.IsaReads'. -/
def isaReadsCard : Claim7 := { stood := { row := isaReadsRow, standIns := [], harness := (true, "b3d6d68a7063cb582eeeffcf9c0c656dda2c46851ca2169e1c2e6732cfa9f473"), looks := false }, kinds := [], alts := [], laidByText := true, laidKinds := [.data], laidTests := true, laidLooks := .later }
def IsaReadsCardSaid : Prop := Claim7.holds Tryd.pinned (.plain (OpenSpec.ofChange isaReadsSpec)) isaReadsCard

/-- THE TIED CARD OF 'tourbillonlaw02.IsaBack'. -/
def isaBackCard : Claim7 := { stood := { row := isaBackRow, standIns := [], harness := (true, "b3d6d68a7063cb582eeeffcf9c0c656dda2c46851ca2169e1c2e6732cfa9f473"), looks := false }, kinds := [], alts := [], laidByText := true, laidKinds := [.data], laidTests := true, laidLooks := .later }
def IsaBackCardSaid : Prop := Claim7.holds Tryd.pinned (.plain (OpenSpec.ofChange isaBackSpec)) isaBackCard

/-- THE TIED CARD OF 'tourbillonlaw02.IsaLimits'. -/
def isaLimitsCard : Claim7 := { stood := { row := isaLimitsRow, standIns := [], harness := (true, "b3d6d68a7063cb582eeeffcf9c0c656dda2c46851ca2169e1c2e6732cfa9f473"), looks := false }, kinds := [], alts := [], laidByText := true, laidKinds := [.data], laidTests := true, laidLooks := .later }
def IsaLimitsCardSaid : Prop := Claim7.holds Tryd.pinned (.plain (OpenSpec.ofChange isaLimitsSpec)) isaLimitsCard

/-- THE TIED CARD OF 'tourbillonlaw02.IsaUses'. -/
def isaUsesCard : Claim7 := { stood := { row := isaUsesRow, standIns := [], harness := (true, "b3d6d68a7063cb582eeeffcf9c0c656dda2c46851ca2169e1c2e6732cfa9f473"), looks := false }, kinds := [], alts := [], laidByText := true, laidKinds := [.data], laidTests := true, laidLooks := .later }
def IsaUsesCardSaid : Prop := Claim7.holds Tryd.pinned (.plain (OpenSpec.ofChange isaUsesSpec)) isaUsesCard

/-- THE TIED CARD OF 'tourbillonlaw02.IsaWrites'. -/
def isaWritesCard : Claim7 := { stood := { row := isaWritesRow, standIns := [], harness := (true, "b3d6d68a7063cb582eeeffcf9c0c656dda2c46851ca2169e1c2e6732cfa9f473"), looks := false }, kinds := [], alts := [], laidByText := true, laidKinds := [.data, .data, .data, .data, .listed, .data, .data, .pinned], laidTests := true, laidLooks := .later }
def IsaWritesCardSaid : Prop := Claim7.holds Tryd.pinned (.plain (OpenSpec.ofChange isaWritesSpec)) isaWritesCard

/-- THE TIED CARD OF 'tourbillonlaw02.IsaTexts'. -/
def isaTextsCard : Claim7 := { stood := { row := isaTextsRow, standIns := [], harness := (true, "b3d6d68a7063cb582eeeffcf9c0c656dda2c46851ca2169e1c2e6732cfa9f473"), looks := false }, kinds := [], alts := [], laidByText := true, laidKinds := [.data, .data, .data, .data, .listed, .data, .data, .pinned], laidTests := true, laidLooks := .later }
def IsaTextsCardSaid : Prop := Claim7.holds Tryd.pinned (.plain (OpenSpec.ofChange isaTextsSpec)) isaTextsCard

/-- THE TIED CARD OF 'tourbillonlaw02.IsaNear'. -/
def isaNearCard : Claim7 := { stood := { row := isaNearRow, standIns := [], harness := (true, "b3d6d68a7063cb582eeeffcf9c0c656dda2c46851ca2169e1c2e6732cfa9f473"), looks := false }, kinds := [], alts := [], laidByText := true, laidKinds := [.data, .data, .data, .data, .listed, .data, .data, .pinned], laidTests := true, laidLooks := .later }
def IsaNearCardSaid : Prop := Claim7.holds Tryd.pinned (.plain (OpenSpec.ofChange isaNearSpec)) isaNearCard

/-- THE SECOND FORM's CARD OF 'tourbillonlaw02.IsaReads'. -/
def isaReadsUptoCard : Claim7 := { stood := { row := isaReadsUptoRow, standIns := [], harness := (true, "b3d6d68a7063cb582eeeffcf9c0c656dda2c46851ca2169e1c2e6732cfa9f473"), looks := false }, kinds := [], alts := [], laidByText := true, laidKinds := [.data], laidTests := true, laidLooks := .later }
def IsaReadsUptoCardSaid : Prop := Claim7.holds Tryd.pinned (.plain (OpenSpec.upto isaReadsSpec)) isaReadsUptoCard

/-- THE SECOND FORM's CARD OF 'tourbillonlaw02.IsaBack'. -/
def isaBackUptoCard : Claim7 := { stood := { row := isaBackUptoRow, standIns := [], harness := (true, "b3d6d68a7063cb582eeeffcf9c0c656dda2c46851ca2169e1c2e6732cfa9f473"), looks := false }, kinds := [], alts := [], laidByText := true, laidKinds := [.data], laidTests := true, laidLooks := .later }
def IsaBackUptoCardSaid : Prop := Claim7.holds Tryd.pinned (.plain (OpenSpec.upto isaBackSpec)) isaBackUptoCard

/-- THE SECOND FORM's CARD OF 'tourbillonlaw02.IsaLimits'. -/
def isaLimitsUptoCard : Claim7 := { stood := { row := isaLimitsUptoRow, standIns := [], harness := (true, "b3d6d68a7063cb582eeeffcf9c0c656dda2c46851ca2169e1c2e6732cfa9f473"), looks := false }, kinds := [], alts := [], laidByText := true, laidKinds := [.data], laidTests := true, laidLooks := .later }
def IsaLimitsUptoCardSaid : Prop := Claim7.holds Tryd.pinned (.plain (OpenSpec.upto isaLimitsSpec)) isaLimitsUptoCard

/-- THE SECOND FORM's CARD OF 'tourbillonlaw02.IsaUses'. -/
def isaUsesUptoCard : Claim7 := { stood := { row := isaUsesUptoRow, standIns := [], harness := (true, "b3d6d68a7063cb582eeeffcf9c0c656dda2c46851ca2169e1c2e6732cfa9f473"), looks := false }, kinds := [], alts := [], laidByText := true, laidKinds := [.data], laidTests := true, laidLooks := .later }
def IsaUsesUptoCardSaid : Prop := Claim7.holds Tryd.pinned (.plain (OpenSpec.upto isaUsesSpec)) isaUsesUptoCard

/-- THE SECOND FORM's CARD OF 'tourbillonlaw02.IsaWrites'. -/
def isaWritesUptoCard : Claim7 := { stood := { row := isaWritesUptoRow, standIns := [], harness := (true, "b3d6d68a7063cb582eeeffcf9c0c656dda2c46851ca2169e1c2e6732cfa9f473"), looks := false }, kinds := [], alts := [], laidByText := true, laidKinds := [.data, .data, .data, .data, .listed, .data, .data, .pinned], laidTests := true, laidLooks := .later }
def IsaWritesUptoCardSaid : Prop := Claim7.holds Tryd.pinned (.plain (OpenSpec.upto isaWritesSpec)) isaWritesUptoCard

/-- THE SECOND FORM's CARD OF 'tourbillonlaw02.IsaTexts'. -/
def isaTextsUptoCard : Claim7 := { stood := { row := isaTextsUptoRow, standIns := [], harness := (true, "b3d6d68a7063cb582eeeffcf9c0c656dda2c46851ca2169e1c2e6732cfa9f473"), looks := false }, kinds := [], alts := [], laidByText := true, laidKinds := [.data, .data, .data, .data, .listed, .data, .data, .pinned], laidTests := true, laidLooks := .later }
def IsaTextsUptoCardSaid : Prop := Claim7.holds Tryd.pinned (.plain (OpenSpec.upto isaTextsSpec)) isaTextsUptoCard

/-- THE SECOND FORM's CARD OF 'tourbillonlaw02.IsaNear'. -/
def isaNearUptoCard : Claim7 := { stood := { row := isaNearUptoRow, standIns := [], harness := (true, "b3d6d68a7063cb582eeeffcf9c0c656dda2c46851ca2169e1c2e6732cfa9f473"), looks := false }, kinds := [], alts := [], laidByText := true, laidKinds := [.data, .data, .data, .data, .listed, .data, .data, .pinned], laidTests := true, laidLooks := .later }
def IsaNearUptoCardSaid : Prop := Claim7.holds Tryd.pinned (.plain (OpenSpec.upto isaNearSpec)) isaNearUptoCard
end Rows
end Go.Proofs.YtipebnimgbigoaaDoor
