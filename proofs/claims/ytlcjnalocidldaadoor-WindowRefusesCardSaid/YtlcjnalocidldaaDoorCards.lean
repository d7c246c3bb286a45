/-
  DERIVED. GIVEN WITH THE SEED: THE CARDS: each row of YtlcjnalocidldaaDoorRows.lean that lists a variable, with what it lists TIED to the program's text (the seventh form; the later family's looks); each row that meets fmt, with fmt's text TOLD by the authors' own Lean function (tested against real Go, not proved from fmt's source: count such statements apart). THE CARD IS WHAT COUNTS. Prove the row's statement (the work); the ties are given (YtlcjnalocidldaaDoorTie.lean); close each card by the builder's one call (the guide's Derived/Test/ToyasCard.lean, 'card_holds'). Laid BY PROGRAM, IN A SANDBOX (cutbox-door.mjs). By AI agents, Wed Nov 11 2026. No macro, syntax, notation, axiom, sorry.
-/
import Derived.Test.YtlcjnalocidldaaDoorRows
import GoSem.ClaimSeven
namespace Go.Proofs.YtlcjnalocidldaaDoor
namespace Rows

/-- THE TIED CARD OF 'tourbillonlaw17.WindowRefuses'. -/
def windowRefusesCard : Claim7 := { stood := { row := windowRefusesRow, standIns := [], harness := (true, "ab524d7ccb22c4445ff236f6342b98112513a2120d9d0246f54fe7caf101f78e"), looks := false }, kinds := [], alts := [], laidByText := true, laidKinds := [.data], laidTests := true, laidLooks := .later }
def WindowRefusesCardSaid : Prop := Claim7.holds Tryd.pinned (.plain (OpenSpec.ofChange windowRefusesSpec)) windowRefusesCard

/-- THE SECOND FORM's CARD OF 'tourbillonlaw17.WindowRefuses'. -/
def windowRefusesUptoCard : Claim7 := { stood := { row := windowRefusesUptoRow, standIns := [], harness := (true, "ab524d7ccb22c4445ff236f6342b98112513a2120d9d0246f54fe7caf101f78e"), looks := false }, kinds := [], alts := [], laidByText := true, laidKinds := [.data], laidTests := true, laidLooks := .later }
def WindowRefusesUptoCardSaid : Prop := Claim7.holds Tryd.pinned (.plain (OpenSpec.upto windowRefusesSpec)) windowRefusesUptoCard
end Rows
end Go.Proofs.YtlcjnalocidldaaDoor
