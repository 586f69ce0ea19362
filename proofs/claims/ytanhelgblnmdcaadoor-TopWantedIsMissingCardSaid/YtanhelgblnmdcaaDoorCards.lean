/-
  DERIVED. GIVEN WITH THE SEED: THE CARDS: each row of YtanhelgblnmdcaaDoorRows.lean that lists a variable, with what it lists TIED to the program's text (the seventh form; the later family's looks); each row that meets fmt, with fmt's text TOLD by the authors' own Lean function (tested against real Go, not proved from fmt's source: count such statements apart). THE CARD IS WHAT COUNTS. Prove the row's statement (the work); the ties are given (YtanhelgblnmdcaaDoorTie.lean); close each card by the builder's one call (the guide's Derived/Test/ToyasCard.lean, 'card_holds'). Laid BY PROGRAM, IN A SANDBOX (cutbox-door.mjs). By AI agents, Wed Nov 11 2026. No macro, syntax, notation, axiom, sorry.
-/
import Derived.Test.YtanhelgblnmdcaaDoorRows
import GoSem.ClaimSeven
namespace Go.Proofs.YtanhelgblnmdcaaDoor
namespace Rows

/-- THE TIED CARD OF 'smithyardtop.TopWantedIsMissing'. -/
def topWantedIsMissingCard : Claim7 := { stood := { row := topWantedIsMissingRow, standIns := [], harness := (true, "5daf0fbd5adf13aac2c8741437d4f4f8ade90a2d455a859b1aed601bbebae7bd"), looks := false }, kinds := [], alts := [], laidByText := true, laidKinds := [.data, .pinned], laidTests := true, laidLooks := .later }
def TopWantedIsMissingCardSaid : Prop := Claim7.holds Tryd.pinned (.plain (OpenSpec.ofChange topWantedIsMissingSpec)) topWantedIsMissingCard

/-- THE SECOND FORM's CARD OF 'smithyardtop.TopWantedIsMissing'. -/
def topWantedIsMissingUptoCard : Claim7 := { stood := { row := topWantedIsMissingUptoRow, standIns := [], harness := (true, "5daf0fbd5adf13aac2c8741437d4f4f8ade90a2d455a859b1aed601bbebae7bd"), looks := false }, kinds := [], alts := [], laidByText := true, laidKinds := [.data, .pinned], laidTests := true, laidLooks := .later }
def TopWantedIsMissingUptoCardSaid : Prop := Claim7.holds Tryd.pinned (.plain (OpenSpec.upto topWantedIsMissingSpec)) topWantedIsMissingUptoCard
end Rows
end Go.Proofs.YtanhelgblnmdcaaDoor
