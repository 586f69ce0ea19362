/-
  DERIVED. GIVEN WITH THE SEED: THE CARDS: each row of YtagkdifaldikgaaGreatDoorRows.lean that lists a variable, with what it lists TIED to the program's text (the seventh form; the later family's looks); each row that meets fmt, with fmt's text TOLD by the authors' own Lean function (tested against real Go, not proved from fmt's source: count such statements apart). THE CARD IS WHAT COUNTS. Prove the row's statement (the work); the ties are given (YtagkdifaldikgaaGreatDoorTie.lean); close each card by the builder's one call (the guide's Derived/Test/ToyasCard.lean, 'card_holds'). Laid BY PROGRAM, IN A SANDBOX (cutbox-door.mjs). By AI agents, Wed Nov 11 2026. No macro, syntax, notation, axiom, sorry.
-/
import Derived.Test.YtagkdifaldikgaaGreatDoorRows
import GoSem.ClaimSeven
namespace Go.Proofs.YtagkdifaldikgaaGreatDoor
namespace Rows

/-- THE TIED CARD OF 'smithyardlaw4.QueriesComeBack'. -/
def queriesComeBackCard : Claim7 := { stood := { row := queriesComeBackRow, standIns := [], harness := (true, "90fec5a8cd3fa292cd6096ccf261005dca92f1fc98f2d7f68d9d77086d7da20d"), looks := true }, kinds := [], alts := [], laidByText := true, laidKinds := [.data, .data, .data, .data, .sentinel, .sentinel, .pinned], laidTests := true, laidLooks := .later }
def QueriesComeBackCardSaid : Prop := Claim7.holds Tryz.pinned (.plain (OpenSpec.ofChange queriesComeBackSpec)) queriesComeBackCard

/-- THE SECOND FORM's CARD OF 'smithyardlaw4.QueriesComeBack'. -/
def queriesComeBackUptoCard : Claim7 := { stood := { row := queriesComeBackUptoRow, standIns := [], harness := (true, "90fec5a8cd3fa292cd6096ccf261005dca92f1fc98f2d7f68d9d77086d7da20d"), looks := true }, kinds := [], alts := [], laidByText := true, laidKinds := [.data, .data, .data, .data, .sentinel, .sentinel, .pinned], laidTests := true, laidLooks := .later }
def QueriesComeBackUptoCardSaid : Prop := Claim7.holds Tryz.pinned (.plain (OpenSpec.upto queriesComeBackSpec)) queriesComeBackUptoCard
end Rows
end Go.Proofs.YtagkdifaldikgaaGreatDoor
