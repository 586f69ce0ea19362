/-
  DERIVED. GIVEN WITH THE SEED: THE CARDS: each row of YticefeanlicapaaDoorRows.lean that lists a variable, with what it lists TIED to the program's text (the seventh form; the later family's looks); each row that meets fmt, with fmt's text TOLD by the authors' own Lean function (tested against real Go, not proved from fmt's source: count such statements apart). THE CARD IS WHAT COUNTS. Prove the row's statement (the work); the ties are given (YticefeanlicapaaDoorTie.lean); close each card by the builder's one call (the guide's Derived/Test/ToyasCard.lean, 'card_holds'). Laid BY PROGRAM, IN A SANDBOX (cutbox-door.mjs). By AI agents, Wed Nov 11 2026. No macro, syntax, notation, axiom, sorry.
-/
import Derived.Test.YticefeanlicapaaDoorRows
import GoSem.ClaimSeven
namespace Go.Proofs.YticefeanlicapaaDoor
namespace Rows

/-- THE TIED CARD OF 'smithyardlaw4.QueriesAreSets'. -/
def queriesAreSetsCard : Claim7 := { stood := { row := queriesAreSetsRow, standIns := [], harness := (true, "5482065f25a678351ddf899e1ee58923817015ded9ead95f5ea43ab0e1b99c77"), looks := false }, kinds := [], alts := [], laidByText := true, laidKinds := [.data, .pinned], laidTests := true, laidLooks := .later }
def QueriesAreSetsCardSaid : Prop := Claim7.holds Tryd.pinned (.plain (OpenSpec.ofChange queriesAreSetsSpec)) queriesAreSetsCard

/-- THE SECOND FORM's CARD OF 'smithyardlaw4.QueriesAreSets'. -/
def queriesAreSetsUptoCard : Claim7 := { stood := { row := queriesAreSetsUptoRow, standIns := [], harness := (true, "5482065f25a678351ddf899e1ee58923817015ded9ead95f5ea43ab0e1b99c77"), looks := false }, kinds := [], alts := [], laidByText := true, laidKinds := [.data, .pinned], laidTests := true, laidLooks := .later }
def QueriesAreSetsUptoCardSaid : Prop := Claim7.holds Tryd.pinned (.plain (OpenSpec.upto queriesAreSetsSpec)) queriesAreSetsUptoCard
end Rows
end Go.Proofs.YticefeanlicapaaDoor
