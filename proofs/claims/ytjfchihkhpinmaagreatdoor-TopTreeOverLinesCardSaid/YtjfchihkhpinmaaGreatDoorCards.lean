/-
  DERIVED. GIVEN WITH THE SEED: THE CARDS: each row of YtjfchihkhpinmaaGreatDoorRows.lean that lists a variable, with what it lists TIED to the program's text (the seventh form; the later family's looks); each row that meets fmt, with fmt's text TOLD by the authors' own Lean function (tested against real Go, not proved from fmt's source: count such statements apart). THE CARD IS WHAT COUNTS. Prove the row's statement (the work); the ties are given (YtjfchihkhpinmaaGreatDoorTie.lean); close each card by the builder's one call (the guide's Derived/Test/ToyasCard.lean, 'card_holds'). Laid BY PROGRAM, IN A SANDBOX (cutbox-door.mjs). By AI agents, Wed Nov 11 2026. No macro, syntax, notation, axiom, sorry.
-/
import Derived.Test.YtjfchihkhpinmaaGreatDoorRows
import GoSem.ClaimSeven
namespace Go.Proofs.YtjfchihkhpinmaaGreatDoor
namespace Rows

/-- THE TIED CARD OF 'smithyardtop.TopTreeOverLines'. -/
def topTreeOverLinesCard : Claim7 := { stood := { row := topTreeOverLinesRow, standIns := [], harness := (true, "94afc10fabbf6a2084a880e37a8ae801aa561e7876bd02bc70d89eae987bef5d"), looks := false }, kinds := [], alts := [], laidByText := true, laidKinds := [.data, .pinned], laidTests := true, laidLooks := .later }
def TopTreeOverLinesCardSaid : Prop := Claim7.holds Tryz.pinned (.plain (OpenSpec.ofChange topTreeOverLinesSpec)) topTreeOverLinesCard

/-- THE SECOND FORM's CARD OF 'smithyardtop.TopTreeOverLines'. -/
def topTreeOverLinesUptoCard : Claim7 := { stood := { row := topTreeOverLinesUptoRow, standIns := [], harness := (true, "94afc10fabbf6a2084a880e37a8ae801aa561e7876bd02bc70d89eae987bef5d"), looks := false }, kinds := [], alts := [], laidByText := true, laidKinds := [.data, .pinned], laidTests := true, laidLooks := .later }
def TopTreeOverLinesUptoCardSaid : Prop := Claim7.holds Tryz.pinned (.plain (OpenSpec.upto topTreeOverLinesSpec)) topTreeOverLinesUptoCard
end Rows
end Go.Proofs.YtjfchihkhpinmaaGreatDoor
