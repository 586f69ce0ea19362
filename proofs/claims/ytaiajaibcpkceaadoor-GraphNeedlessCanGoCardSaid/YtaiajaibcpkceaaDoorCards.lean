/-
  DERIVED. GIVEN WITH THE SEED: THE CARDS: each row of YtaiajaibcpkceaaDoorRows.lean that lists a variable, with what it lists TIED to the program's text (the seventh form; the later family's looks); each row that meets fmt, with fmt's text TOLD by the authors' own Lean function (tested against real Go, not proved from fmt's source: count such statements apart). THE CARD IS WHAT COUNTS. Prove the row's statement (the work); the ties are given (YtaiajaibcpkceaaDoorTie.lean); close each card by the builder's one call (the guide's Derived/Test/ToyasCard.lean, 'card_holds'). Laid BY PROGRAM, IN A SANDBOX (cutbox-door.mjs). By AI agents, Wed Nov 11 2026. No macro, syntax, notation, axiom, sorry.
-/
import Derived.Test.YtaiajaibcpkceaaDoorRows
import GoSem.ClaimSeven
namespace Go.Proofs.YtaiajaibcpkceaaDoor
namespace Rows

/-- THE TIED CARD OF 'smithyardlaw4.GraphLongestIsHeaviest'. -/
def graphLongestIsHeaviestCard : Claim7 := { stood := { row := graphLongestIsHeaviestRow, standIns := [], harness := (true, "66708cee0df4aee1cc037c0bb0b23abfdedf63f5f9d47c2f24e9936568e81435"), looks := false }, kinds := [], alts := [], laidByText := true, laidKinds := [.data, .pinned], laidTests := true, laidLooks := .later }
def GraphLongestIsHeaviestCardSaid : Prop := Claim7.holds Tryd.pinned (.plain (OpenSpec.ofChange graphLongestIsHeaviestSpec)) graphLongestIsHeaviestCard

/-- THE TIED CARD OF 'smithyardlaw4.GraphLoopsAreLoops'. -/
def graphLoopsAreLoopsCard : Claim7 := { stood := { row := graphLoopsAreLoopsRow, standIns := [], harness := (true, "66708cee0df4aee1cc037c0bb0b23abfdedf63f5f9d47c2f24e9936568e81435"), looks := false }, kinds := [], alts := [], laidByText := true, laidKinds := [.data, .pinned], laidTests := true, laidLooks := .later }
def GraphLoopsAreLoopsCardSaid : Prop := Claim7.holds Tryd.pinned (.plain (OpenSpec.ofChange graphLoopsAreLoopsSpec)) graphLoopsAreLoopsCard

/-- THE TIED CARD OF 'smithyardlaw4.GraphAffectedSpreads'. -/
def graphAffectedSpreadsCard : Claim7 := { stood := { row := graphAffectedSpreadsRow, standIns := [], harness := (true, "66708cee0df4aee1cc037c0bb0b23abfdedf63f5f9d47c2f24e9936568e81435"), looks := false }, kinds := [], alts := [], laidByText := true, laidKinds := [.data, .pinned], laidTests := true, laidLooks := .later }
def GraphAffectedSpreadsCardSaid : Prop := Claim7.holds Tryd.pinned (.plain (OpenSpec.ofChange graphAffectedSpreadsSpec)) graphAffectedSpreadsCard

/-- THE TIED CARD OF 'smithyardlaw4.GraphNeedsTurn'. -/
def graphNeedsTurnCard : Claim7 := { stood := { row := graphNeedsTurnRow, standIns := [], harness := (true, "66708cee0df4aee1cc037c0bb0b23abfdedf63f5f9d47c2f24e9936568e81435"), looks := false }, kinds := [], alts := [], laidByText := true, laidKinds := [.data, .pinned], laidTests := true, laidLooks := .later }
def GraphNeedsTurnCardSaid : Prop := Claim7.holds Tryd.pinned (.plain (OpenSpec.ofChange graphNeedsTurnSpec)) graphNeedsTurnCard

/-- THE TIED CARD OF 'smithyardlaw4.GraphWaysAreWays'. -/
def graphWaysAreWaysCard : Claim7 := { stood := { row := graphWaysAreWaysRow, standIns := [], harness := (true, "66708cee0df4aee1cc037c0bb0b23abfdedf63f5f9d47c2f24e9936568e81435"), looks := false }, kinds := [], alts := [], laidByText := true, laidKinds := [.data, .pinned], laidTests := true, laidLooks := .later }
def GraphWaysAreWaysCardSaid : Prop := Claim7.holds Tryd.pinned (.plain (OpenSpec.ofChange graphWaysAreWaysSpec)) graphWaysAreWaysCard

/-- THE TIED CARD OF 'smithyardlaw4.GraphNeedlessCanGo'. -/
def graphNeedlessCanGoCard : Claim7 := { stood := { row := graphNeedlessCanGoRow, standIns := [], harness := (true, "66708cee0df4aee1cc037c0bb0b23abfdedf63f5f9d47c2f24e9936568e81435"), looks := false }, kinds := [], alts := [], laidByText := true, laidKinds := [.data, .pinned], laidTests := true, laidLooks := .later }
def GraphNeedlessCanGoCardSaid : Prop := Claim7.holds Tryd.pinned (.plain (OpenSpec.ofChange graphNeedlessCanGoSpec)) graphNeedlessCanGoCard

/-- THE SECOND FORM's CARD OF 'smithyardlaw4.GraphLongestIsHeaviest'. -/
def graphLongestIsHeaviestUptoCard : Claim7 := { stood := { row := graphLongestIsHeaviestUptoRow, standIns := [], harness := (true, "66708cee0df4aee1cc037c0bb0b23abfdedf63f5f9d47c2f24e9936568e81435"), looks := false }, kinds := [], alts := [], laidByText := true, laidKinds := [.data, .pinned], laidTests := true, laidLooks := .later }
def GraphLongestIsHeaviestUptoCardSaid : Prop := Claim7.holds Tryd.pinned (.plain (OpenSpec.upto graphLongestIsHeaviestSpec)) graphLongestIsHeaviestUptoCard

/-- THE SECOND FORM's CARD OF 'smithyardlaw4.GraphLoopsAreLoops'. -/
def graphLoopsAreLoopsUptoCard : Claim7 := { stood := { row := graphLoopsAreLoopsUptoRow, standIns := [], harness := (true, "66708cee0df4aee1cc037c0bb0b23abfdedf63f5f9d47c2f24e9936568e81435"), looks := false }, kinds := [], alts := [], laidByText := true, laidKinds := [.data, .pinned], laidTests := true, laidLooks := .later }
def GraphLoopsAreLoopsUptoCardSaid : Prop := Claim7.holds Tryd.pinned (.plain (OpenSpec.upto graphLoopsAreLoopsSpec)) graphLoopsAreLoopsUptoCard

/-- THE SECOND FORM's CARD OF 'smithyardlaw4.GraphAffectedSpreads'. -/
def graphAffectedSpreadsUptoCard : Claim7 := { stood := { row := graphAffectedSpreadsUptoRow, standIns := [], harness := (true, "66708cee0df4aee1cc037c0bb0b23abfdedf63f5f9d47c2f24e9936568e81435"), looks := false }, kinds := [], alts := [], laidByText := true, laidKinds := [.data, .pinned], laidTests := true, laidLooks := .later }
def GraphAffectedSpreadsUptoCardSaid : Prop := Claim7.holds Tryd.pinned (.plain (OpenSpec.upto graphAffectedSpreadsSpec)) graphAffectedSpreadsUptoCard

/-- THE SECOND FORM's CARD OF 'smithyardlaw4.GraphNeedsTurn'. -/
def graphNeedsTurnUptoCard : Claim7 := { stood := { row := graphNeedsTurnUptoRow, standIns := [], harness := (true, "66708cee0df4aee1cc037c0bb0b23abfdedf63f5f9d47c2f24e9936568e81435"), looks := false }, kinds := [], alts := [], laidByText := true, laidKinds := [.data, .pinned], laidTests := true, laidLooks := .later }
def GraphNeedsTurnUptoCardSaid : Prop := Claim7.holds Tryd.pinned (.plain (OpenSpec.upto graphNeedsTurnSpec)) graphNeedsTurnUptoCard

/-- THE SECOND FORM's CARD OF 'smithyardlaw4.GraphWaysAreWays'. -/
def graphWaysAreWaysUptoCard : Claim7 := { stood := { row := graphWaysAreWaysUptoRow, standIns := [], harness := (true, "66708cee0df4aee1cc037c0bb0b23abfdedf63f5f9d47c2f24e9936568e81435"), looks := false }, kinds := [], alts := [], laidByText := true, laidKinds := [.data, .pinned], laidTests := true, laidLooks := .later }
def GraphWaysAreWaysUptoCardSaid : Prop := Claim7.holds Tryd.pinned (.plain (OpenSpec.upto graphWaysAreWaysSpec)) graphWaysAreWaysUptoCard

/-- THE SECOND FORM's CARD OF 'smithyardlaw4.GraphNeedlessCanGo'. -/
def graphNeedlessCanGoUptoCard : Claim7 := { stood := { row := graphNeedlessCanGoUptoRow, standIns := [], harness := (true, "66708cee0df4aee1cc037c0bb0b23abfdedf63f5f9d47c2f24e9936568e81435"), looks := false }, kinds := [], alts := [], laidByText := true, laidKinds := [.data, .pinned], laidTests := true, laidLooks := .later }
def GraphNeedlessCanGoUptoCardSaid : Prop := Claim7.holds Tryd.pinned (.plain (OpenSpec.upto graphNeedlessCanGoSpec)) graphNeedlessCanGoUptoCard
end Rows
end Go.Proofs.YtaiajaibcpkceaaDoor
