/-
  DERIVED. GIVEN WITH THE SEED: THE CARDS: each row of YtodnpjlpkbfhlaaDoorRows.lean that lists a variable, with what it lists TIED to the program's text (the seventh form; the later family's looks); each row that meets fmt, with fmt's text TOLD by the authors' own Lean function (tested against real Go, not proved from fmt's source: count such statements apart). THE CARD IS WHAT COUNTS. Prove the row's statement (the work); the ties are given (YtodnpjlpkbfhlaaDoorTie.lean); close each card by the builder's one call (the guide's Derived/Test/ToyasCard.lean, 'card_holds'). Laid BY PROGRAM, IN A SANDBOX (cutbox-door.mjs). By AI agents, Wed Nov 11 2026. No macro, syntax, notation, axiom, sorry.
-/
import Derived.Test.YtodnpjlpkbfhlaaDoorRows
import GoSem.ClaimSeven
namespace Go.Proofs.YtodnpjlpkbfhlaaDoor
namespace Rows

/-- THE TIED CARD OF 'smithyardlaw4.GraphOrdersStand'. -/
def graphOrdersStandCard : Claim7 := { stood := { row := graphOrdersStandRow, standIns := [], harness := (true, "a43869dcd71f151e811127c2c7dc5cdd8bb0eaf6f469017570fa1e22fe1a8375"), looks := false }, kinds := [], alts := [], laidByText := true, laidKinds := [.data, .pinned], laidTests := true, laidLooks := .later }
def GraphOrdersStandCardSaid : Prop := Claim7.holds Tryd.pinned (.plain (OpenSpec.ofChange graphOrdersStandSpec)) graphOrdersStandCard

/-- THE TIED CARD OF 'smithyardlaw4.GraphLongestIsHeaviest'. -/
def graphLongestIsHeaviestCard : Claim7 := { stood := { row := graphLongestIsHeaviestRow, standIns := [], harness := (true, "a43869dcd71f151e811127c2c7dc5cdd8bb0eaf6f469017570fa1e22fe1a8375"), looks := false }, kinds := [], alts := [], laidByText := true, laidKinds := [.data, .pinned], laidTests := true, laidLooks := .later }
def GraphLongestIsHeaviestCardSaid : Prop := Claim7.holds Tryd.pinned (.plain (OpenSpec.ofChange graphLongestIsHeaviestSpec)) graphLongestIsHeaviestCard

/-- THE TIED CARD OF 'smithyardlaw4.GraphLoopsAreLoops'. -/
def graphLoopsAreLoopsCard : Claim7 := { stood := { row := graphLoopsAreLoopsRow, standIns := [], harness := (true, "a43869dcd71f151e811127c2c7dc5cdd8bb0eaf6f469017570fa1e22fe1a8375"), looks := false }, kinds := [], alts := [], laidByText := true, laidKinds := [.data, .pinned], laidTests := true, laidLooks := .later }
def GraphLoopsAreLoopsCardSaid : Prop := Claim7.holds Tryd.pinned (.plain (OpenSpec.ofChange graphLoopsAreLoopsSpec)) graphLoopsAreLoopsCard

/-- THE TIED CARD OF 'smithyardlaw4.GraphOrdersMatchSpec'. -/
def graphOrdersMatchSpecCard : Claim7 := { stood := { row := graphOrdersMatchSpecRow, standIns := [], harness := (true, "a43869dcd71f151e811127c2c7dc5cdd8bb0eaf6f469017570fa1e22fe1a8375"), looks := false }, kinds := [], alts := [], laidByText := true, laidKinds := [.data, .pinned], laidTests := true, laidLooks := .later }
def GraphOrdersMatchSpecCardSaid : Prop := Claim7.holds Tryd.pinned (.plain (OpenSpec.ofChange graphOrdersMatchSpecSpec)) graphOrdersMatchSpecCard

/-- THE SECOND FORM's CARD OF 'smithyardlaw4.GraphOrdersStand'. -/
def graphOrdersStandUptoCard : Claim7 := { stood := { row := graphOrdersStandUptoRow, standIns := [], harness := (true, "a43869dcd71f151e811127c2c7dc5cdd8bb0eaf6f469017570fa1e22fe1a8375"), looks := false }, kinds := [], alts := [], laidByText := true, laidKinds := [.data, .pinned], laidTests := true, laidLooks := .later }
def GraphOrdersStandUptoCardSaid : Prop := Claim7.holds Tryd.pinned (.plain (OpenSpec.upto graphOrdersStandSpec)) graphOrdersStandUptoCard

/-- THE SECOND FORM's CARD OF 'smithyardlaw4.GraphLongestIsHeaviest'. -/
def graphLongestIsHeaviestUptoCard : Claim7 := { stood := { row := graphLongestIsHeaviestUptoRow, standIns := [], harness := (true, "a43869dcd71f151e811127c2c7dc5cdd8bb0eaf6f469017570fa1e22fe1a8375"), looks := false }, kinds := [], alts := [], laidByText := true, laidKinds := [.data, .pinned], laidTests := true, laidLooks := .later }
def GraphLongestIsHeaviestUptoCardSaid : Prop := Claim7.holds Tryd.pinned (.plain (OpenSpec.upto graphLongestIsHeaviestSpec)) graphLongestIsHeaviestUptoCard

/-- THE SECOND FORM's CARD OF 'smithyardlaw4.GraphLoopsAreLoops'. -/
def graphLoopsAreLoopsUptoCard : Claim7 := { stood := { row := graphLoopsAreLoopsUptoRow, standIns := [], harness := (true, "a43869dcd71f151e811127c2c7dc5cdd8bb0eaf6f469017570fa1e22fe1a8375"), looks := false }, kinds := [], alts := [], laidByText := true, laidKinds := [.data, .pinned], laidTests := true, laidLooks := .later }
def GraphLoopsAreLoopsUptoCardSaid : Prop := Claim7.holds Tryd.pinned (.plain (OpenSpec.upto graphLoopsAreLoopsSpec)) graphLoopsAreLoopsUptoCard

/-- THE SECOND FORM's CARD OF 'smithyardlaw4.GraphOrdersMatchSpec'. -/
def graphOrdersMatchSpecUptoCard : Claim7 := { stood := { row := graphOrdersMatchSpecUptoRow, standIns := [], harness := (true, "a43869dcd71f151e811127c2c7dc5cdd8bb0eaf6f469017570fa1e22fe1a8375"), looks := false }, kinds := [], alts := [], laidByText := true, laidKinds := [.data, .pinned], laidTests := true, laidLooks := .later }
def GraphOrdersMatchSpecUptoCardSaid : Prop := Claim7.holds Tryd.pinned (.plain (OpenSpec.upto graphOrdersMatchSpecSpec)) graphOrdersMatchSpecUptoCard
end Rows
end Go.Proofs.YtodnpjlpkbfhlaaDoor
