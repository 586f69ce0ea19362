/-
  DERIVED. GIVEN WITH THE SEED: THE CARDS: each row of YteoojplgchlhcaaDoorRows.lean that lists a variable, with what it lists TIED to the program's text (the seventh form; the later family's looks); each row that meets fmt, with fmt's text TOLD by the authors' own Lean function (tested against real Go, not proved from fmt's source: count such statements apart). THE CARD IS WHAT COUNTS. Prove the row's statement (the work); the ties are given (YteoojplgchlhcaaDoorTie.lean); close each card by the builder's one call (the guide's Derived/Test/ToyasCard.lean, 'card_holds'). Laid BY PROGRAM, IN A SANDBOX (cutbox-door.mjs). By AI agents, Wed Nov 11 2026. No macro, syntax, notation, axiom, sorry.
-/
import Derived.Test.YteoojplgchlhcaaDoorRows
import GoSem.ClaimSeven
namespace Go.Proofs.YteoojplgchlhcaaDoor
namespace Rows

/-- THE TIED CARD OF 'smithyardlaw8.WireBatchesHoldAll'. -/
def wireBatchesHoldAllCard : Claim7 := { stood := { row := wireBatchesHoldAllRow, standIns := [], harness := (true, "4c0dcc8485f97900d55528ce3d24d9f93bdb781de0a3feb585ca7c71b8e495fb"), looks := false }, kinds := [], alts := [], laidByText := true, laidKinds := [.data, .pinned], laidTests := true, laidLooks := .later }
def WireBatchesHoldAllCardSaid : Prop := Claim7.holds Tryd.pinned (.plain (OpenSpec.ofChange wireBatchesHoldAllSpec)) wireBatchesHoldAllCard

/-- THE TIED CARD OF 'smithyardlaw8.WireMessagesMatchSpec'. -/
def wireMessagesMatchSpecCard : Claim7 := { stood := { row := wireMessagesMatchSpecRow, standIns := [], harness := (true, "4c0dcc8485f97900d55528ce3d24d9f93bdb781de0a3feb585ca7c71b8e495fb"), looks := false }, kinds := [], alts := [], laidByText := true, laidKinds := [.data, .pinned], laidTests := true, laidLooks := .later }
def WireMessagesMatchSpecCardSaid : Prop := Claim7.holds Tryd.pinned (.plain (OpenSpec.ofChange wireMessagesMatchSpecSpec)) wireMessagesMatchSpecCard

/-- THE TIED CARD OF 'smithyardlaw8.WireWantedMatchesSpec'. -/
def wireWantedMatchesSpecCard : Claim7 := { stood := { row := wireWantedMatchesSpecRow, standIns := [], harness := (true, "4c0dcc8485f97900d55528ce3d24d9f93bdb781de0a3feb585ca7c71b8e495fb"), looks := false }, kinds := [], alts := [], laidByText := true, laidKinds := [.data, .pinned], laidTests := true, laidLooks := .later }
def WireWantedMatchesSpecCardSaid : Prop := Claim7.holds Tryd.pinned (.plain (OpenSpec.ofChange wireWantedMatchesSpecSpec)) wireWantedMatchesSpecCard

/-- THE TIED CARD OF 'smithyardlaw8.WireFeedMatchesSpec'. -/
def wireFeedMatchesSpecCard : Claim7 := { stood := { row := wireFeedMatchesSpecRow, standIns := [], harness := (true, "4c0dcc8485f97900d55528ce3d24d9f93bdb781de0a3feb585ca7c71b8e495fb"), looks := false }, kinds := [], alts := [], laidByText := true, laidKinds := [.data, .pinned], laidTests := true, laidLooks := .later }
def WireFeedMatchesSpecCardSaid : Prop := Claim7.holds Tryd.pinned (.plain (OpenSpec.ofChange wireFeedMatchesSpecSpec)) wireFeedMatchesSpecCard

/-- THE TIED CARD OF 'smithyardlaw8.WireFramesMatchSpec'. -/
def wireFramesMatchSpecCard : Claim7 := { stood := { row := wireFramesMatchSpecRow, standIns := [], harness := (true, "4c0dcc8485f97900d55528ce3d24d9f93bdb781de0a3feb585ca7c71b8e495fb"), looks := false }, kinds := [], alts := [], laidByText := true, laidKinds := [.data, .pinned], laidTests := true, laidLooks := .later }
def WireFramesMatchSpecCardSaid : Prop := Claim7.holds Tryd.pinned (.plain (OpenSpec.ofChange wireFramesMatchSpecSpec)) wireFramesMatchSpecCard

/-- THE TIED CARD OF 'smithyardlaw8.WireFeedInPieces'. -/
def wireFeedInPiecesCard : Claim7 := { stood := { row := wireFeedInPiecesRow, standIns := [], harness := (true, "4c0dcc8485f97900d55528ce3d24d9f93bdb781de0a3feb585ca7c71b8e495fb"), looks := false }, kinds := [], alts := [], laidByText := true, laidKinds := [.data, .pinned], laidTests := true, laidLooks := .later }
def WireFeedInPiecesCardSaid : Prop := Claim7.holds Tryd.pinned (.plain (OpenSpec.ofChange wireFeedInPiecesSpec)) wireFeedInPiecesCard

/-- THE SECOND FORM's CARD OF 'smithyardlaw8.WireBatchesHoldAll'. -/
def wireBatchesHoldAllUptoCard : Claim7 := { stood := { row := wireBatchesHoldAllUptoRow, standIns := [], harness := (true, "4c0dcc8485f97900d55528ce3d24d9f93bdb781de0a3feb585ca7c71b8e495fb"), looks := false }, kinds := [], alts := [], laidByText := true, laidKinds := [.data, .pinned], laidTests := true, laidLooks := .later }
def WireBatchesHoldAllUptoCardSaid : Prop := Claim7.holds Tryd.pinned (.plain (OpenSpec.upto wireBatchesHoldAllSpec)) wireBatchesHoldAllUptoCard

/-- THE SECOND FORM's CARD OF 'smithyardlaw8.WireMessagesMatchSpec'. -/
def wireMessagesMatchSpecUptoCard : Claim7 := { stood := { row := wireMessagesMatchSpecUptoRow, standIns := [], harness := (true, "4c0dcc8485f97900d55528ce3d24d9f93bdb781de0a3feb585ca7c71b8e495fb"), looks := false }, kinds := [], alts := [], laidByText := true, laidKinds := [.data, .pinned], laidTests := true, laidLooks := .later }
def WireMessagesMatchSpecUptoCardSaid : Prop := Claim7.holds Tryd.pinned (.plain (OpenSpec.upto wireMessagesMatchSpecSpec)) wireMessagesMatchSpecUptoCard

/-- THE SECOND FORM's CARD OF 'smithyardlaw8.WireWantedMatchesSpec'. -/
def wireWantedMatchesSpecUptoCard : Claim7 := { stood := { row := wireWantedMatchesSpecUptoRow, standIns := [], harness := (true, "4c0dcc8485f97900d55528ce3d24d9f93bdb781de0a3feb585ca7c71b8e495fb"), looks := false }, kinds := [], alts := [], laidByText := true, laidKinds := [.data, .pinned], laidTests := true, laidLooks := .later }
def WireWantedMatchesSpecUptoCardSaid : Prop := Claim7.holds Tryd.pinned (.plain (OpenSpec.upto wireWantedMatchesSpecSpec)) wireWantedMatchesSpecUptoCard

/-- THE SECOND FORM's CARD OF 'smithyardlaw8.WireFeedMatchesSpec'. -/
def wireFeedMatchesSpecUptoCard : Claim7 := { stood := { row := wireFeedMatchesSpecUptoRow, standIns := [], harness := (true, "4c0dcc8485f97900d55528ce3d24d9f93bdb781de0a3feb585ca7c71b8e495fb"), looks := false }, kinds := [], alts := [], laidByText := true, laidKinds := [.data, .pinned], laidTests := true, laidLooks := .later }
def WireFeedMatchesSpecUptoCardSaid : Prop := Claim7.holds Tryd.pinned (.plain (OpenSpec.upto wireFeedMatchesSpecSpec)) wireFeedMatchesSpecUptoCard

/-- THE SECOND FORM's CARD OF 'smithyardlaw8.WireFramesMatchSpec'. -/
def wireFramesMatchSpecUptoCard : Claim7 := { stood := { row := wireFramesMatchSpecUptoRow, standIns := [], harness := (true, "4c0dcc8485f97900d55528ce3d24d9f93bdb781de0a3feb585ca7c71b8e495fb"), looks := false }, kinds := [], alts := [], laidByText := true, laidKinds := [.data, .pinned], laidTests := true, laidLooks := .later }
def WireFramesMatchSpecUptoCardSaid : Prop := Claim7.holds Tryd.pinned (.plain (OpenSpec.upto wireFramesMatchSpecSpec)) wireFramesMatchSpecUptoCard

/-- THE SECOND FORM's CARD OF 'smithyardlaw8.WireFeedInPieces'. -/
def wireFeedInPiecesUptoCard : Claim7 := { stood := { row := wireFeedInPiecesUptoRow, standIns := [], harness := (true, "4c0dcc8485f97900d55528ce3d24d9f93bdb781de0a3feb585ca7c71b8e495fb"), looks := false }, kinds := [], alts := [], laidByText := true, laidKinds := [.data, .pinned], laidTests := true, laidLooks := .later }
def WireFeedInPiecesUptoCardSaid : Prop := Claim7.holds Tryd.pinned (.plain (OpenSpec.upto wireFeedInPiecesSpec)) wireFeedInPiecesUptoCard
end Rows
end Go.Proofs.YteoojplgchlhcaaDoor
