/-
  DERIVED. GIVEN WITH THE SEED: THE CARDS: each row of YtjacnfjlocajoaaDoorRows.lean that lists a variable, with what it lists TIED to the program's text (the seventh form; the later family's looks); each row that meets fmt, with fmt's text TOLD by the authors' own Lean function (tested against real Go, not proved from fmt's source: count such statements apart). THE CARD IS WHAT COUNTS. Prove the row's statement (the work); the ties are given (YtjacnfjlocajoaaDoorTie.lean); close each card by the builder's one call (the guide's Derived/Test/ToyasCard.lean, 'card_holds'). Laid BY PROGRAM, IN A SANDBOX (cutbox-door.mjs). By AI agents, Wed Nov 11 2026. No macro, syntax, notation, axiom, sorry.
-/
import Derived.Test.YtjacnfjlocajoaaDoorRows
import GoSem.ClaimSeven
namespace Go.Proofs.YtjacnfjlocajoaaDoor
namespace Rows

/-- THE TIED CARD OF 'smithyardlaw8.WireTakesAgain'. -/
def wireTakesAgainCard : Claim7 := { stood := { row := wireTakesAgainRow, standIns := [], harness := (true, "54f7c8c028887fa5ee8fd9c2407dd30551f748f9c0fa38d8a78a37770dccb07f"), looks := false }, kinds := [], alts := [], laidByText := true, laidKinds := [.data, .pinned], laidTests := true, laidLooks := .later }
def WireTakesAgainCardSaid : Prop := Claim7.holds Tryd.pinned (.plain (OpenSpec.ofChange wireTakesAgainSpec)) wireTakesAgainCard

/-- THE TIED CARD OF 'smithyardlaw8.WireTakesStayRight'. -/
def wireTakesStayRightCard : Claim7 := { stood := { row := wireTakesStayRightRow, standIns := [], harness := (true, "54f7c8c028887fa5ee8fd9c2407dd30551f748f9c0fa38d8a78a37770dccb07f"), looks := false }, kinds := [], alts := [], laidByText := true, laidKinds := [.data, .pinned], laidTests := true, laidLooks := .later }
def WireTakesStayRightCardSaid : Prop := Claim7.holds Tryd.pinned (.plain (OpenSpec.ofChange wireTakesStayRightSpec)) wireTakesStayRightCard

/-- THE TIED CARD OF 'smithyardlaw8.WireMessagesArrive'. -/
def wireMessagesArriveCard : Claim7 := { stood := { row := wireMessagesArriveRow, standIns := [], harness := (true, "54f7c8c028887fa5ee8fd9c2407dd30551f748f9c0fa38d8a78a37770dccb07f"), looks := false }, kinds := [], alts := [], laidByText := true, laidKinds := [.data, .pinned], laidTests := true, laidLooks := .later }
def WireMessagesArriveCardSaid : Prop := Claim7.holds Tryd.pinned (.plain (OpenSpec.ofChange wireMessagesArriveSpec)) wireMessagesArriveCard

/-- THE TIED CARD OF 'smithyardlaw8.WireTakesMatchSpec'. -/
def wireTakesMatchSpecCard : Claim7 := { stood := { row := wireTakesMatchSpecRow, standIns := [], harness := (true, "54f7c8c028887fa5ee8fd9c2407dd30551f748f9c0fa38d8a78a37770dccb07f"), looks := false }, kinds := [], alts := [], laidByText := true, laidKinds := [.data, .pinned], laidTests := true, laidLooks := .later }
def WireTakesMatchSpecCardSaid : Prop := Claim7.holds Tryd.pinned (.plain (OpenSpec.ofChange wireTakesMatchSpecSpec)) wireTakesMatchSpecCard

/-- THE TIED CARD OF 'smithyardlaw8.WireDeliversArrive'. -/
def wireDeliversArriveCard : Claim7 := { stood := { row := wireDeliversArriveRow, standIns := [], harness := (true, "54f7c8c028887fa5ee8fd9c2407dd30551f748f9c0fa38d8a78a37770dccb07f"), looks := false }, kinds := [], alts := [], laidByText := true, laidKinds := [.data, .pinned], laidTests := true, laidLooks := .later }
def WireDeliversArriveCardSaid : Prop := Claim7.holds Tryd.pinned (.plain (OpenSpec.ofChange wireDeliversArriveSpec)) wireDeliversArriveCard

/-- THE TIED CARD OF 'smithyardlaw8.WireDeliversMatchSpec'. -/
def wireDeliversMatchSpecCard : Claim7 := { stood := { row := wireDeliversMatchSpecRow, standIns := [], harness := (true, "54f7c8c028887fa5ee8fd9c2407dd30551f748f9c0fa38d8a78a37770dccb07f"), looks := false }, kinds := [], alts := [], laidByText := true, laidKinds := [.data, .pinned], laidTests := true, laidLooks := .later }
def WireDeliversMatchSpecCardSaid : Prop := Claim7.holds Tryd.pinned (.plain (OpenSpec.ofChange wireDeliversMatchSpecSpec)) wireDeliversMatchSpecCard

/-- THE SECOND FORM's CARD OF 'smithyardlaw8.WireTakesAgain'. -/
def wireTakesAgainUptoCard : Claim7 := { stood := { row := wireTakesAgainUptoRow, standIns := [], harness := (true, "54f7c8c028887fa5ee8fd9c2407dd30551f748f9c0fa38d8a78a37770dccb07f"), looks := false }, kinds := [], alts := [], laidByText := true, laidKinds := [.data, .pinned], laidTests := true, laidLooks := .later }
def WireTakesAgainUptoCardSaid : Prop := Claim7.holds Tryd.pinned (.plain (OpenSpec.upto wireTakesAgainSpec)) wireTakesAgainUptoCard

/-- THE SECOND FORM's CARD OF 'smithyardlaw8.WireTakesStayRight'. -/
def wireTakesStayRightUptoCard : Claim7 := { stood := { row := wireTakesStayRightUptoRow, standIns := [], harness := (true, "54f7c8c028887fa5ee8fd9c2407dd30551f748f9c0fa38d8a78a37770dccb07f"), looks := false }, kinds := [], alts := [], laidByText := true, laidKinds := [.data, .pinned], laidTests := true, laidLooks := .later }
def WireTakesStayRightUptoCardSaid : Prop := Claim7.holds Tryd.pinned (.plain (OpenSpec.upto wireTakesStayRightSpec)) wireTakesStayRightUptoCard

/-- THE SECOND FORM's CARD OF 'smithyardlaw8.WireMessagesArrive'. -/
def wireMessagesArriveUptoCard : Claim7 := { stood := { row := wireMessagesArriveUptoRow, standIns := [], harness := (true, "54f7c8c028887fa5ee8fd9c2407dd30551f748f9c0fa38d8a78a37770dccb07f"), looks := false }, kinds := [], alts := [], laidByText := true, laidKinds := [.data, .pinned], laidTests := true, laidLooks := .later }
def WireMessagesArriveUptoCardSaid : Prop := Claim7.holds Tryd.pinned (.plain (OpenSpec.upto wireMessagesArriveSpec)) wireMessagesArriveUptoCard

/-- THE SECOND FORM's CARD OF 'smithyardlaw8.WireTakesMatchSpec'. -/
def wireTakesMatchSpecUptoCard : Claim7 := { stood := { row := wireTakesMatchSpecUptoRow, standIns := [], harness := (true, "54f7c8c028887fa5ee8fd9c2407dd30551f748f9c0fa38d8a78a37770dccb07f"), looks := false }, kinds := [], alts := [], laidByText := true, laidKinds := [.data, .pinned], laidTests := true, laidLooks := .later }
def WireTakesMatchSpecUptoCardSaid : Prop := Claim7.holds Tryd.pinned (.plain (OpenSpec.upto wireTakesMatchSpecSpec)) wireTakesMatchSpecUptoCard

/-- THE SECOND FORM's CARD OF 'smithyardlaw8.WireDeliversArrive'. -/
def wireDeliversArriveUptoCard : Claim7 := { stood := { row := wireDeliversArriveUptoRow, standIns := [], harness := (true, "54f7c8c028887fa5ee8fd9c2407dd30551f748f9c0fa38d8a78a37770dccb07f"), looks := false }, kinds := [], alts := [], laidByText := true, laidKinds := [.data, .pinned], laidTests := true, laidLooks := .later }
def WireDeliversArriveUptoCardSaid : Prop := Claim7.holds Tryd.pinned (.plain (OpenSpec.upto wireDeliversArriveSpec)) wireDeliversArriveUptoCard

/-- THE SECOND FORM's CARD OF 'smithyardlaw8.WireDeliversMatchSpec'. -/
def wireDeliversMatchSpecUptoCard : Claim7 := { stood := { row := wireDeliversMatchSpecUptoRow, standIns := [], harness := (true, "54f7c8c028887fa5ee8fd9c2407dd30551f748f9c0fa38d8a78a37770dccb07f"), looks := false }, kinds := [], alts := [], laidByText := true, laidKinds := [.data, .pinned], laidTests := true, laidLooks := .later }
def WireDeliversMatchSpecUptoCardSaid : Prop := Claim7.holds Tryd.pinned (.plain (OpenSpec.upto wireDeliversMatchSpecSpec)) wireDeliversMatchSpecUptoCard
end Rows
end Go.Proofs.YtjacnfjlocajoaaDoor
