/-
  DERIVED. GIVEN WITH THE SEED: THE CARDS: each row of YtchiicfnejmmbaaDoorRows.lean that lists a variable, with what it lists TIED to the program's text (the seventh form; the later family's looks); each row that meets fmt, with fmt's text TOLD by the authors' own Lean function (tested against real Go, not proved from fmt's source: count such statements apart). THE CARD IS WHAT COUNTS. Prove the row's statement (the work); the ties are given (YtchiicfnejmmbaaDoorTie.lean); close each card by the builder's one call (the guide's Derived/Test/ToyasCard.lean, 'card_holds'). Laid BY PROGRAM, IN A SANDBOX (cutbox-door.mjs). By AI agents, Wed Nov 11 2026. No macro, syntax, notation, axiom, sorry.
-/
import Derived.Test.YtchiicfnejmmbaaDoorRows
import GoSem.ClaimSeven
namespace Go.Proofs.YtchiicfnejmmbaaDoor
namespace Rows

/-- THE TIED CARD OF 'smithyardlaw7.CachePutIsThere'. -/
def cachePutIsThereCard : Claim7 := { stood := { row := cachePutIsThereRow, standIns := [], harness := (true, "99fac447fb37c5b563fb62e4ba088fa7d0c084e9f40a172b0a9916eba8ea8c00"), looks := false }, kinds := [], alts := [], laidByText := true, laidKinds := [.data, .pinned], laidTests := true, laidLooks := .later }
def CachePutIsThereCardSaid : Prop := Claim7.holds Tryd.pinned (.plain (OpenSpec.ofChange cachePutIsThereSpec)) cachePutIsThereCard

/-- THE TIED CARD OF 'smithyardlaw7.CacheFindsWhole'. -/
def cacheFindsWholeCard : Claim7 := { stood := { row := cacheFindsWholeRow, standIns := [], harness := (true, "99fac447fb37c5b563fb62e4ba088fa7d0c084e9f40a172b0a9916eba8ea8c00"), looks := false }, kinds := [], alts := [], laidByText := true, laidKinds := [.data, .pinned], laidTests := true, laidLooks := .later }
def CacheFindsWholeCardSaid : Prop := Claim7.holds Tryd.pinned (.plain (OpenSpec.ofChange cacheFindsWholeSpec)) cacheFindsWholeCard

/-- THE TIED CARD OF 'smithyardlaw7.CacheHeldStays'. -/
def cacheHeldStaysCard : Claim7 := { stood := { row := cacheHeldStaysRow, standIns := [], harness := (true, "99fac447fb37c5b563fb62e4ba088fa7d0c084e9f40a172b0a9916eba8ea8c00"), looks := false }, kinds := [], alts := [], laidByText := true, laidKinds := [.data, .pinned], laidTests := true, laidLooks := .later }
def CacheHeldStaysCardSaid : Prop := Claim7.holds Tryd.pinned (.plain (OpenSpec.ofChange cacheHeldStaysSpec)) cacheHeldStaysCard

/-- THE TIED CARD OF 'smithyardlaw7.CacheFitsCanBePut'. -/
def cacheFitsCanBePutCard : Claim7 := { stood := { row := cacheFitsCanBePutRow, standIns := [], harness := (true, "99fac447fb37c5b563fb62e4ba088fa7d0c084e9f40a172b0a9916eba8ea8c00"), looks := false }, kinds := [], alts := [], laidByText := true, laidKinds := [.data, .pinned], laidTests := true, laidLooks := .later }
def CacheFitsCanBePutCardSaid : Prop := Claim7.holds Tryd.pinned (.plain (OpenSpec.ofChange cacheFitsCanBePutSpec)) cacheFitsCanBePutCard

/-- THE SECOND FORM's CARD OF 'smithyardlaw7.CachePutIsThere'. -/
def cachePutIsThereUptoCard : Claim7 := { stood := { row := cachePutIsThereUptoRow, standIns := [], harness := (true, "99fac447fb37c5b563fb62e4ba088fa7d0c084e9f40a172b0a9916eba8ea8c00"), looks := false }, kinds := [], alts := [], laidByText := true, laidKinds := [.data, .pinned], laidTests := true, laidLooks := .later }
def CachePutIsThereUptoCardSaid : Prop := Claim7.holds Tryd.pinned (.plain (OpenSpec.upto cachePutIsThereSpec)) cachePutIsThereUptoCard

/-- THE SECOND FORM's CARD OF 'smithyardlaw7.CacheFindsWhole'. -/
def cacheFindsWholeUptoCard : Claim7 := { stood := { row := cacheFindsWholeUptoRow, standIns := [], harness := (true, "99fac447fb37c5b563fb62e4ba088fa7d0c084e9f40a172b0a9916eba8ea8c00"), looks := false }, kinds := [], alts := [], laidByText := true, laidKinds := [.data, .pinned], laidTests := true, laidLooks := .later }
def CacheFindsWholeUptoCardSaid : Prop := Claim7.holds Tryd.pinned (.plain (OpenSpec.upto cacheFindsWholeSpec)) cacheFindsWholeUptoCard

/-- THE SECOND FORM's CARD OF 'smithyardlaw7.CacheHeldStays'. -/
def cacheHeldStaysUptoCard : Claim7 := { stood := { row := cacheHeldStaysUptoRow, standIns := [], harness := (true, "99fac447fb37c5b563fb62e4ba088fa7d0c084e9f40a172b0a9916eba8ea8c00"), looks := false }, kinds := [], alts := [], laidByText := true, laidKinds := [.data, .pinned], laidTests := true, laidLooks := .later }
def CacheHeldStaysUptoCardSaid : Prop := Claim7.holds Tryd.pinned (.plain (OpenSpec.upto cacheHeldStaysSpec)) cacheHeldStaysUptoCard

/-- THE SECOND FORM's CARD OF 'smithyardlaw7.CacheFitsCanBePut'. -/
def cacheFitsCanBePutUptoCard : Claim7 := { stood := { row := cacheFitsCanBePutUptoRow, standIns := [], harness := (true, "99fac447fb37c5b563fb62e4ba088fa7d0c084e9f40a172b0a9916eba8ea8c00"), looks := false }, kinds := [], alts := [], laidByText := true, laidKinds := [.data, .pinned], laidTests := true, laidLooks := .later }
def CacheFitsCanBePutUptoCardSaid : Prop := Claim7.holds Tryd.pinned (.plain (OpenSpec.upto cacheFitsCanBePutSpec)) cacheFitsCanBePutUptoCard
end Rows
end Go.Proofs.YtchiicfnejmmbaaDoor
