/-
  DERIVED. GIVEN WITH THE SEED: THE CARDS: each row of YtfajjcmagngfiaaGreatDoorRows.lean that lists a variable, with what it lists TIED to the program's text (the seventh form; the later family's looks); each row that meets fmt, with fmt's text TOLD by the authors' own Lean function (tested against real Go, not proved from fmt's source: count such statements apart). THE CARD IS WHAT COUNTS. Prove the row's statement (the work); the ties are given (YtfajjcmagngfiaaGreatDoorTie.lean); close each card by the builder's one call (the guide's Derived/Test/ToyasCard.lean, 'card_holds'). Laid BY PROGRAM, IN A SANDBOX (cutbox-door.mjs). By AI agents, Wed Nov 11 2026. No macro, syntax, notation, axiom, sorry.
-/
import Derived.Test.YtfajjcmagngfiaaGreatDoorRows
import GoSem.ClaimSeven
namespace Go.Proofs.YtfajjcmagngfiaaGreatDoor
namespace Rows

/-- THE TIED CARD OF 'smithyardlaw7.CacheDoesMatchSpec'. -/
def cacheDoesMatchSpecCard : Claim7 := { stood := { row := cacheDoesMatchSpecRow, standIns := [], harness := (true, "0ce869bf099cb247f10570ec7ad7d26a09b7684bbb4b76900fcdfb3eb7ed2151"), looks := false }, kinds := [], alts := [], laidByText := true, laidKinds := [.data, .pinned], laidTests := true, laidLooks := .later }
def CacheDoesMatchSpecCardSaid : Prop := Claim7.holds Tryz.pinned (.plain (OpenSpec.ofChange cacheDoesMatchSpecSpec)) cacheDoesMatchSpecCard

/-- THE TIED CARD OF 'smithyardlaw7.CacheFollowsMatchSpec'. -/
def cacheFollowsMatchSpecCard : Claim7 := { stood := { row := cacheFollowsMatchSpecRow, standIns := [], harness := (true, "0ce869bf099cb247f10570ec7ad7d26a09b7684bbb4b76900fcdfb3eb7ed2151"), looks := false }, kinds := [], alts := [], laidByText := true, laidKinds := [.data, .pinned], laidTests := true, laidLooks := .later }
def CacheFollowsMatchSpecCardSaid : Prop := Claim7.holds Tryz.pinned (.plain (OpenSpec.ofChange cacheFollowsMatchSpecSpec)) cacheFollowsMatchSpecCard

/-- THE SECOND FORM's CARD OF 'smithyardlaw7.CacheDoesMatchSpec'. -/
def cacheDoesMatchSpecUptoCard : Claim7 := { stood := { row := cacheDoesMatchSpecUptoRow, standIns := [], harness := (true, "0ce869bf099cb247f10570ec7ad7d26a09b7684bbb4b76900fcdfb3eb7ed2151"), looks := false }, kinds := [], alts := [], laidByText := true, laidKinds := [.data, .pinned], laidTests := true, laidLooks := .later }
def CacheDoesMatchSpecUptoCardSaid : Prop := Claim7.holds Tryz.pinned (.plain (OpenSpec.upto cacheDoesMatchSpecSpec)) cacheDoesMatchSpecUptoCard

/-- THE SECOND FORM's CARD OF 'smithyardlaw7.CacheFollowsMatchSpec'. -/
def cacheFollowsMatchSpecUptoCard : Claim7 := { stood := { row := cacheFollowsMatchSpecUptoRow, standIns := [], harness := (true, "0ce869bf099cb247f10570ec7ad7d26a09b7684bbb4b76900fcdfb3eb7ed2151"), looks := false }, kinds := [], alts := [], laidByText := true, laidKinds := [.data, .pinned], laidTests := true, laidLooks := .later }
def CacheFollowsMatchSpecUptoCardSaid : Prop := Claim7.holds Tryz.pinned (.plain (OpenSpec.upto cacheFollowsMatchSpecSpec)) cacheFollowsMatchSpecUptoCard
end Rows
end Go.Proofs.YtfajjcmagngfiaaGreatDoor
