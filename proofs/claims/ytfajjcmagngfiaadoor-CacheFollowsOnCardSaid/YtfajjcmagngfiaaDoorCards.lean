/-
  DERIVED. GIVEN WITH THE SEED: THE CARDS: each row of YtfajjcmagngfiaaDoorRows.lean that lists a variable, with what it lists TIED to the program's text (the seventh form; the later family's looks); each row that meets fmt, with fmt's text TOLD by the authors' own Lean function (tested against real Go, not proved from fmt's source: count such statements apart). THE CARD IS WHAT COUNTS. Prove the row's statement (the work); the ties are given (YtfajjcmagngfiaaDoorTie.lean); close each card by the builder's one call (the guide's Derived/Test/ToyasCard.lean, 'card_holds'). Laid BY PROGRAM, IN A SANDBOX (cutbox-door.mjs). By AI agents, Wed Nov 11 2026. No macro, syntax, notation, axiom, sorry.
-/
import Derived.Test.YtfajjcmagngfiaaDoorRows
import GoSem.ClaimSeven
namespace Go.Proofs.YtfajjcmagngfiaaDoor
namespace Rows

/-- THE TIED CARD OF 'smithyardlaw7.CacheFollowsOn'. -/
def cacheFollowsOnCard : Claim7 := { stood := { row := cacheFollowsOnRow, standIns := [], harness := (true, "a8afb87f17126936ee6451f3b18005716256e592f8350f9674a7db9f97191d11"), looks := false }, kinds := [], alts := [], laidByText := true, laidKinds := [.data, .pinned], laidTests := true, laidLooks := .later }
def CacheFollowsOnCardSaid : Prop := Claim7.holds Tryd.pinned (.plain (OpenSpec.ofChange cacheFollowsOnSpec)) cacheFollowsOnCard

/-- THE SECOND FORM's CARD OF 'smithyardlaw7.CacheFollowsOn'. -/
def cacheFollowsOnUptoCard : Claim7 := { stood := { row := cacheFollowsOnUptoRow, standIns := [], harness := (true, "a8afb87f17126936ee6451f3b18005716256e592f8350f9674a7db9f97191d11"), looks := false }, kinds := [], alts := [], laidByText := true, laidKinds := [.data, .pinned], laidTests := true, laidLooks := .later }
def CacheFollowsOnUptoCardSaid : Prop := Claim7.holds Tryd.pinned (.plain (OpenSpec.upto cacheFollowsOnSpec)) cacheFollowsOnUptoCard
end Rows
end Go.Proofs.YtfajjcmagngfiaaDoor
