/-
  DERIVED. GIVEN WITH THE SEED: THE CARDS: each row of YthniagdphhcnkaaGreatDoorRows.lean that lists a variable, with what it lists TIED to the program's text (the seventh form; the later family's looks); each row that meets fmt, with fmt's text TOLD by the authors' own Lean function (tested against real Go, not proved from fmt's source: count such statements apart). THE CARD IS WHAT COUNTS. Prove the row's statement (the work); the ties are given (YthniagdphhcnkaaGreatDoorTie.lean); close each card by the builder's one call (the guide's Derived/Test/ToyasCard.lean, 'card_holds'). Laid BY PROGRAM, IN A SANDBOX (cutbox-door.mjs). By AI agents, Wed Nov 11 2026. No macro, syntax, notation, axiom, sorry.
-/
import Derived.Test.YthniagdphhcnkaaGreatDoorRows
import GoSem.ClaimSeven
namespace Go.Proofs.YthniagdphhcnkaaGreatDoor
namespace Rows

/-- THE TIED CARD OF 'smithyardlaw7.CacheTextsMatchSpec'. -/
def cacheTextsMatchSpecCard : Claim7 := { stood := { row := cacheTextsMatchSpecRow, standIns := [], harness := (true, "ec0a090ae5aeda50ce7263e7e0bb1514ebf562a2cd12cfa2fde96b3aadb6aedc"), looks := true }, kinds := [], alts := [], laidByText := true, laidKinds := [.data, .data, .data, .data, .sentinel, .sentinel, .pinned], laidTests := true, laidLooks := .later }
def CacheTextsMatchSpecCardSaid : Prop := Claim7.holds Tryz.pinned (.plain (OpenSpec.ofChange cacheTextsMatchSpecSpec)) cacheTextsMatchSpecCard

/-- THE SECOND FORM's CARD OF 'smithyardlaw7.CacheTextsMatchSpec'. -/
def cacheTextsMatchSpecUptoCard : Claim7 := { stood := { row := cacheTextsMatchSpecUptoRow, standIns := [], harness := (true, "ec0a090ae5aeda50ce7263e7e0bb1514ebf562a2cd12cfa2fde96b3aadb6aedc"), looks := true }, kinds := [], alts := [], laidByText := true, laidKinds := [.data, .data, .data, .data, .sentinel, .sentinel, .pinned], laidTests := true, laidLooks := .later }
def CacheTextsMatchSpecUptoCardSaid : Prop := Claim7.holds Tryz.pinned (.plain (OpenSpec.upto cacheTextsMatchSpecSpec)) cacheTextsMatchSpecUptoCard
end Rows
end Go.Proofs.YthniagdphhcnkaaGreatDoor
