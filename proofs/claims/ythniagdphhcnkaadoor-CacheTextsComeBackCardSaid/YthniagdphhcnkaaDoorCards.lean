/-
  DERIVED. GIVEN WITH THE SEED: THE CARDS: each row of YthniagdphhcnkaaDoorRows.lean that lists a variable, with what it lists TIED to the program's text (the seventh form; the later family's looks); each row that meets fmt, with fmt's text TOLD by the authors' own Lean function (tested against real Go, not proved from fmt's source: count such statements apart). THE CARD IS WHAT COUNTS. Prove the row's statement (the work); the ties are given (YthniagdphhcnkaaDoorTie.lean); close each card by the builder's one call (the guide's Derived/Test/ToyasCard.lean, 'card_holds'). Laid BY PROGRAM, IN A SANDBOX (cutbox-door.mjs). By AI agents, Wed Nov 11 2026. No macro, syntax, notation, axiom, sorry.
-/
import Derived.Test.YthniagdphhcnkaaDoorRows
import GoSem.ClaimSeven
namespace Go.Proofs.YthniagdphhcnkaaDoor
namespace Rows

/-- THE TIED CARD OF 'smithyardlaw7.CacheTextsComeBack'. -/
def cacheTextsComeBackCard : Claim7 := { stood := { row := cacheTextsComeBackRow, standIns := [], harness := (true, "fb78e5a7295e3786d2401d1897de207ffa4e5f1fcbed708ca0c770e0e40af4d8"), looks := true }, kinds := [], alts := [], laidByText := true, laidKinds := [.data, .data, .data, .data, .sentinel, .sentinel, .pinned], laidTests := true, laidLooks := .later }
def CacheTextsComeBackCardSaid : Prop := Claim7.holds Tryd.pinned (.plain (OpenSpec.ofChange cacheTextsComeBackSpec)) cacheTextsComeBackCard

/-- THE SECOND FORM's CARD OF 'smithyardlaw7.CacheTextsComeBack'. -/
def cacheTextsComeBackUptoCard : Claim7 := { stood := { row := cacheTextsComeBackUptoRow, standIns := [], harness := (true, "fb78e5a7295e3786d2401d1897de207ffa4e5f1fcbed708ca0c770e0e40af4d8"), looks := true }, kinds := [], alts := [], laidByText := true, laidKinds := [.data, .data, .data, .data, .sentinel, .sentinel, .pinned], laidTests := true, laidLooks := .later }
def CacheTextsComeBackUptoCardSaid : Prop := Claim7.holds Tryd.pinned (.plain (OpenSpec.upto cacheTextsComeBackSpec)) cacheTextsComeBackUptoCard
end Rows
end Go.Proofs.YthniagdphhcnkaaDoor
