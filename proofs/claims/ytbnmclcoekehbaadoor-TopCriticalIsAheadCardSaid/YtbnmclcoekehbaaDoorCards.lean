/-
  DERIVED. GIVEN WITH THE SEED: THE CARDS: each row of YtbnmclcoekehbaaDoorRows.lean that lists a variable, with what it lists TIED to the program's text (the seventh form; the later family's looks); each row that meets fmt, with fmt's text TOLD by the authors' own Lean function (tested against real Go, not proved from fmt's source: count such statements apart). THE CARD IS WHAT COUNTS. Prove the row's statement (the work); the ties are given (YtbnmclcoekehbaaDoorTie.lean); close each card by the builder's one call (the guide's Derived/Test/ToyasCard.lean, 'card_holds'). Laid BY PROGRAM, IN A SANDBOX (cutbox-door.mjs). By AI agents, Wed Nov 11 2026. No macro, syntax, notation, axiom, sorry.
-/
import Derived.Test.YtbnmclcoekehbaaDoorRows
import GoSem.ClaimSeven
namespace Go.Proofs.YtbnmclcoekehbaaDoor
namespace Rows

/-- THE TIED CARD OF 'smithyardtop.TopCriticalIsAhead'. -/
def topCriticalIsAheadCard : Claim7 := { stood := { row := topCriticalIsAheadRow, standIns := [], harness := (true, "17967a725bcaa13406f660f743ce5eeb8f856a1f5dc84ffcc5b6ac479d27c03e"), looks := false }, kinds := [], alts := [], laidByText := true, laidKinds := [.data, .pinned], laidTests := true, laidLooks := .later }
def TopCriticalIsAheadCardSaid : Prop := Claim7.holds Tryd.pinned (.plain (OpenSpec.ofChange topCriticalIsAheadSpec)) topCriticalIsAheadCard

/-- THE SECOND FORM's CARD OF 'smithyardtop.TopCriticalIsAhead'. -/
def topCriticalIsAheadUptoCard : Claim7 := { stood := { row := topCriticalIsAheadUptoRow, standIns := [], harness := (true, "17967a725bcaa13406f660f743ce5eeb8f856a1f5dc84ffcc5b6ac479d27c03e"), looks := false }, kinds := [], alts := [], laidByText := true, laidKinds := [.data, .pinned], laidTests := true, laidLooks := .later }
def TopCriticalIsAheadUptoCardSaid : Prop := Claim7.holds Tryd.pinned (.plain (OpenSpec.upto topCriticalIsAheadSpec)) topCriticalIsAheadUptoCard
end Rows
end Go.Proofs.YtbnmclcoekehbaaDoor
