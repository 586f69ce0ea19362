/-
  DERIVED. GIVEN WITH THE SEED: THE CARDS: each row of YtigpcfneodohkaaDoorRows.lean that lists a variable, with what it lists TIED to the program's text (the seventh form; the later family's looks); each row that meets fmt, with fmt's text TOLD by the authors' own Lean function (tested against real Go, not proved from fmt's source: count such statements apart). THE CARD IS WHAT COUNTS. Prove the row's statement (the work); the ties are given (YtigpcfneodohkaaDoorTie.lean); close each card by the builder's one call (the guide's Derived/Test/ToyasCard.lean, 'card_holds'). Laid BY PROGRAM, IN A SANDBOX (cutbox-door.mjs). By AI agents, Wed Nov 11 2026. No macro, syntax, notation, axiom, sorry.
-/
import Derived.Test.YtigpcfneodohkaaDoorRows
import GoSem.ClaimSeven
namespace Go.Proofs.YtigpcfneodohkaaDoor
namespace Rows

/-- THE TIED CARD OF 'smithyardlaw7.CacheShrunkKeeps'. -/
def cacheShrunkKeepsCard : Claim7 := { stood := { row := cacheShrunkKeepsRow, standIns := [], harness := (true, "089d3c04d756b6d8a8cf94e740421c157d6a47685096a0c638ed4ca921c2c5a2"), looks := false }, kinds := [], alts := [], laidByText := true, laidKinds := [.data, .pinned], laidTests := true, laidLooks := .later }
def CacheShrunkKeepsCardSaid : Prop := Claim7.holds Tryd.pinned (.plain (OpenSpec.ofChange cacheShrunkKeepsSpec)) cacheShrunkKeepsCard

/-- THE TIED CARD OF 'smithyardlaw7.CacheAsksMatchSpec'. -/
def cacheAsksMatchSpecCard : Claim7 := { stood := { row := cacheAsksMatchSpecRow, standIns := [], harness := (true, "089d3c04d756b6d8a8cf94e740421c157d6a47685096a0c638ed4ca921c2c5a2"), looks := false }, kinds := [], alts := [], laidByText := true, laidKinds := [.data, .pinned], laidTests := true, laidLooks := .later }
def CacheAsksMatchSpecCardSaid : Prop := Claim7.holds Tryd.pinned (.plain (OpenSpec.ofChange cacheAsksMatchSpecSpec)) cacheAsksMatchSpecCard

/-- THE TIED CARD OF 'smithyardlaw7.CacheSweepsMatchSpec'. -/
def cacheSweepsMatchSpecCard : Claim7 := { stood := { row := cacheSweepsMatchSpecRow, standIns := [], harness := (true, "089d3c04d756b6d8a8cf94e740421c157d6a47685096a0c638ed4ca921c2c5a2"), looks := false }, kinds := [], alts := [], laidByText := true, laidKinds := [.data, .pinned], laidTests := true, laidLooks := .later }
def CacheSweepsMatchSpecCardSaid : Prop := Claim7.holds Tryd.pinned (.plain (OpenSpec.ofChange cacheSweepsMatchSpecSpec)) cacheSweepsMatchSpecCard

/-- THE SECOND FORM's CARD OF 'smithyardlaw7.CacheShrunkKeeps'. -/
def cacheShrunkKeepsUptoCard : Claim7 := { stood := { row := cacheShrunkKeepsUptoRow, standIns := [], harness := (true, "089d3c04d756b6d8a8cf94e740421c157d6a47685096a0c638ed4ca921c2c5a2"), looks := false }, kinds := [], alts := [], laidByText := true, laidKinds := [.data, .pinned], laidTests := true, laidLooks := .later }
def CacheShrunkKeepsUptoCardSaid : Prop := Claim7.holds Tryd.pinned (.plain (OpenSpec.upto cacheShrunkKeepsSpec)) cacheShrunkKeepsUptoCard

/-- THE SECOND FORM's CARD OF 'smithyardlaw7.CacheAsksMatchSpec'. -/
def cacheAsksMatchSpecUptoCard : Claim7 := { stood := { row := cacheAsksMatchSpecUptoRow, standIns := [], harness := (true, "089d3c04d756b6d8a8cf94e740421c157d6a47685096a0c638ed4ca921c2c5a2"), looks := false }, kinds := [], alts := [], laidByText := true, laidKinds := [.data, .pinned], laidTests := true, laidLooks := .later }
def CacheAsksMatchSpecUptoCardSaid : Prop := Claim7.holds Tryd.pinned (.plain (OpenSpec.upto cacheAsksMatchSpecSpec)) cacheAsksMatchSpecUptoCard

/-- THE SECOND FORM's CARD OF 'smithyardlaw7.CacheSweepsMatchSpec'. -/
def cacheSweepsMatchSpecUptoCard : Claim7 := { stood := { row := cacheSweepsMatchSpecUptoRow, standIns := [], harness := (true, "089d3c04d756b6d8a8cf94e740421c157d6a47685096a0c638ed4ca921c2c5a2"), looks := false }, kinds := [], alts := [], laidByText := true, laidKinds := [.data, .pinned], laidTests := true, laidLooks := .later }
def CacheSweepsMatchSpecUptoCardSaid : Prop := Claim7.holds Tryd.pinned (.plain (OpenSpec.upto cacheSweepsMatchSpecSpec)) cacheSweepsMatchSpecUptoCard
end Rows
end Go.Proofs.YtigpcfneodohkaaDoor
