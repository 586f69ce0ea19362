/-
  DERIVED. GIVEN WITH THE SEED: THE CARDS: each row of YteeemcghdhdodaaDoorRows.lean that lists a variable, with what it lists TIED to the program's text (the seventh form; the later family's looks); each row that meets fmt, with fmt's text TOLD by the authors' own Lean function (tested against real Go, not proved from fmt's source: count such statements apart). THE CARD IS WHAT COUNTS. Prove the row's statement (the work); the ties are given (YteeemcghdhdodaaDoorTie.lean); close each card by the builder's one call (the guide's Derived/Test/ToyasCard.lean, 'card_holds'). Laid BY PROGRAM, IN A SANDBOX (cutbox-door.mjs). By AI agents, Wed Nov 11 2026. No macro, syntax, notation, axiom, sorry.
-/
import Derived.Test.YteeemcghdhdodaaDoorRows
import GoSem.ClaimSeven
namespace Go.Proofs.YteeemcghdhdodaaDoor
namespace Rows

/-- THE TIED CARD OF 'smithyardlaw7.CacheChecksMatchSpec'. -/
def cacheChecksMatchSpecCard : Claim7 := { stood := { row := cacheChecksMatchSpecRow, standIns := [], harness := (true, "4ea9048af125aaa222c46fe80511b50172f52de69e46dcfccd587f6ab32a9171"), looks := false }, kinds := [], alts := [], laidByText := true, laidKinds := [.data, .pinned], laidTests := true, laidLooks := .later }
def CacheChecksMatchSpecCardSaid : Prop := Claim7.holds Tryd.pinned (.plain (OpenSpec.ofChange cacheChecksMatchSpecSpec)) cacheChecksMatchSpecCard

/-- THE TIED CARD OF 'smithyardlaw7.CacheSweptKeeps'. -/
def cacheSweptKeepsCard : Claim7 := { stood := { row := cacheSweptKeepsRow, standIns := [], harness := (true, "4ea9048af125aaa222c46fe80511b50172f52de69e46dcfccd587f6ab32a9171"), looks := false }, kinds := [], alts := [], laidByText := true, laidKinds := [.data, .pinned], laidTests := true, laidLooks := .later }
def CacheSweptKeepsCardSaid : Prop := Claim7.holds Tryd.pinned (.plain (OpenSpec.ofChange cacheSweptKeepsSpec)) cacheSweptKeepsCard

/-- THE TIED CARD OF 'smithyardlaw7.CacheMergesMatchSpec'. -/
def cacheMergesMatchSpecCard : Claim7 := { stood := { row := cacheMergesMatchSpecRow, standIns := [], harness := (true, "4ea9048af125aaa222c46fe80511b50172f52de69e46dcfccd587f6ab32a9171"), looks := false }, kinds := [], alts := [], laidByText := true, laidKinds := [.data, .pinned], laidTests := true, laidLooks := .later }
def CacheMergesMatchSpecCardSaid : Prop := Claim7.holds Tryd.pinned (.plain (OpenSpec.ofChange cacheMergesMatchSpecSpec)) cacheMergesMatchSpecCard

/-- THE TIED CARD OF 'smithyardlaw7.CacheMergedHasBoth'. -/
def cacheMergedHasBothCard : Claim7 := { stood := { row := cacheMergedHasBothRow, standIns := [], harness := (true, "4ea9048af125aaa222c46fe80511b50172f52de69e46dcfccd587f6ab32a9171"), looks := false }, kinds := [], alts := [], laidByText := true, laidKinds := [.data, .pinned], laidTests := true, laidLooks := .later }
def CacheMergedHasBothCardSaid : Prop := Claim7.holds Tryd.pinned (.plain (OpenSpec.ofChange cacheMergedHasBothSpec)) cacheMergedHasBothCard

/-- THE SECOND FORM's CARD OF 'smithyardlaw7.CacheChecksMatchSpec'. -/
def cacheChecksMatchSpecUptoCard : Claim7 := { stood := { row := cacheChecksMatchSpecUptoRow, standIns := [], harness := (true, "4ea9048af125aaa222c46fe80511b50172f52de69e46dcfccd587f6ab32a9171"), looks := false }, kinds := [], alts := [], laidByText := true, laidKinds := [.data, .pinned], laidTests := true, laidLooks := .later }
def CacheChecksMatchSpecUptoCardSaid : Prop := Claim7.holds Tryd.pinned (.plain (OpenSpec.upto cacheChecksMatchSpecSpec)) cacheChecksMatchSpecUptoCard

/-- THE SECOND FORM's CARD OF 'smithyardlaw7.CacheSweptKeeps'. -/
def cacheSweptKeepsUptoCard : Claim7 := { stood := { row := cacheSweptKeepsUptoRow, standIns := [], harness := (true, "4ea9048af125aaa222c46fe80511b50172f52de69e46dcfccd587f6ab32a9171"), looks := false }, kinds := [], alts := [], laidByText := true, laidKinds := [.data, .pinned], laidTests := true, laidLooks := .later }
def CacheSweptKeepsUptoCardSaid : Prop := Claim7.holds Tryd.pinned (.plain (OpenSpec.upto cacheSweptKeepsSpec)) cacheSweptKeepsUptoCard

/-- THE SECOND FORM's CARD OF 'smithyardlaw7.CacheMergesMatchSpec'. -/
def cacheMergesMatchSpecUptoCard : Claim7 := { stood := { row := cacheMergesMatchSpecUptoRow, standIns := [], harness := (true, "4ea9048af125aaa222c46fe80511b50172f52de69e46dcfccd587f6ab32a9171"), looks := false }, kinds := [], alts := [], laidByText := true, laidKinds := [.data, .pinned], laidTests := true, laidLooks := .later }
def CacheMergesMatchSpecUptoCardSaid : Prop := Claim7.holds Tryd.pinned (.plain (OpenSpec.upto cacheMergesMatchSpecSpec)) cacheMergesMatchSpecUptoCard

/-- THE SECOND FORM's CARD OF 'smithyardlaw7.CacheMergedHasBoth'. -/
def cacheMergedHasBothUptoCard : Claim7 := { stood := { row := cacheMergedHasBothUptoRow, standIns := [], harness := (true, "4ea9048af125aaa222c46fe80511b50172f52de69e46dcfccd587f6ab32a9171"), looks := false }, kinds := [], alts := [], laidByText := true, laidKinds := [.data, .pinned], laidTests := true, laidLooks := .later }
def CacheMergedHasBothUptoCardSaid : Prop := Claim7.holds Tryd.pinned (.plain (OpenSpec.upto cacheMergedHasBothSpec)) cacheMergedHasBothUptoCard
end Rows
end Go.Proofs.YteeemcghdhdodaaDoor
