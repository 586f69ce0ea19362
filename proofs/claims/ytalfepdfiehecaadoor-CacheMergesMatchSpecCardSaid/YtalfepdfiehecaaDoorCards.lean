/-
  DERIVED. GIVEN WITH THE SEED: THE CARDS: each row of YtalfepdfiehecaaDoorRows.lean that lists a variable, with what it lists TIED to the program's text (the seventh form; the later family's looks); each row that meets fmt, with fmt's text TOLD by the authors' own Lean function (tested against real Go, not proved from fmt's source: count such statements apart). THE CARD IS WHAT COUNTS. Prove the row's statement (the work); the ties are given (YtalfepdfiehecaaDoorTie.lean); close each card by the builder's one call (the guide's Derived/Test/ToyasCard.lean, 'card_holds'). Laid BY PROGRAM, IN A SANDBOX (cutbox-door.mjs). By AI agents, Wed Nov 11 2026. No macro, syntax, notation, axiom, sorry.
-/
import Derived.Test.YtalfepdfiehecaaDoorRows
import GoSem.ClaimSeven
namespace Go.Proofs.YtalfepdfiehecaaDoor
namespace Rows

/-- THE TIED CARD OF 'smithyardlaw7.CacheMergesMatchSpec'. -/
def cacheMergesMatchSpecCard : Claim7 := { stood := { row := cacheMergesMatchSpecRow, standIns := [], harness := (true, "85358dd1f07a80bf8c72d65b9d97a4f02ee1dedb6b7dfb1588dff324e38266a3"), looks := false }, kinds := [], alts := [], laidByText := true, laidKinds := [.data, .pinned], laidTests := true, laidLooks := .later }
def CacheMergesMatchSpecCardSaid : Prop := Claim7.holds Tryd.pinned (.plain (OpenSpec.ofChange cacheMergesMatchSpecSpec)) cacheMergesMatchSpecCard

/-- THE TIED CARD OF 'smithyardlaw7.CacheMergedHasBoth'. -/
def cacheMergedHasBothCard : Claim7 := { stood := { row := cacheMergedHasBothRow, standIns := [], harness := (true, "85358dd1f07a80bf8c72d65b9d97a4f02ee1dedb6b7dfb1588dff324e38266a3"), looks := false }, kinds := [], alts := [], laidByText := true, laidKinds := [.data, .pinned], laidTests := true, laidLooks := .later }
def CacheMergedHasBothCardSaid : Prop := Claim7.holds Tryd.pinned (.plain (OpenSpec.ofChange cacheMergedHasBothSpec)) cacheMergedHasBothCard

/-- THE TIED CARD OF 'smithyardlaw7.CacheKeepsRoom'. -/
def cacheKeepsRoomCard : Claim7 := { stood := { row := cacheKeepsRoomRow, standIns := [], harness := (true, "85358dd1f07a80bf8c72d65b9d97a4f02ee1dedb6b7dfb1588dff324e38266a3"), looks := false }, kinds := [], alts := [], laidByText := true, laidKinds := [.data, .pinned], laidTests := true, laidLooks := .later }
def CacheKeepsRoomCardSaid : Prop := Claim7.holds Tryd.pinned (.plain (OpenSpec.ofChange cacheKeepsRoomSpec)) cacheKeepsRoomCard

/-- THE TIED CARD OF 'smithyardlaw7.CacheLeasesHold'. -/
def cacheLeasesHoldCard : Claim7 := { stood := { row := cacheLeasesHoldRow, standIns := [], harness := (true, "85358dd1f07a80bf8c72d65b9d97a4f02ee1dedb6b7dfb1588dff324e38266a3"), looks := false }, kinds := [], alts := [], laidByText := true, laidKinds := [.data, .pinned], laidTests := true, laidLooks := .later }
def CacheLeasesHoldCardSaid : Prop := Claim7.holds Tryd.pinned (.plain (OpenSpec.ofChange cacheLeasesHoldSpec)) cacheLeasesHoldCard

/-- THE TIED CARD OF 'smithyardlaw7.CacheFollowsOn'. -/
def cacheFollowsOnCard : Claim7 := { stood := { row := cacheFollowsOnRow, standIns := [], harness := (true, "85358dd1f07a80bf8c72d65b9d97a4f02ee1dedb6b7dfb1588dff324e38266a3"), looks := false }, kinds := [], alts := [], laidByText := true, laidKinds := [.data, .pinned], laidTests := true, laidLooks := .later }
def CacheFollowsOnCardSaid : Prop := Claim7.holds Tryd.pinned (.plain (OpenSpec.ofChange cacheFollowsOnSpec)) cacheFollowsOnCard

/-- THE SECOND FORM's CARD OF 'smithyardlaw7.CacheMergesMatchSpec'. -/
def cacheMergesMatchSpecUptoCard : Claim7 := { stood := { row := cacheMergesMatchSpecUptoRow, standIns := [], harness := (true, "85358dd1f07a80bf8c72d65b9d97a4f02ee1dedb6b7dfb1588dff324e38266a3"), looks := false }, kinds := [], alts := [], laidByText := true, laidKinds := [.data, .pinned], laidTests := true, laidLooks := .later }
def CacheMergesMatchSpecUptoCardSaid : Prop := Claim7.holds Tryd.pinned (.plain (OpenSpec.upto cacheMergesMatchSpecSpec)) cacheMergesMatchSpecUptoCard

/-- THE SECOND FORM's CARD OF 'smithyardlaw7.CacheMergedHasBoth'. -/
def cacheMergedHasBothUptoCard : Claim7 := { stood := { row := cacheMergedHasBothUptoRow, standIns := [], harness := (true, "85358dd1f07a80bf8c72d65b9d97a4f02ee1dedb6b7dfb1588dff324e38266a3"), looks := false }, kinds := [], alts := [], laidByText := true, laidKinds := [.data, .pinned], laidTests := true, laidLooks := .later }
def CacheMergedHasBothUptoCardSaid : Prop := Claim7.holds Tryd.pinned (.plain (OpenSpec.upto cacheMergedHasBothSpec)) cacheMergedHasBothUptoCard

/-- THE SECOND FORM's CARD OF 'smithyardlaw7.CacheKeepsRoom'. -/
def cacheKeepsRoomUptoCard : Claim7 := { stood := { row := cacheKeepsRoomUptoRow, standIns := [], harness := (true, "85358dd1f07a80bf8c72d65b9d97a4f02ee1dedb6b7dfb1588dff324e38266a3"), looks := false }, kinds := [], alts := [], laidByText := true, laidKinds := [.data, .pinned], laidTests := true, laidLooks := .later }
def CacheKeepsRoomUptoCardSaid : Prop := Claim7.holds Tryd.pinned (.plain (OpenSpec.upto cacheKeepsRoomSpec)) cacheKeepsRoomUptoCard

/-- THE SECOND FORM's CARD OF 'smithyardlaw7.CacheLeasesHold'. -/
def cacheLeasesHoldUptoCard : Claim7 := { stood := { row := cacheLeasesHoldUptoRow, standIns := [], harness := (true, "85358dd1f07a80bf8c72d65b9d97a4f02ee1dedb6b7dfb1588dff324e38266a3"), looks := false }, kinds := [], alts := [], laidByText := true, laidKinds := [.data, .pinned], laidTests := true, laidLooks := .later }
def CacheLeasesHoldUptoCardSaid : Prop := Claim7.holds Tryd.pinned (.plain (OpenSpec.upto cacheLeasesHoldSpec)) cacheLeasesHoldUptoCard

/-- THE SECOND FORM's CARD OF 'smithyardlaw7.CacheFollowsOn'. -/
def cacheFollowsOnUptoCard : Claim7 := { stood := { row := cacheFollowsOnUptoRow, standIns := [], harness := (true, "85358dd1f07a80bf8c72d65b9d97a4f02ee1dedb6b7dfb1588dff324e38266a3"), looks := false }, kinds := [], alts := [], laidByText := true, laidKinds := [.data, .pinned], laidTests := true, laidLooks := .later }
def CacheFollowsOnUptoCardSaid : Prop := Claim7.holds Tryd.pinned (.plain (OpenSpec.upto cacheFollowsOnSpec)) cacheFollowsOnUptoCard
end Rows
end Go.Proofs.YtalfepdfiehecaaDoor
