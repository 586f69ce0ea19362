/-
  NARROWER THAN 'FOR EVERY INPUT', by the rows' own cells (each row's printed sentence says how): WireTakesAgain: laid · WireTakesStayRight: laid · WireMessagesArrive: laid · WireTakesMatchSpec: laid · WireDeliversArrive: laid · WireDeliversMatchSpec: laid.
  DERIVED. THE GIVEN ROWS OF THIS SEAT. 6 by the template 'for every input the law returns true; each argument reads behind the call as it read before'; 0 by the template 'total and deterministic' (their statements: YtjacnfjlocajoaaDoorTotals.lean).
  GIVEN WITH THE SEED: the statements are not yours to turn. If you find one false, say at which input.
  Laid BY PROGRAM, IN A SANDBOX (cutbox-rows.mjs): the forced cells as the released guide's own fill.sh prints them over the translation e832982154b6ed54… (all of the seat's roots in one cut). By AI agents, Wed Nov 11 2026. No macro, syntax, notation, axiom, sorry.
-/
import Derived.Test.YtjacnfjlocajoaaDoorChecked
import GoSem.PinnedTables
import GoSem.Claim
import GoSem.ClaimJoined
import GoSem.ClaimMapViews
import Derived.JoinedTies
import Derived.KernelRfl
namespace Go.Proofs.YtjacnfjlocajoaaDoor
/- THE CELL 'sum', in the pinned program and in every row, IS THE sha256 OF THE DUMP (.gsa) THAT YtjacnfjlocajoaaDoorProg.lean LOADS. Nothing in Lean hashes anything: it is a label: what it is worth is what the hold of that sum in a sandbox is worth. -/
noncomputable def Tryd.pinned : Pinned := { name := "ytjacnfjlocajoaadoor", sum := "e832982154b6ed543a06651ccf5b6694578e3d96d6c834cb9b29d60bf282c965", checked := Tryd.checked }
namespace Rows
def none {H : Type} : Left H := { results := [], args := [] }

/- WHAT THE LISTED PACKAGE-LEVEL VARIABLES READ AS WHEN THE CALL BEGINS. Each datum BY PROGRAM (the guide's laid-datum.mjs) off the statement by which the dump's own 'gosem.cut.vars' lays the variable. In a bare row this is a premise. The card (YtjacnfjlocajoaaDoorCards.lean) ties it to the program's text. -/
def laid_unicode_utf8_acceptRanges {H : Type} : DataW H := .agg [.agg [.lit (.int .u8 128), .lit (.int .u8 191)], .agg [.lit (.int .u8 160), .lit (.int .u8 191)], .agg [.lit (.int .u8 128), .lit (.int .u8 159)], .agg [.lit (.int .u8 144), .lit (.int .u8 191)], .agg [.lit (.int .u8 128), .lit (.int .u8 143)], .agg [.lit (.int .u8 0), .lit (.int .u8 0)], .agg [.lit (.int .u8 0), .lit (.int .u8 0)], .agg [.lit (.int .u8 0), .lit (.int .u8 0)], .agg [.lit (.int .u8 0), .lit (.int .u8 0)], .agg [.lit (.int .u8 0), .lit (.int .u8 0)], .agg [.lit (.int .u8 0), .lit (.int .u8 0)], .agg [.lit (.int .u8 0), .lit (.int .u8 0)], .agg [.lit (.int .u8 0), .lit (.int .u8 0)], .agg [.lit (.int .u8 0), .lit (.int .u8 0)], .agg [.lit (.int .u8 0), .lit (.int .u8 0)], .agg [.lit (.int .u8 0), .lit (.int .u8 0)]]
/-- One of Go's own tables, pinned by name: the form's constant. -/
def laid_unicode_utf8_first : DataW Unit := Go.Pinned.utf8First

/-- 'smithyardlaw8.WireTakesAgain': WHATEVER THE INPUT: true; the input reads as it did. -/
def wireTakesAgainSpec : ChangeSpec := { name := "wireTakesAgain", fn := fun _ => fun
  | [d1, d2] => { results := [.lit (.bool true)], args := [d1, d2] }
  | _ => none }
def wireTakesAgainRow : OpenClaim := { program := "ytjacnfjlocajoaadoor", sum := "e832982154b6ed543a06651ccf5b6694578e3d96d6c834cb9b29d60bf282c965", func := "smithyard/smithyardlaw8.WireTakesAgain", spec := "wireTakesAgain", inPlace := ["internal/bytealg.IndexByteString", "internal/bytealg.IndexString", "internal/bytealg.abigen_runtime_cmpstring", "slices.overlaps[smithyard/api.Object]", "slices.overlaps[smithyard/api.Partial]"], unfollowed := true, recurses := true, named := ["unicode/utf8.first", "unicode/utf8.acceptRanges", "internal/bytealg.MaxLen"], apart := false, laid := [("unicode/utf8.acceptRanges", laid_unicode_utf8_acceptRanges), ("unicode/utf8.first", laid_unicode_utf8_first)] }
def WireTakesAgainSaid : Prop := wireTakesAgainRow.holds Tryd.pinned (OpenSpec.ofChange wireTakesAgainSpec)

/-- ITS FALSE NEIGHBOUR: 'it returns false'. Refute it at one input. -/
def wireTakesAgainWrong : ChangeSpec := { name := "wireTakesAgain", fn := fun _ => fun
  | [d1, d2] => { results := [.lit (.bool false)], args := [d1, d2] }
  | _ => none }
def WireTakesAgainWrongFalsely : Prop := wireTakesAgainRow.holds Tryd.pinned (OpenSpec.ofChange wireTakesAgainWrong)

/-- 'smithyardlaw8.WireTakesStayRight': WHATEVER THE INPUT: true; the input reads as it did. -/
def wireTakesStayRightSpec : ChangeSpec := { name := "wireTakesStayRight", fn := fun _ => fun
  | [d1, d2] => { results := [.lit (.bool true)], args := [d1, d2] }
  | _ => none }
def wireTakesStayRightRow : OpenClaim := { program := "ytjacnfjlocajoaadoor", sum := "e832982154b6ed543a06651ccf5b6694578e3d96d6c834cb9b29d60bf282c965", func := "smithyard/smithyardlaw8.WireTakesStayRight", spec := "wireTakesStayRight", inPlace := ["internal/bytealg.IndexByteString", "internal/bytealg.IndexString", "internal/bytealg.abigen_runtime_cmpstring", "slices.overlaps[smithyard/api.Object]", "slices.overlaps[smithyard/api.Partial]"], unfollowed := true, recurses := true, named := ["unicode/utf8.first", "unicode/utf8.acceptRanges", "internal/bytealg.MaxLen"], apart := false, laid := [("unicode/utf8.acceptRanges", laid_unicode_utf8_acceptRanges), ("unicode/utf8.first", laid_unicode_utf8_first)] }
def WireTakesStayRightSaid : Prop := wireTakesStayRightRow.holds Tryd.pinned (OpenSpec.ofChange wireTakesStayRightSpec)

/-- ITS FALSE NEIGHBOUR: 'it returns false'. Refute it at one input. -/
def wireTakesStayRightWrong : ChangeSpec := { name := "wireTakesStayRight", fn := fun _ => fun
  | [d1, d2] => { results := [.lit (.bool false)], args := [d1, d2] }
  | _ => none }
def WireTakesStayRightWrongFalsely : Prop := wireTakesStayRightRow.holds Tryd.pinned (OpenSpec.ofChange wireTakesStayRightWrong)

/-- 'smithyardlaw8.WireMessagesArrive': WHATEVER THE INPUT: true; the input reads as it did. -/
def wireMessagesArriveSpec : ChangeSpec := { name := "wireMessagesArrive", fn := fun _ => fun
  | [d1, d2, d3] => { results := [.lit (.bool true)], args := [d1, d2, d3] }
  | _ => none }
def wireMessagesArriveRow : OpenClaim := { program := "ytjacnfjlocajoaadoor", sum := "e832982154b6ed543a06651ccf5b6694578e3d96d6c834cb9b29d60bf282c965", func := "smithyard/smithyardlaw8.WireMessagesArrive", spec := "wireMessagesArrive", inPlace := ["internal/bytealg.IndexByteString", "internal/bytealg.IndexString", "internal/bytealg.abigen_runtime_cmpstring", "slices.overlaps[smithyard/api.Object]", "slices.overlaps[smithyard/api.Partial]"], unfollowed := true, recurses := true, named := ["unicode/utf8.first", "unicode/utf8.acceptRanges", "internal/bytealg.MaxLen"], apart := false, laid := [("unicode/utf8.acceptRanges", laid_unicode_utf8_acceptRanges), ("unicode/utf8.first", laid_unicode_utf8_first)] }
def WireMessagesArriveSaid : Prop := wireMessagesArriveRow.holds Tryd.pinned (OpenSpec.ofChange wireMessagesArriveSpec)

/-- ITS FALSE NEIGHBOUR: 'it returns false'. Refute it at one input. -/
def wireMessagesArriveWrong : ChangeSpec := { name := "wireMessagesArrive", fn := fun _ => fun
  | [d1, d2, d3] => { results := [.lit (.bool false)], args := [d1, d2, d3] }
  | _ => none }
def WireMessagesArriveWrongFalsely : Prop := wireMessagesArriveRow.holds Tryd.pinned (OpenSpec.ofChange wireMessagesArriveWrong)

/-- 'smithyardlaw8.WireTakesMatchSpec': WHATEVER THE INPUT: true; the input reads as it did. -/
def wireTakesMatchSpecSpec : ChangeSpec := { name := "wireTakesMatchSpec", fn := fun _ => fun
  | [d1, d2, d3] => { results := [.lit (.bool true)], args := [d1, d2, d3] }
  | _ => none }
def wireTakesMatchSpecRow : OpenClaim := { program := "ytjacnfjlocajoaadoor", sum := "e832982154b6ed543a06651ccf5b6694578e3d96d6c834cb9b29d60bf282c965", func := "smithyard/smithyardlaw8.WireTakesMatchSpec", spec := "wireTakesMatchSpec", inPlace := ["internal/bytealg.IndexByteString", "internal/bytealg.IndexString", "internal/bytealg.abigen_runtime_cmpstring", "slices.overlaps[smithyard/api.Object]", "slices.overlaps[smithyard/api.Partial]"], unfollowed := true, recurses := true, named := ["unicode/utf8.first", "unicode/utf8.acceptRanges", "internal/bytealg.MaxLen"], apart := false, laid := [("unicode/utf8.acceptRanges", laid_unicode_utf8_acceptRanges), ("unicode/utf8.first", laid_unicode_utf8_first)] }
def WireTakesMatchSpecSaid : Prop := wireTakesMatchSpecRow.holds Tryd.pinned (OpenSpec.ofChange wireTakesMatchSpecSpec)

/-- ITS FALSE NEIGHBOUR: 'it returns false'. Refute it at one input. -/
def wireTakesMatchSpecWrong : ChangeSpec := { name := "wireTakesMatchSpec", fn := fun _ => fun
  | [d1, d2, d3] => { results := [.lit (.bool false)], args := [d1, d2, d3] }
  | _ => none }
def WireTakesMatchSpecWrongFalsely : Prop := wireTakesMatchSpecRow.holds Tryd.pinned (OpenSpec.ofChange wireTakesMatchSpecWrong)

/-- 'smithyardlaw8.WireDeliversArrive': WHATEVER THE INPUT: true; the input reads as it did. -/
def wireDeliversArriveSpec : ChangeSpec := { name := "wireDeliversArrive", fn := fun _ => fun
  | [d1, d2, d3] => { results := [.lit (.bool true)], args := [d1, d2, d3] }
  | _ => none }
def wireDeliversArriveRow : OpenClaim := { program := "ytjacnfjlocajoaadoor", sum := "e832982154b6ed543a06651ccf5b6694578e3d96d6c834cb9b29d60bf282c965", func := "smithyard/smithyardlaw8.WireDeliversArrive", spec := "wireDeliversArrive", inPlace := ["internal/bytealg.IndexByteString", "internal/bytealg.IndexString", "internal/bytealg.abigen_runtime_cmpstring", "slices.overlaps[smithyard/api.Object]", "slices.overlaps[smithyard/api.Partial]"], unfollowed := true, recurses := true, named := ["unicode/utf8.first", "unicode/utf8.acceptRanges", "internal/bytealg.MaxLen"], apart := false, laid := [("unicode/utf8.acceptRanges", laid_unicode_utf8_acceptRanges), ("unicode/utf8.first", laid_unicode_utf8_first)] }
def WireDeliversArriveSaid : Prop := wireDeliversArriveRow.holds Tryd.pinned (OpenSpec.ofChange wireDeliversArriveSpec)

/-- ITS FALSE NEIGHBOUR: 'it returns false'. Refute it at one input. -/
def wireDeliversArriveWrong : ChangeSpec := { name := "wireDeliversArrive", fn := fun _ => fun
  | [d1, d2, d3] => { results := [.lit (.bool false)], args := [d1, d2, d3] }
  | _ => none }
def WireDeliversArriveWrongFalsely : Prop := wireDeliversArriveRow.holds Tryd.pinned (OpenSpec.ofChange wireDeliversArriveWrong)

/-- 'smithyardlaw8.WireDeliversMatchSpec': WHATEVER THE INPUT: true; the input reads as it did. -/
def wireDeliversMatchSpecSpec : ChangeSpec := { name := "wireDeliversMatchSpec", fn := fun _ => fun
  | [d1, d2, d3, d4, d5] => { results := [.lit (.bool true)], args := [d1, d2, d3, d4, d5] }
  | _ => none }
def wireDeliversMatchSpecRow : OpenClaim := { program := "ytjacnfjlocajoaadoor", sum := "e832982154b6ed543a06651ccf5b6694578e3d96d6c834cb9b29d60bf282c965", func := "smithyard/smithyardlaw8.WireDeliversMatchSpec", spec := "wireDeliversMatchSpec", inPlace := ["internal/bytealg.IndexByteString", "internal/bytealg.IndexString", "internal/bytealg.abigen_runtime_cmpstring", "slices.overlaps[smithyard/api.Object]", "slices.overlaps[smithyard/api.Partial]"], unfollowed := true, recurses := true, named := ["unicode/utf8.first", "unicode/utf8.acceptRanges", "internal/bytealg.MaxLen"], apart := false, laid := [("unicode/utf8.acceptRanges", laid_unicode_utf8_acceptRanges), ("unicode/utf8.first", laid_unicode_utf8_first)] }
def WireDeliversMatchSpecSaid : Prop := wireDeliversMatchSpecRow.holds Tryd.pinned (OpenSpec.ofChange wireDeliversMatchSpecSpec)

/-- ITS FALSE NEIGHBOUR: 'it returns false'. Refute it at one input. -/
def wireDeliversMatchSpecWrong : ChangeSpec := { name := "wireDeliversMatchSpec", fn := fun _ => fun
  | [d1, d2, d3, d4, d5] => { results := [.lit (.bool false)], args := [d1, d2, d3, d4, d5] }
  | _ => none }
def WireDeliversMatchSpecWrongFalsely : Prop := wireDeliversMatchSpecRow.holds Tryd.pinned (OpenSpec.ofChange wireDeliversMatchSpecWrong)

/- THE SECOND FORM. 'bulk': how many values and letters a reading holds, each counted each time it is reached (what is shared counts as often as it is met; a slice's spare places count too). A statement '..UptoSaid' is the law's where the arguments, and the package variables that the reading takes, are together of bulk at most 1048576: NARROWER than '..Said'. Prove '..Said' where nothing that the law and all that it calls make is longer than what came in: it says more and counts as full. Else prove '..UptoSaid'. A law counts once. -/
mutual
def uptoBulk {H : Type} : DataW H → Nat
  | .lit (.string bytes) => bytes.length + 1
  | .lit _ => 1
  | .nil => 1
  | .ptr d => uptoBulk d + 1
  | .slice elems spare => uptoBulkAll elems + uptoBulkAll spare + 1
  | .agg parts => uptoBulkAll parts + 1
  | .iface _ d => uptoBulk d + 1
  | .map entries => uptoBulkEntries entries + 1
  | .held _ => 1
def uptoBulkAll {H : Type} : List (DataW H) → Nat
  | [] => 0
  | d :: r => uptoBulk d + uptoBulkAll r
def uptoBulkEntries {H : Type} : List (Lit × DataW H) → Nat
  | [] => 0
  | x :: r => uptoBulkEntry x + uptoBulkEntries r
def uptoBulkEntry {H : Type} : Lit × DataW H → Nat
  | (.string bytes, d) => bytes.length + uptoBulk d + 1
  | (_, d) => uptoBulk d + 1
 end
def uptoSmall : (H : Type) → List (DataW H) → Bool := fun _ ds => decide (uptoBulkAll ds ≤ 1048576)
def OpenSpec.upto (s : _root_.Go.ChangeSpec) : _root_.Go.OpenSpec := { _root_.Go.OpenSpec.ofChange s with cond := some uptoSmall }

/-- 'smithyardlaw8.WireTakesAgain', WHERE WHAT IT READS IS OF BULK AT MOST 1048576: true; the input reads as it did. -/
def wireTakesAgainUptoRow : OpenClaim := { program := "ytjacnfjlocajoaadoor", sum := "e832982154b6ed543a06651ccf5b6694578e3d96d6c834cb9b29d60bf282c965", func := "smithyard/smithyardlaw8.WireTakesAgain", spec := "wireTakesAgain", inPlace := ["internal/bytealg.IndexByteString", "internal/bytealg.IndexString", "internal/bytealg.abigen_runtime_cmpstring", "slices.overlaps[smithyard/api.Object]", "slices.overlaps[smithyard/api.Partial]"], unfollowed := true, recurses := true, named := ["unicode/utf8.first", "unicode/utf8.acceptRanges", "internal/bytealg.MaxLen"], apart := false, laid := [("unicode/utf8.acceptRanges", laid_unicode_utf8_acceptRanges), ("unicode/utf8.first", laid_unicode_utf8_first)], narrowed := true }
def WireTakesAgainUptoSaid : Prop := wireTakesAgainUptoRow.holds Tryd.pinned (OpenSpec.upto wireTakesAgainSpec)

/-- 'smithyardlaw8.WireTakesStayRight', WHERE WHAT IT READS IS OF BULK AT MOST 1048576: true; the input reads as it did. -/
def wireTakesStayRightUptoRow : OpenClaim := { program := "ytjacnfjlocajoaadoor", sum := "e832982154b6ed543a06651ccf5b6694578e3d96d6c834cb9b29d60bf282c965", func := "smithyard/smithyardlaw8.WireTakesStayRight", spec := "wireTakesStayRight", inPlace := ["internal/bytealg.IndexByteString", "internal/bytealg.IndexString", "internal/bytealg.abigen_runtime_cmpstring", "slices.overlaps[smithyard/api.Object]", "slices.overlaps[smithyard/api.Partial]"], unfollowed := true, recurses := true, named := ["unicode/utf8.first", "unicode/utf8.acceptRanges", "internal/bytealg.MaxLen"], apart := false, laid := [("unicode/utf8.acceptRanges", laid_unicode_utf8_acceptRanges), ("unicode/utf8.first", laid_unicode_utf8_first)], narrowed := true }
def WireTakesStayRightUptoSaid : Prop := wireTakesStayRightUptoRow.holds Tryd.pinned (OpenSpec.upto wireTakesStayRightSpec)

/-- 'smithyardlaw8.WireMessagesArrive', WHERE WHAT IT READS IS OF BULK AT MOST 1048576: true; the input reads as it did. -/
def wireMessagesArriveUptoRow : OpenClaim := { program := "ytjacnfjlocajoaadoor", sum := "e832982154b6ed543a06651ccf5b6694578e3d96d6c834cb9b29d60bf282c965", func := "smithyard/smithyardlaw8.WireMessagesArrive", spec := "wireMessagesArrive", inPlace := ["internal/bytealg.IndexByteString", "internal/bytealg.IndexString", "internal/bytealg.abigen_runtime_cmpstring", "slices.overlaps[smithyard/api.Object]", "slices.overlaps[smithyard/api.Partial]"], unfollowed := true, recurses := true, named := ["unicode/utf8.first", "unicode/utf8.acceptRanges", "internal/bytealg.MaxLen"], apart := false, laid := [("unicode/utf8.acceptRanges", laid_unicode_utf8_acceptRanges), ("unicode/utf8.first", laid_unicode_utf8_first)], narrowed := true }
def WireMessagesArriveUptoSaid : Prop := wireMessagesArriveUptoRow.holds Tryd.pinned (OpenSpec.upto wireMessagesArriveSpec)

/-- 'smithyardlaw8.WireTakesMatchSpec', WHERE WHAT IT READS IS OF BULK AT MOST 1048576: true; the input reads as it did. -/
def wireTakesMatchSpecUptoRow : OpenClaim := { program := "ytjacnfjlocajoaadoor", sum := "e832982154b6ed543a06651ccf5b6694578e3d96d6c834cb9b29d60bf282c965", func := "smithyard/smithyardlaw8.WireTakesMatchSpec", spec := "wireTakesMatchSpec", inPlace := ["internal/bytealg.IndexByteString", "internal/bytealg.IndexString", "internal/bytealg.abigen_runtime_cmpstring", "slices.overlaps[smithyard/api.Object]", "slices.overlaps[smithyard/api.Partial]"], unfollowed := true, recurses := true, named := ["unicode/utf8.first", "unicode/utf8.acceptRanges", "internal/bytealg.MaxLen"], apart := false, laid := [("unicode/utf8.acceptRanges", laid_unicode_utf8_acceptRanges), ("unicode/utf8.first", laid_unicode_utf8_first)], narrowed := true }
def WireTakesMatchSpecUptoSaid : Prop := wireTakesMatchSpecUptoRow.holds Tryd.pinned (OpenSpec.upto wireTakesMatchSpecSpec)

/-- 'smithyardlaw8.WireDeliversArrive', WHERE WHAT IT READS IS OF BULK AT MOST 1048576: true; the input reads as it did. -/
def wireDeliversArriveUptoRow : OpenClaim := { program := "ytjacnfjlocajoaadoor", sum := "e832982154b6ed543a06651ccf5b6694578e3d96d6c834cb9b29d60bf282c965", func := "smithyard/smithyardlaw8.WireDeliversArrive", spec := "wireDeliversArrive", inPlace := ["internal/bytealg.IndexByteString", "internal/bytealg.IndexString", "internal/bytealg.abigen_runtime_cmpstring", "slices.overlaps[smithyard/api.Object]", "slices.overlaps[smithyard/api.Partial]"], unfollowed := true, recurses := true, named := ["unicode/utf8.first", "unicode/utf8.acceptRanges", "internal/bytealg.MaxLen"], apart := false, laid := [("unicode/utf8.acceptRanges", laid_unicode_utf8_acceptRanges), ("unicode/utf8.first", laid_unicode_utf8_first)], narrowed := true }
def WireDeliversArriveUptoSaid : Prop := wireDeliversArriveUptoRow.holds Tryd.pinned (OpenSpec.upto wireDeliversArriveSpec)

/-- 'smithyardlaw8.WireDeliversMatchSpec', WHERE WHAT IT READS IS OF BULK AT MOST 1048576: true; the input reads as it did. -/
def wireDeliversMatchSpecUptoRow : OpenClaim := { program := "ytjacnfjlocajoaadoor", sum := "e832982154b6ed543a06651ccf5b6694578e3d96d6c834cb9b29d60bf282c965", func := "smithyard/smithyardlaw8.WireDeliversMatchSpec", spec := "wireDeliversMatchSpec", inPlace := ["internal/bytealg.IndexByteString", "internal/bytealg.IndexString", "internal/bytealg.abigen_runtime_cmpstring", "slices.overlaps[smithyard/api.Object]", "slices.overlaps[smithyard/api.Partial]"], unfollowed := true, recurses := true, named := ["unicode/utf8.first", "unicode/utf8.acceptRanges", "internal/bytealg.MaxLen"], apart := false, laid := [("unicode/utf8.acceptRanges", laid_unicode_utf8_acceptRanges), ("unicode/utf8.first", laid_unicode_utf8_first)], narrowed := true }
def WireDeliversMatchSpecUptoSaid : Prop := wireDeliversMatchSpecUptoRow.holds Tryd.pinned (OpenSpec.upto wireDeliversMatchSpecSpec)

end Rows
end Go.Proofs.YtjacnfjlocajoaaDoor
