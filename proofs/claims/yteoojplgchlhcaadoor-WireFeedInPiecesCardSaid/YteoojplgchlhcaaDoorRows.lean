/-
  NARROWER THAN 'FOR EVERY INPUT', by the rows' own cells (each row's printed sentence says how): WireBatchesHoldAll: laid · WireMessagesMatchSpec: laid · WireWantedMatchesSpec: laid · WireFeedMatchesSpec: laid · WireFramesMatchSpec: laid · WireFeedInPieces: laid.
  DERIVED. THE GIVEN ROWS OF THIS SEAT. 6 by the template 'for every input the law returns true; each argument reads behind the call as it read before'; 0 by the template 'total and deterministic' (their statements: YteoojplgchlhcaaDoorTotals.lean).
  GIVEN WITH THE SEED: the statements are not yours to turn. If you find one false, say at which input.
  Laid BY PROGRAM, IN A SANDBOX (cutbox-rows.mjs): the forced cells as the released guide's own fill.sh prints them over the translation e50eafc6be1b63b7… (all of the seat's roots in one cut). By AI agents, Wed Nov 11 2026. No macro, syntax, notation, axiom, sorry.
-/
import Derived.Test.YteoojplgchlhcaaDoorChecked
import GoSem.PinnedTables
import GoSem.Claim
import GoSem.ClaimJoined
import GoSem.ClaimMapViews
import Derived.JoinedTies
import Derived.KernelRfl
namespace Go.Proofs.YteoojplgchlhcaaDoor
/- THE CELL 'sum', in the pinned program and in every row, IS THE sha256 OF THE DUMP (.gsa) THAT YteoojplgchlhcaaDoorProg.lean LOADS. Nothing in Lean hashes anything: it is a label: what it is worth is what the hold of that sum in a sandbox is worth. -/
noncomputable def Tryd.pinned : Pinned := { name := "yteoojplgchlhcaadoor", sum := "e50eafc6be1b63b77d58fa4185907def80a1ee870bba4dc06c36950ea4648a58", checked := Tryd.checked }
namespace Rows
def none {H : Type} : Left H := { results := [], args := [] }

/- WHAT THE LISTED PACKAGE-LEVEL VARIABLES READ AS WHEN THE CALL BEGINS. Each datum BY PROGRAM (the guide's laid-datum.mjs) off the statement by which the dump's own 'gosem.cut.vars' lays the variable. In a bare row this is a premise. The card (YteoojplgchlhcaaDoorCards.lean) ties it to the program's text. -/
def laid_unicode_utf8_acceptRanges {H : Type} : DataW H := .agg [.agg [.lit (.int .u8 128), .lit (.int .u8 191)], .agg [.lit (.int .u8 160), .lit (.int .u8 191)], .agg [.lit (.int .u8 128), .lit (.int .u8 159)], .agg [.lit (.int .u8 144), .lit (.int .u8 191)], .agg [.lit (.int .u8 128), .lit (.int .u8 143)], .agg [.lit (.int .u8 0), .lit (.int .u8 0)], .agg [.lit (.int .u8 0), .lit (.int .u8 0)], .agg [.lit (.int .u8 0), .lit (.int .u8 0)], .agg [.lit (.int .u8 0), .lit (.int .u8 0)], .agg [.lit (.int .u8 0), .lit (.int .u8 0)], .agg [.lit (.int .u8 0), .lit (.int .u8 0)], .agg [.lit (.int .u8 0), .lit (.int .u8 0)], .agg [.lit (.int .u8 0), .lit (.int .u8 0)], .agg [.lit (.int .u8 0), .lit (.int .u8 0)], .agg [.lit (.int .u8 0), .lit (.int .u8 0)], .agg [.lit (.int .u8 0), .lit (.int .u8 0)]]
/-- One of Go's own tables, pinned by name: the form's constant. -/
def laid_unicode_utf8_first : DataW Unit := Go.Pinned.utf8First

/-- 'smithyardlaw8.WireBatchesHoldAll': WHATEVER THE INPUT: true; the input reads as it did. -/
def wireBatchesHoldAllSpec : ChangeSpec := { name := "wireBatchesHoldAll", fn := fun _ => fun
  | [d1, d2, d3] => { results := [.lit (.bool true)], args := [d1, d2, d3] }
  | _ => none }
def wireBatchesHoldAllRow : OpenClaim := { program := "yteoojplgchlhcaadoor", sum := "e50eafc6be1b63b77d58fa4185907def80a1ee870bba4dc06c36950ea4648a58", func := "smithyard/smithyardlaw8.WireBatchesHoldAll", spec := "wireBatchesHoldAll", inPlace := ["internal/bytealg.IndexByteString", "internal/bytealg.IndexString"], named := ["unicode/utf8.first", "unicode/utf8.acceptRanges", "internal/bytealg.MaxLen"], apart := false, laid := [("unicode/utf8.acceptRanges", laid_unicode_utf8_acceptRanges), ("unicode/utf8.first", laid_unicode_utf8_first)] }
def WireBatchesHoldAllSaid : Prop := wireBatchesHoldAllRow.holds Tryd.pinned (OpenSpec.ofChange wireBatchesHoldAllSpec)

/-- ITS FALSE NEIGHBOUR: 'it returns false'. Refute it at one input. -/
def wireBatchesHoldAllWrong : ChangeSpec := { name := "wireBatchesHoldAll", fn := fun _ => fun
  | [d1, d2, d3] => { results := [.lit (.bool false)], args := [d1, d2, d3] }
  | _ => none }
def WireBatchesHoldAllWrongFalsely : Prop := wireBatchesHoldAllRow.holds Tryd.pinned (OpenSpec.ofChange wireBatchesHoldAllWrong)

/-- 'smithyardlaw8.WireMessagesMatchSpec': WHATEVER THE INPUT: true; the input reads as it did. -/
def wireMessagesMatchSpecSpec : ChangeSpec := { name := "wireMessagesMatchSpec", fn := fun _ => fun
  | [d1, d2, d3, d4] => { results := [.lit (.bool true)], args := [d1, d2, d3, d4] }
  | _ => none }
def wireMessagesMatchSpecRow : OpenClaim := { program := "yteoojplgchlhcaadoor", sum := "e50eafc6be1b63b77d58fa4185907def80a1ee870bba4dc06c36950ea4648a58", func := "smithyard/smithyardlaw8.WireMessagesMatchSpec", spec := "wireMessagesMatchSpec", inPlace := ["internal/bytealg.IndexByteString", "internal/bytealg.IndexString"], named := ["unicode/utf8.first", "unicode/utf8.acceptRanges", "internal/bytealg.MaxLen"], apart := false, laid := [("unicode/utf8.acceptRanges", laid_unicode_utf8_acceptRanges), ("unicode/utf8.first", laid_unicode_utf8_first)] }
def WireMessagesMatchSpecSaid : Prop := wireMessagesMatchSpecRow.holds Tryd.pinned (OpenSpec.ofChange wireMessagesMatchSpecSpec)

/-- ITS FALSE NEIGHBOUR: 'it returns false'. Refute it at one input. -/
def wireMessagesMatchSpecWrong : ChangeSpec := { name := "wireMessagesMatchSpec", fn := fun _ => fun
  | [d1, d2, d3, d4] => { results := [.lit (.bool false)], args := [d1, d2, d3, d4] }
  | _ => none }
def WireMessagesMatchSpecWrongFalsely : Prop := wireMessagesMatchSpecRow.holds Tryd.pinned (OpenSpec.ofChange wireMessagesMatchSpecWrong)

/-- 'smithyardlaw8.WireWantedMatchesSpec': WHATEVER THE INPUT: true; the input reads as it did. -/
def wireWantedMatchesSpecSpec : ChangeSpec := { name := "wireWantedMatchesSpec", fn := fun _ => fun
  | [d1, d2, d3, d4] => { results := [.lit (.bool true)], args := [d1, d2, d3, d4] }
  | _ => none }
def wireWantedMatchesSpecRow : OpenClaim := { program := "yteoojplgchlhcaadoor", sum := "e50eafc6be1b63b77d58fa4185907def80a1ee870bba4dc06c36950ea4648a58", func := "smithyard/smithyardlaw8.WireWantedMatchesSpec", spec := "wireWantedMatchesSpec", inPlace := ["internal/bytealg.IndexByteString", "internal/bytealg.IndexString"], named := ["unicode/utf8.first", "unicode/utf8.acceptRanges", "internal/bytealg.MaxLen"], apart := false, laid := [("unicode/utf8.acceptRanges", laid_unicode_utf8_acceptRanges), ("unicode/utf8.first", laid_unicode_utf8_first)] }
def WireWantedMatchesSpecSaid : Prop := wireWantedMatchesSpecRow.holds Tryd.pinned (OpenSpec.ofChange wireWantedMatchesSpecSpec)

/-- ITS FALSE NEIGHBOUR: 'it returns false'. Refute it at one input. -/
def wireWantedMatchesSpecWrong : ChangeSpec := { name := "wireWantedMatchesSpec", fn := fun _ => fun
  | [d1, d2, d3, d4] => { results := [.lit (.bool false)], args := [d1, d2, d3, d4] }
  | _ => none }
def WireWantedMatchesSpecWrongFalsely : Prop := wireWantedMatchesSpecRow.holds Tryd.pinned (OpenSpec.ofChange wireWantedMatchesSpecWrong)

/-- 'smithyardlaw8.WireFeedMatchesSpec': WHATEVER THE INPUT: true; the input reads as it did. -/
def wireFeedMatchesSpecSpec : ChangeSpec := { name := "wireFeedMatchesSpec", fn := fun _ => fun
  | [d1, d2] => { results := [.lit (.bool true)], args := [d1, d2] }
  | _ => none }
def wireFeedMatchesSpecRow : OpenClaim := { program := "yteoojplgchlhcaadoor", sum := "e50eafc6be1b63b77d58fa4185907def80a1ee870bba4dc06c36950ea4648a58", func := "smithyard/smithyardlaw8.WireFeedMatchesSpec", spec := "wireFeedMatchesSpec", inPlace := ["internal/bytealg.IndexByteString", "internal/bytealg.IndexString"], named := ["unicode/utf8.first", "unicode/utf8.acceptRanges", "internal/bytealg.MaxLen"], apart := false, laid := [("unicode/utf8.acceptRanges", laid_unicode_utf8_acceptRanges), ("unicode/utf8.first", laid_unicode_utf8_first)] }
def WireFeedMatchesSpecSaid : Prop := wireFeedMatchesSpecRow.holds Tryd.pinned (OpenSpec.ofChange wireFeedMatchesSpecSpec)

/-- ITS FALSE NEIGHBOUR: 'it returns false'. Refute it at one input. -/
def wireFeedMatchesSpecWrong : ChangeSpec := { name := "wireFeedMatchesSpec", fn := fun _ => fun
  | [d1, d2] => { results := [.lit (.bool false)], args := [d1, d2] }
  | _ => none }
def WireFeedMatchesSpecWrongFalsely : Prop := wireFeedMatchesSpecRow.holds Tryd.pinned (OpenSpec.ofChange wireFeedMatchesSpecWrong)

/-- 'smithyardlaw8.WireFramesMatchSpec': WHATEVER THE INPUT: true; the input reads as it did. -/
def wireFramesMatchSpecSpec : ChangeSpec := { name := "wireFramesMatchSpec", fn := fun _ => fun
  | [d] => { results := [.lit (.bool true)], args := [d] }
  | _ => none }
def wireFramesMatchSpecRow : OpenClaim := { program := "yteoojplgchlhcaadoor", sum := "e50eafc6be1b63b77d58fa4185907def80a1ee870bba4dc06c36950ea4648a58", func := "smithyard/smithyardlaw8.WireFramesMatchSpec", spec := "wireFramesMatchSpec", inPlace := ["internal/bytealg.IndexByteString", "internal/bytealg.IndexString"], named := ["unicode/utf8.first", "unicode/utf8.acceptRanges", "internal/bytealg.MaxLen"], apart := false, laid := [("unicode/utf8.acceptRanges", laid_unicode_utf8_acceptRanges), ("unicode/utf8.first", laid_unicode_utf8_first)] }
def WireFramesMatchSpecSaid : Prop := wireFramesMatchSpecRow.holds Tryd.pinned (OpenSpec.ofChange wireFramesMatchSpecSpec)

/-- ITS FALSE NEIGHBOUR: 'it returns false'. Refute it at one input. -/
def wireFramesMatchSpecWrong : ChangeSpec := { name := "wireFramesMatchSpec", fn := fun _ => fun
  | [d] => { results := [.lit (.bool false)], args := [d] }
  | _ => none }
def WireFramesMatchSpecWrongFalsely : Prop := wireFramesMatchSpecRow.holds Tryd.pinned (OpenSpec.ofChange wireFramesMatchSpecWrong)

/-- 'smithyardlaw8.WireFeedInPieces': WHATEVER THE INPUT: true; the input reads as it did. -/
def wireFeedInPiecesSpec : ChangeSpec := { name := "wireFeedInPieces", fn := fun _ => fun
  | [d1, d2] => { results := [.lit (.bool true)], args := [d1, d2] }
  | _ => none }
def wireFeedInPiecesRow : OpenClaim := { program := "yteoojplgchlhcaadoor", sum := "e50eafc6be1b63b77d58fa4185907def80a1ee870bba4dc06c36950ea4648a58", func := "smithyard/smithyardlaw8.WireFeedInPieces", spec := "wireFeedInPieces", inPlace := ["internal/bytealg.IndexByteString", "internal/bytealg.IndexString"], named := ["unicode/utf8.first", "unicode/utf8.acceptRanges", "internal/bytealg.MaxLen"], apart := false, laid := [("unicode/utf8.acceptRanges", laid_unicode_utf8_acceptRanges), ("unicode/utf8.first", laid_unicode_utf8_first)] }
def WireFeedInPiecesSaid : Prop := wireFeedInPiecesRow.holds Tryd.pinned (OpenSpec.ofChange wireFeedInPiecesSpec)

/-- ITS FALSE NEIGHBOUR: 'it returns false'. Refute it at one input. -/
def wireFeedInPiecesWrong : ChangeSpec := { name := "wireFeedInPieces", fn := fun _ => fun
  | [d1, d2] => { results := [.lit (.bool false)], args := [d1, d2] }
  | _ => none }
def WireFeedInPiecesWrongFalsely : Prop := wireFeedInPiecesRow.holds Tryd.pinned (OpenSpec.ofChange wireFeedInPiecesWrong)

/- THE SECOND FORM. 'bulk': how many values and letters a reading holds, each counted each time it is reached (what is shared counts as often as it is met; a slice's spare places count too). A statement '..UptoSaid' is the law's where the arguments, and the package variables that the reading takes, are together of bulk at most 1048576: NARROWER than '..Said'. Prove '..Said' where nothing that the law and all that it calls make is longer than what came in: it says more and counts as full. Else prove '..UptoSaid'. A law counts once. -/
mutual
def uptoBulk {H : Type} : DataW H → Nat
  | .lit (.string bytes) => bytes.length + 1
  | .lit _ => 1
  | .nil => 1
  | .ptr d => uptoBulk d + 1
  | .slice elems spare => uptoBulkAll elems + uptoBulkAll spare + 1
  | .agg parts => uptoBulkAll parts + 1
  | .iface _ d => uptoBulk d + 1
  | .map entries => uptoBulkEntries entries + 1
  | .held _ => 1
def uptoBulkAll {H : Type} : List (DataW H) → Nat
  | [] => 0
  | d :: r => uptoBulk d + uptoBulkAll r
def uptoBulkEntries {H : Type} : List (Lit × DataW H) → Nat
  | [] => 0
  | x :: r => uptoBulkEntry x + uptoBulkEntries r
def uptoBulkEntry {H : Type} : Lit × DataW H → Nat
  | (.string bytes, d) => bytes.length + uptoBulk d + 1
  | (_, d) => uptoBulk d + 1
 end
def uptoSmall : (H : Type) → List (DataW H) → Bool := fun _ ds => decide (uptoBulkAll ds ≤ 1048576)
def OpenSpec.upto (s : _root_.Go.ChangeSpec) : _root_.Go.OpenSpec := { _root_.Go.OpenSpec.ofChange s with cond := some uptoSmall }

/-- 'smithyardlaw8.WireBatchesHoldAll', WHERE WHAT IT READS IS OF BULK AT MOST 1048576: true; the input reads as it did. -/
def wireBatchesHoldAllUptoRow : OpenClaim := { program := "yteoojplgchlhcaadoor", sum := "e50eafc6be1b63b77d58fa4185907def80a1ee870bba4dc06c36950ea4648a58", func := "smithyard/smithyardlaw8.WireBatchesHoldAll", spec := "wireBatchesHoldAll", inPlace := ["internal/bytealg.IndexByteString", "internal/bytealg.IndexString"], named := ["unicode/utf8.first", "unicode/utf8.acceptRanges", "internal/bytealg.MaxLen"], apart := false, laid := [("unicode/utf8.acceptRanges", laid_unicode_utf8_acceptRanges), ("unicode/utf8.first", laid_unicode_utf8_first)], narrowed := true }
def WireBatchesHoldAllUptoSaid : Prop := wireBatchesHoldAllUptoRow.holds Tryd.pinned (OpenSpec.upto wireBatchesHoldAllSpec)

/-- 'smithyardlaw8.WireMessagesMatchSpec', WHERE WHAT IT READS IS OF BULK AT MOST 1048576: true; the input reads as it did. -/
def wireMessagesMatchSpecUptoRow : OpenClaim := { program := "yteoojplgchlhcaadoor", sum := "e50eafc6be1b63b77d58fa4185907def80a1ee870bba4dc06c36950ea4648a58", func := "smithyard/smithyardlaw8.WireMessagesMatchSpec", spec := "wireMessagesMatchSpec", inPlace := ["internal/bytealg.IndexByteString", "internal/bytealg.IndexString"], named := ["unicode/utf8.first", "unicode/utf8.acceptRanges", "internal/bytealg.MaxLen"], apart := false, laid := [("unicode/utf8.acceptRanges", laid_unicode_utf8_acceptRanges), ("unicode/utf8.first", laid_unicode_utf8_first)], narrowed := true }
def WireMessagesMatchSpecUptoSaid : Prop := wireMessagesMatchSpecUptoRow.holds Tryd.pinned (OpenSpec.upto wireMessagesMatchSpecSpec)

/-- 'smithyardlaw8.WireWantedMatchesSpec', WHERE WHAT IT READS IS OF BULK AT MOST 1048576: true; the input reads as it did. -/
def wireWantedMatchesSpecUptoRow : OpenClaim := { program := "yteoojplgchlhcaadoor", sum := "e50eafc6be1b63b77d58fa4185907def80a1ee870bba4dc06c36950ea4648a58", func := "smithyard/smithyardlaw8.WireWantedMatchesSpec", spec := "wireWantedMatchesSpec", inPlace := ["internal/bytealg.IndexByteString", "internal/bytealg.IndexString"], named := ["unicode/utf8.first", "unicode/utf8.acceptRanges", "internal/bytealg.MaxLen"], apart := false, laid := [("unicode/utf8.acceptRanges", laid_unicode_utf8_acceptRanges), ("unicode/utf8.first", laid_unicode_utf8_first)], narrowed := true }
def WireWantedMatchesSpecUptoSaid : Prop := wireWantedMatchesSpecUptoRow.holds Tryd.pinned (OpenSpec.upto wireWantedMatchesSpecSpec)

/-- 'smithyardlaw8.WireFeedMatchesSpec', WHERE WHAT IT READS IS OF BULK AT MOST 1048576: true; the input reads as it did. -/
def wireFeedMatchesSpecUptoRow : OpenClaim := { program := "yteoojplgchlhcaadoor", sum := "e50eafc6be1b63b77d58fa4185907def80a1ee870bba4dc06c36950ea4648a58", func := "smithyard/smithyardlaw8.WireFeedMatchesSpec", spec := "wireFeedMatchesSpec", inPlace := ["internal/bytealg.IndexByteString", "internal/bytealg.IndexString"], named := ["unicode/utf8.first", "unicode/utf8.acceptRanges", "internal/bytealg.MaxLen"], apart := false, laid := [("unicode/utf8.acceptRanges", laid_unicode_utf8_acceptRanges), ("unicode/utf8.first", laid_unicode_utf8_first)], narrowed := true }
def WireFeedMatchesSpecUptoSaid : Prop := wireFeedMatchesSpecUptoRow.holds Tryd.pinned (OpenSpec.upto wireFeedMatchesSpecSpec)

/-- 'smithyardlaw8.WireFramesMatchSpec', WHERE WHAT IT READS IS OF BULK AT MOST 1048576: true; the input reads as it did. -/
def wireFramesMatchSpecUptoRow : OpenClaim := { program := "yteoojplgchlhcaadoor", sum := "e50eafc6be1b63b77d58fa4185907def80a1ee870bba4dc06c36950ea4648a58", func := "smithyard/smithyardlaw8.WireFramesMatchSpec", spec := "wireFramesMatchSpec", inPlace := ["internal/bytealg.IndexByteString", "internal/bytealg.IndexString"], named := ["unicode/utf8.first", "unicode/utf8.acceptRanges", "internal/bytealg.MaxLen"], apart := false, laid := [("unicode/utf8.acceptRanges", laid_unicode_utf8_acceptRanges), ("unicode/utf8.first", laid_unicode_utf8_first)], narrowed := true }
def WireFramesMatchSpecUptoSaid : Prop := wireFramesMatchSpecUptoRow.holds Tryd.pinned (OpenSpec.upto wireFramesMatchSpecSpec)

/-- 'smithyardlaw8.WireFeedInPieces', WHERE WHAT IT READS IS OF BULK AT MOST 1048576: true; the input reads as it did. -/
def wireFeedInPiecesUptoRow : OpenClaim := { program := "yteoojplgchlhcaadoor", sum := "e50eafc6be1b63b77d58fa4185907def80a1ee870bba4dc06c36950ea4648a58", func := "smithyard/smithyardlaw8.WireFeedInPieces", spec := "wireFeedInPieces", inPlace := ["internal/bytealg.IndexByteString", "internal/bytealg.IndexString"], named := ["unicode/utf8.first", "unicode/utf8.acceptRanges", "internal/bytealg.MaxLen"], apart := false, laid := [("unicode/utf8.acceptRanges", laid_unicode_utf8_acceptRanges), ("unicode/utf8.first", laid_unicode_utf8_first)], narrowed := true }
def WireFeedInPiecesUptoSaid : Prop := wireFeedInPiecesUptoRow.holds Tryd.pinned (OpenSpec.upto wireFeedInPiecesSpec)

end Rows
end Go.Proofs.YteoojplgchlhcaaDoor
