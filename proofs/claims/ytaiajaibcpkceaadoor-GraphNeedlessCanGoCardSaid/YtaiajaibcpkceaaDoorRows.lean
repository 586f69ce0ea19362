/-
  NARROWER THAN 'FOR EVERY INPUT', by the rows' own cells (each row's printed sentence says how): GraphLongestIsHeaviest: laid · GraphLoopsAreLoops: laid · GraphAffectedSpreads: laid · GraphNeedsTurn: laid · GraphWaysAreWays: laid · GraphNeedlessCanGo: laid.
  DERIVED. THE GIVEN ROWS OF THIS SEAT. 6 by the template 'for every input the law returns true; each argument reads behind the call as it read before'; 0 by the template 'total and deterministic' (their statements: YtaiajaibcpkceaaDoorTotals.lean).
  GIVEN WITH THE SEED: the statements are not yours to turn. If you find one false, say at which input.
  Laid BY PROGRAM, IN A SANDBOX (cutbox-rows.mjs): the forced cells as the released guide's own fill.sh prints them over the translation d21bcb84898445a3… (all of the seat's roots in one cut). By AI agents, Wed Nov 11 2026. No macro, syntax, notation, axiom, sorry.
-/
import Derived.Test.YtaiajaibcpkceaaDoorChecked
import GoSem.PinnedTables
import GoSem.Claim
import GoSem.ClaimJoined
import GoSem.ClaimMapViews
import Derived.JoinedTies
import Derived.KernelRfl
namespace Go.Proofs.YtaiajaibcpkceaaDoor
/- THE CELL 'sum', in the pinned program and in every row, IS THE sha256 OF THE DUMP (.gsa) THAT YtaiajaibcpkceaaDoorProg.lean LOADS. Nothing in Lean hashes anything: it is a label: what it is worth is what the hold of that sum in a sandbox is worth. -/
noncomputable def Tryd.pinned : Pinned := { name := "ytaiajaibcpkceaadoor", sum := "d21bcb84898445a3c1c72c83046dc689d70d288d0a69f0bfd3fb24e12d13ff06", checked := Tryd.checked }
namespace Rows
def none {H : Type} : Left H := { results := [], args := [] }

/- WHAT THE LISTED PACKAGE-LEVEL VARIABLES READ AS WHEN THE CALL BEGINS. Each datum BY PROGRAM (the guide's laid-datum.mjs) off the statement by which the dump's own 'gosem.cut.vars' lays the variable. In a bare row this is a premise. The card (YtaiajaibcpkceaaDoorCards.lean) ties it to the program's text. -/
def laid_unicode_utf8_acceptRanges {H : Type} : DataW H := .agg [.agg [.lit (.int .u8 128), .lit (.int .u8 191)], .agg [.lit (.int .u8 160), .lit (.int .u8 191)], .agg [.lit (.int .u8 128), .lit (.int .u8 159)], .agg [.lit (.int .u8 144), .lit (.int .u8 191)], .agg [.lit (.int .u8 128), .lit (.int .u8 143)], .agg [.lit (.int .u8 0), .lit (.int .u8 0)], .agg [.lit (.int .u8 0), .lit (.int .u8 0)], .agg [.lit (.int .u8 0), .lit (.int .u8 0)], .agg [.lit (.int .u8 0), .lit (.int .u8 0)], .agg [.lit (.int .u8 0), .lit (.int .u8 0)], .agg [.lit (.int .u8 0), .lit (.int .u8 0)], .agg [.lit (.int .u8 0), .lit (.int .u8 0)], .agg [.lit (.int .u8 0), .lit (.int .u8 0)], .agg [.lit (.int .u8 0), .lit (.int .u8 0)], .agg [.lit (.int .u8 0), .lit (.int .u8 0)], .agg [.lit (.int .u8 0), .lit (.int .u8 0)]]
/-- One of Go's own tables, pinned by name: the form's constant. -/
def laid_unicode_utf8_first : DataW Unit := Go.Pinned.utf8First

/-- 'smithyardlaw4.GraphLongestIsHeaviest': WHATEVER THE INPUT: true; the input reads as it did. -/
def graphLongestIsHeaviestSpec : ChangeSpec := { name := "graphLongestIsHeaviest", fn := fun _ => fun
  | [d] => { results := [.lit (.bool true)], args := [d] }
  | _ => none }
def graphLongestIsHeaviestRow : OpenClaim := { program := "ytaiajaibcpkceaadoor", sum := "d21bcb84898445a3c1c72c83046dc689d70d288d0a69f0bfd3fb24e12d13ff06", func := "smithyard/smithyardlaw4.GraphLongestIsHeaviest", spec := "graphLongestIsHeaviest", inPlace := ["internal/bytealg.CountString", "internal/bytealg.IndexByteString", "internal/bytealg.IndexString", "internal/bytealg.abigen_runtime_cmpstring"], unfollowed := true, recurses := true, named := ["unicode/utf8.first", "unicode/utf8.acceptRanges", "internal/bytealg.MaxLen"], apart := false, laid := [("unicode/utf8.acceptRanges", laid_unicode_utf8_acceptRanges), ("unicode/utf8.first", laid_unicode_utf8_first)] }
def GraphLongestIsHeaviestSaid : Prop := graphLongestIsHeaviestRow.holds Tryd.pinned (OpenSpec.ofChange graphLongestIsHeaviestSpec)

/-- ITS FALSE NEIGHBOUR: 'it returns false'. Refute it at one input. -/
def graphLongestIsHeaviestWrong : ChangeSpec := { name := "graphLongestIsHeaviest", fn := fun _ => fun
  | [d] => { results := [.lit (.bool false)], args := [d] }
  | _ => none }
def GraphLongestIsHeaviestWrongFalsely : Prop := graphLongestIsHeaviestRow.holds Tryd.pinned (OpenSpec.ofChange graphLongestIsHeaviestWrong)

/-- 'smithyardlaw4.GraphLoopsAreLoops': WHATEVER THE INPUT: true; the input reads as it did. -/
def graphLoopsAreLoopsSpec : ChangeSpec := { name := "graphLoopsAreLoops", fn := fun _ => fun
  | [d] => { results := [.lit (.bool true)], args := [d] }
  | _ => none }
def graphLoopsAreLoopsRow : OpenClaim := { program := "ytaiajaibcpkceaadoor", sum := "d21bcb84898445a3c1c72c83046dc689d70d288d0a69f0bfd3fb24e12d13ff06", func := "smithyard/smithyardlaw4.GraphLoopsAreLoops", spec := "graphLoopsAreLoops", inPlace := ["internal/bytealg.CountString", "internal/bytealg.IndexByteString", "internal/bytealg.IndexString", "internal/bytealg.abigen_runtime_cmpstring"], unfollowed := true, recurses := true, named := ["unicode/utf8.first", "unicode/utf8.acceptRanges", "internal/bytealg.MaxLen"], apart := false, laid := [("unicode/utf8.acceptRanges", laid_unicode_utf8_acceptRanges), ("unicode/utf8.first", laid_unicode_utf8_first)] }
def GraphLoopsAreLoopsSaid : Prop := graphLoopsAreLoopsRow.holds Tryd.pinned (OpenSpec.ofChange graphLoopsAreLoopsSpec)

/-- ITS FALSE NEIGHBOUR: 'it returns false'. Refute it at one input. -/
def graphLoopsAreLoopsWrong : ChangeSpec := { name := "graphLoopsAreLoops", fn := fun _ => fun
  | [d] => { results := [.lit (.bool false)], args := [d] }
  | _ => none }
def GraphLoopsAreLoopsWrongFalsely : Prop := graphLoopsAreLoopsRow.holds Tryd.pinned (OpenSpec.ofChange graphLoopsAreLoopsWrong)

/-- 'smithyardlaw4.GraphAffectedSpreads': WHATEVER THE INPUT: true; the input reads as it did. -/
def graphAffectedSpreadsSpec : ChangeSpec := { name := "graphAffectedSpreads", fn := fun _ => fun
  | [d1, d2] => { results := [.lit (.bool true)], args := [d1, d2] }
  | _ => none }
def graphAffectedSpreadsRow : OpenClaim := { program := "ytaiajaibcpkceaadoor", sum := "d21bcb84898445a3c1c72c83046dc689d70d288d0a69f0bfd3fb24e12d13ff06", func := "smithyard/smithyardlaw4.GraphAffectedSpreads", spec := "graphAffectedSpreads", inPlace := ["internal/bytealg.CountString", "internal/bytealg.IndexByteString", "internal/bytealg.IndexString", "internal/bytealg.abigen_runtime_cmpstring"], unfollowed := true, recurses := true, named := ["unicode/utf8.first", "unicode/utf8.acceptRanges", "internal/bytealg.MaxLen"], apart := false, laid := [("unicode/utf8.acceptRanges", laid_unicode_utf8_acceptRanges), ("unicode/utf8.first", laid_unicode_utf8_first)] }
def GraphAffectedSpreadsSaid : Prop := graphAffectedSpreadsRow.holds Tryd.pinned (OpenSpec.ofChange graphAffectedSpreadsSpec)

/-- ITS FALSE NEIGHBOUR: 'it returns false'. Refute it at one input. -/
def graphAffectedSpreadsWrong : ChangeSpec := { name := "graphAffectedSpreads", fn := fun _ => fun
  | [d1, d2] => { results := [.lit (.bool false)], args := [d1, d2] }
  | _ => none }
def GraphAffectedSpreadsWrongFalsely : Prop := graphAffectedSpreadsRow.holds Tryd.pinned (OpenSpec.ofChange graphAffectedSpreadsWrong)

/-- 'smithyardlaw4.GraphNeedsTurn': WHATEVER THE INPUT: true; the input reads as it did. -/
def graphNeedsTurnSpec : ChangeSpec := { name := "graphNeedsTurn", fn := fun _ => fun
  | [d1, d2, d3, d4] => { results := [.lit (.bool true)], args := [d1, d2, d3, d4] }
  | _ => none }
def graphNeedsTurnRow : OpenClaim := { program := "ytaiajaibcpkceaadoor", sum := "d21bcb84898445a3c1c72c83046dc689d70d288d0a69f0bfd3fb24e12d13ff06", func := "smithyard/smithyardlaw4.GraphNeedsTurn", spec := "graphNeedsTurn", inPlace := ["internal/bytealg.CountString", "internal/bytealg.IndexByteString", "internal/bytealg.IndexString", "internal/bytealg.abigen_runtime_cmpstring"], unfollowed := true, recurses := true, named := ["unicode/utf8.first", "unicode/utf8.acceptRanges", "internal/bytealg.MaxLen"], apart := false, laid := [("unicode/utf8.acceptRanges", laid_unicode_utf8_acceptRanges), ("unicode/utf8.first", laid_unicode_utf8_first)] }
def GraphNeedsTurnSaid : Prop := graphNeedsTurnRow.holds Tryd.pinned (OpenSpec.ofChange graphNeedsTurnSpec)

/-- ITS FALSE NEIGHBOUR: 'it returns false'. Refute it at one input. -/
def graphNeedsTurnWrong : ChangeSpec := { name := "graphNeedsTurn", fn := fun _ => fun
  | [d1, d2, d3, d4] => { results := [.lit (.bool false)], args := [d1, d2, d3, d4] }
  | _ => none }
def GraphNeedsTurnWrongFalsely : Prop := graphNeedsTurnRow.holds Tryd.pinned (OpenSpec.ofChange graphNeedsTurnWrong)

/-- 'smithyardlaw4.GraphWaysAreWays': WHATEVER THE INPUT: true; the input reads as it did. -/
def graphWaysAreWaysSpec : ChangeSpec := { name := "graphWaysAreWays", fn := fun _ => fun
  | [d1, d2, d3] => { results := [.lit (.bool true)], args := [d1, d2, d3] }
  | _ => none }
def graphWaysAreWaysRow : OpenClaim := { program := "ytaiajaibcpkceaadoor", sum := "d21bcb84898445a3c1c72c83046dc689d70d288d0a69f0bfd3fb24e12d13ff06", func := "smithyard/smithyardlaw4.GraphWaysAreWays", spec := "graphWaysAreWays", inPlace := ["internal/bytealg.CountString", "internal/bytealg.IndexByteString", "internal/bytealg.IndexString", "internal/bytealg.abigen_runtime_cmpstring"], unfollowed := true, recurses := true, named := ["unicode/utf8.first", "unicode/utf8.acceptRanges", "internal/bytealg.MaxLen"], apart := false, laid := [("unicode/utf8.acceptRanges", laid_unicode_utf8_acceptRanges), ("unicode/utf8.first", laid_unicode_utf8_first)] }
def GraphWaysAreWaysSaid : Prop := graphWaysAreWaysRow.holds Tryd.pinned (OpenSpec.ofChange graphWaysAreWaysSpec)

/-- ITS FALSE NEIGHBOUR: 'it returns false'. Refute it at one input. -/
def graphWaysAreWaysWrong : ChangeSpec := { name := "graphWaysAreWays", fn := fun _ => fun
  | [d1, d2, d3] => { results := [.lit (.bool false)], args := [d1, d2, d3] }
  | _ => none }
def GraphWaysAreWaysWrongFalsely : Prop := graphWaysAreWaysRow.holds Tryd.pinned (OpenSpec.ofChange graphWaysAreWaysWrong)

/-- 'smithyardlaw4.GraphNeedlessCanGo': WHATEVER THE INPUT: true; the input reads as it did. -/
def graphNeedlessCanGoSpec : ChangeSpec := { name := "graphNeedlessCanGo", fn := fun _ => fun
  | [d1, d2] => { results := [.lit (.bool true)], args := [d1, d2] }
  | _ => none }
def graphNeedlessCanGoRow : OpenClaim := { program := "ytaiajaibcpkceaadoor", sum := "d21bcb84898445a3c1c72c83046dc689d70d288d0a69f0bfd3fb24e12d13ff06", func := "smithyard/smithyardlaw4.GraphNeedlessCanGo", spec := "graphNeedlessCanGo", inPlace := ["internal/bytealg.CountString", "internal/bytealg.IndexByteString", "internal/bytealg.IndexString", "internal/bytealg.abigen_runtime_cmpstring"], unfollowed := true, recurses := true, named := ["unicode/utf8.first", "unicode/utf8.acceptRanges", "internal/bytealg.MaxLen"], apart := false, laid := [("unicode/utf8.acceptRanges", laid_unicode_utf8_acceptRanges), ("unicode/utf8.first", laid_unicode_utf8_first)] }
def GraphNeedlessCanGoSaid : Prop := graphNeedlessCanGoRow.holds Tryd.pinned (OpenSpec.ofChange graphNeedlessCanGoSpec)

/-- ITS FALSE NEIGHBOUR: 'it returns false'. Refute it at one input. -/
def graphNeedlessCanGoWrong : ChangeSpec := { name := "graphNeedlessCanGo", fn := fun _ => fun
  | [d1, d2] => { results := [.lit (.bool false)], args := [d1, d2] }
  | _ => none }
def GraphNeedlessCanGoWrongFalsely : Prop := graphNeedlessCanGoRow.holds Tryd.pinned (OpenSpec.ofChange graphNeedlessCanGoWrong)

/- THE SECOND FORM. 'bulk': how many values and letters a reading holds, each counted each time it is reached (what is shared counts as often as it is met; a slice's spare places count too). A statement '..UptoSaid' is the law's where the arguments, and the package variables that the reading takes, are together of bulk at most 1048576: NARROWER than '..Said'. Prove '..Said' where nothing that the law and all that it calls make is longer than what came in: it says more and counts as full. Else prove '..UptoSaid'. A law counts once. -/
mutual
def uptoBulk {H : Type} : DataW H → Nat
  | .lit (.string bytes) => bytes.length + 1
  | .lit _ => 1
  | .nil => 1
  | .ptr d => uptoBulk d + 1
  | .slice elems spare => uptoBulkAll elems + uptoBulkAll spare + 1
  | .agg parts => uptoBulkAll parts + 1
  | .iface _ d => uptoBulk d + 1
  | .map entries => uptoBulkEntries entries + 1
  | .held _ => 1
def uptoBulkAll {H : Type} : List (DataW H) → Nat
  | [] => 0
  | d :: r => uptoBulk d + uptoBulkAll r
def uptoBulkEntries {H : Type} : List (Lit × DataW H) → Nat
  | [] => 0
  | x :: r => uptoBulkEntry x + uptoBulkEntries r
def uptoBulkEntry {H : Type} : Lit × DataW H → Nat
  | (.string bytes, d) => bytes.length + uptoBulk d + 1
  | (_, d) => uptoBulk d + 1
 end
def uptoSmall : (H : Type) → List (DataW H) → Bool := fun _ ds => decide (uptoBulkAll ds ≤ 1048576)
def OpenSpec.upto (s : _root_.Go.ChangeSpec) : _root_.Go.OpenSpec := { _root_.Go.OpenSpec.ofChange s with cond := some uptoSmall }

/-- 'smithyardlaw4.GraphLongestIsHeaviest', WHERE WHAT IT READS IS OF BULK AT MOST 1048576: true; the input reads as it did. -/
def graphLongestIsHeaviestUptoRow : OpenClaim := { program := "ytaiajaibcpkceaadoor", sum := "d21bcb84898445a3c1c72c83046dc689d70d288d0a69f0bfd3fb24e12d13ff06", func := "smithyard/smithyardlaw4.GraphLongestIsHeaviest", spec := "graphLongestIsHeaviest", inPlace := ["internal/bytealg.CountString", "internal/bytealg.IndexByteString", "internal/bytealg.IndexString", "internal/bytealg.abigen_runtime_cmpstring"], unfollowed := true, recurses := true, named := ["unicode/utf8.first", "unicode/utf8.acceptRanges", "internal/bytealg.MaxLen"], apart := false, laid := [("unicode/utf8.acceptRanges", laid_unicode_utf8_acceptRanges), ("unicode/utf8.first", laid_unicode_utf8_first)], narrowed := true }
def GraphLongestIsHeaviestUptoSaid : Prop := graphLongestIsHeaviestUptoRow.holds Tryd.pinned (OpenSpec.upto graphLongestIsHeaviestSpec)

/-- 'smithyardlaw4.GraphLoopsAreLoops', WHERE WHAT IT READS IS OF BULK AT MOST 1048576: true; the input reads as it did. -/
def graphLoopsAreLoopsUptoRow : OpenClaim := { program := "ytaiajaibcpkceaadoor", sum := "d21bcb84898445a3c1c72c83046dc689d70d288d0a69f0bfd3fb24e12d13ff06", func := "smithyard/smithyardlaw4.GraphLoopsAreLoops", spec := "graphLoopsAreLoops", inPlace := ["internal/bytealg.CountString", "internal/bytealg.IndexByteString", "internal/bytealg.IndexString", "internal/bytealg.abigen_runtime_cmpstring"], unfollowed := true, recurses := true, named := ["unicode/utf8.first", "unicode/utf8.acceptRanges", "internal/bytealg.MaxLen"], apart := false, laid := [("unicode/utf8.acceptRanges", laid_unicode_utf8_acceptRanges), ("unicode/utf8.first", laid_unicode_utf8_first)], narrowed := true }
def GraphLoopsAreLoopsUptoSaid : Prop := graphLoopsAreLoopsUptoRow.holds Tryd.pinned (OpenSpec.upto graphLoopsAreLoopsSpec)

/-- 'smithyardlaw4.GraphAffectedSpreads', WHERE WHAT IT READS IS OF BULK AT MOST 1048576: true; the input reads as it did. -/
def graphAffectedSpreadsUptoRow : OpenClaim := { program := "ytaiajaibcpkceaadoor", sum := "d21bcb84898445a3c1c72c83046dc689d70d288d0a69f0bfd3fb24e12d13ff06", func := "smithyard/smithyardlaw4.GraphAffectedSpreads", spec := "graphAffectedSpreads", inPlace := ["internal/bytealg.CountString", "internal/bytealg.IndexByteString", "internal/bytealg.IndexString", "internal/bytealg.abigen_runtime_cmpstring"], unfollowed := true, recurses := true, named := ["unicode/utf8.first", "unicode/utf8.acceptRanges", "internal/bytealg.MaxLen"], apart := false, laid := [("unicode/utf8.acceptRanges", laid_unicode_utf8_acceptRanges), ("unicode/utf8.first", laid_unicode_utf8_first)], narrowed := true }
def GraphAffectedSpreadsUptoSaid : Prop := graphAffectedSpreadsUptoRow.holds Tryd.pinned (OpenSpec.upto graphAffectedSpreadsSpec)

/-- 'smithyardlaw4.GraphNeedsTurn', WHERE WHAT IT READS IS OF BULK AT MOST 1048576: true; the input reads as it did. -/
def graphNeedsTurnUptoRow : OpenClaim := { program := "ytaiajaibcpkceaadoor", sum := "d21bcb84898445a3c1c72c83046dc689d70d288d0a69f0bfd3fb24e12d13ff06", func := "smithyard/smithyardlaw4.GraphNeedsTurn", spec := "graphNeedsTurn", inPlace := ["internal/bytealg.CountString", "internal/bytealg.IndexByteString", "internal/bytealg.IndexString", "internal/bytealg.abigen_runtime_cmpstring"], unfollowed := true, recurses := true, named := ["unicode/utf8.first", "unicode/utf8.acceptRanges", "internal/bytealg.MaxLen"], apart := false, laid := [("unicode/utf8.acceptRanges", laid_unicode_utf8_acceptRanges), ("unicode/utf8.first", laid_unicode_utf8_first)], narrowed := true }
def GraphNeedsTurnUptoSaid : Prop := graphNeedsTurnUptoRow.holds Tryd.pinned (OpenSpec.upto graphNeedsTurnSpec)

/-- 'smithyardlaw4.GraphWaysAreWays', WHERE WHAT IT READS IS OF BULK AT MOST 1048576: true; the input reads as it did. -/
def graphWaysAreWaysUptoRow : OpenClaim := { program := "ytaiajaibcpkceaadoor", sum := "d21bcb84898445a3c1c72c83046dc689d70d288d0a69f0bfd3fb24e12d13ff06", func := "smithyard/smithyardlaw4.GraphWaysAreWays", spec := "graphWaysAreWays", inPlace := ["internal/bytealg.CountString", "internal/bytealg.IndexByteString", "internal/bytealg.IndexString", "internal/bytealg.abigen_runtime_cmpstring"], unfollowed := true, recurses := true, named := ["unicode/utf8.first", "unicode/utf8.acceptRanges", "internal/bytealg.MaxLen"], apart := false, laid := [("unicode/utf8.acceptRanges", laid_unicode_utf8_acceptRanges), ("unicode/utf8.first", laid_unicode_utf8_first)], narrowed := true }
def GraphWaysAreWaysUptoSaid : Prop := graphWaysAreWaysUptoRow.holds Tryd.pinned (OpenSpec.upto graphWaysAreWaysSpec)

/-- 'smithyardlaw4.GraphNeedlessCanGo', WHERE WHAT IT READS IS OF BULK AT MOST 1048576: true; the input reads as it did. -/
def graphNeedlessCanGoUptoRow : OpenClaim := { program := "ytaiajaibcpkceaadoor", sum := "d21bcb84898445a3c1c72c83046dc689d70d288d0a69f0bfd3fb24e12d13ff06", func := "smithyard/smithyardlaw4.GraphNeedlessCanGo", spec := "graphNeedlessCanGo", inPlace := ["internal/bytealg.CountString", "internal/bytealg.IndexByteString", "internal/bytealg.IndexString", "internal/bytealg.abigen_runtime_cmpstring"], unfollowed := true, recurses := true, named := ["unicode/utf8.first", "unicode/utf8.acceptRanges", "internal/bytealg.MaxLen"], apart := false, laid := [("unicode/utf8.acceptRanges", laid_unicode_utf8_acceptRanges), ("unicode/utf8.first", laid_unicode_utf8_first)], narrowed := true }
def GraphNeedlessCanGoUptoSaid : Prop := graphNeedlessCanGoUptoRow.holds Tryd.pinned (OpenSpec.upto graphNeedlessCanGoSpec)

end Rows
end Go.Proofs.YtaiajaibcpkceaaDoor
