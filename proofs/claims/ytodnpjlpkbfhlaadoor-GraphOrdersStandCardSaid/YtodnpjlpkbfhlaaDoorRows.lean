/-
  NARROWER THAN 'FOR EVERY INPUT', by the rows' own cells (each row's printed sentence says how): GraphOrdersStand: laid · GraphLongestIsHeaviest: laid · GraphLoopsAreLoops: laid · GraphOrdersMatchSpec: laid.
  DERIVED. THE GIVEN ROWS OF THIS SEAT. 4 by the template 'for every input the law returns true; each argument reads behind the call as it read before'; 0 by the template 'total and deterministic' (their statements: YtodnpjlpkbfhlaaDoorTotals.lean).
  GIVEN WITH THE SEED: the statements are not yours to turn. If you find one false, say at which input.
  Laid BY PROGRAM, IN A SANDBOX (cutbox-rows.mjs): the forced cells as the released guide's own fill.sh prints them over the translation 87fcdf9026f8cc04… (all of the seat's roots in one cut). By AI agents, Wed Nov 11 2026. No macro, syntax, notation, axiom, sorry.
-/
import Derived.Test.YtodnpjlpkbfhlaaDoorChecked
import GoSem.PinnedTables
import GoSem.Claim
import GoSem.ClaimJoined
import GoSem.ClaimMapViews
import Derived.JoinedTies
import Derived.KernelRfl
namespace Go.Proofs.YtodnpjlpkbfhlaaDoor
/- THE CELL 'sum', in the pinned program and in every row, IS THE sha256 OF THE DUMP (.gsa) THAT YtodnpjlpkbfhlaaDoorProg.lean LOADS. Nothing in Lean hashes anything: it is a label: what it is worth is what the hold of that sum in a sandbox is worth. -/
noncomputable def Tryd.pinned : Pinned := { name := "ytodnpjlpkbfhlaadoor", sum := "87fcdf9026f8cc04b055b7dcfc97fe2f244d9c587fdb30d045ad59c81cb1b205", checked := Tryd.checked }
namespace Rows
def none {H : Type} : Left H := { results := [], args := [] }

/- WHAT THE LISTED PACKAGE-LEVEL VARIABLES READ AS WHEN THE CALL BEGINS. Each datum BY PROGRAM (the guide's laid-datum.mjs) off the statement by which the dump's own 'gosem.cut.vars' lays the variable. In a bare row this is a premise. The card (YtodnpjlpkbfhlaaDoorCards.lean) ties it to the program's text. -/
def laid_unicode_utf8_acceptRanges {H : Type} : DataW H := .agg [.agg [.lit (.int .u8 128), .lit (.int .u8 191)], .agg [.lit (.int .u8 160), .lit (.int .u8 191)], .agg [.lit (.int .u8 128), .lit (.int .u8 159)], .agg [.lit (.int .u8 144), .lit (.int .u8 191)], .agg [.lit (.int .u8 128), .lit (.int .u8 143)], .agg [.lit (.int .u8 0), .lit (.int .u8 0)], .agg [.lit (.int .u8 0), .lit (.int .u8 0)], .agg [.lit (.int .u8 0), .lit (.int .u8 0)], .agg [.lit (.int .u8 0), .lit (.int .u8 0)], .agg [.lit (.int .u8 0), .lit (.int .u8 0)], .agg [.lit (.int .u8 0), .lit (.int .u8 0)], .agg [.lit (.int .u8 0), .lit (.int .u8 0)], .agg [.lit (.int .u8 0), .lit (.int .u8 0)], .agg [.lit (.int .u8 0), .lit (.int .u8 0)], .agg [.lit (.int .u8 0), .lit (.int .u8 0)], .agg [.lit (.int .u8 0), .lit (.int .u8 0)]]
/-- One of Go's own tables, pinned by name: the form's constant. -/
def laid_unicode_utf8_first : DataW Unit := Go.Pinned.utf8First

/-- 'smithyardlaw4.GraphOrdersStand': WHATEVER THE INPUT: true; the input reads as it did. -/
def graphOrdersStandSpec : ChangeSpec := { name := "graphOrdersStand", fn := fun _ => fun
  | [d] => { results := [.lit (.bool true)], args := [d] }
  | _ => none }
def graphOrdersStandRow : OpenClaim := { program := "ytodnpjlpkbfhlaadoor", sum := "87fcdf9026f8cc04b055b7dcfc97fe2f244d9c587fdb30d045ad59c81cb1b205", func := "smithyard/smithyardlaw4.GraphOrdersStand", spec := "graphOrdersStand", inPlace := ["internal/bytealg.CountString", "internal/bytealg.IndexByteString", "internal/bytealg.IndexString", "internal/bytealg.abigen_runtime_cmpstring"], unfollowed := true, recurses := true, named := ["unicode/utf8.first", "unicode/utf8.acceptRanges", "internal/bytealg.MaxLen"], apart := false, laid := [("unicode/utf8.acceptRanges", laid_unicode_utf8_acceptRanges), ("unicode/utf8.first", laid_unicode_utf8_first)] }
def GraphOrdersStandSaid : Prop := graphOrdersStandRow.holds Tryd.pinned (OpenSpec.ofChange graphOrdersStandSpec)

/-- ITS FALSE NEIGHBOUR: 'it returns false'. Refute it at one input. -/
def graphOrdersStandWrong : ChangeSpec := { name := "graphOrdersStand", fn := fun _ => fun
  | [d] => { results := [.lit (.bool false)], args := [d] }
  | _ => none }
def GraphOrdersStandWrongFalsely : Prop := graphOrdersStandRow.holds Tryd.pinned (OpenSpec.ofChange graphOrdersStandWrong)

/-- 'smithyardlaw4.GraphLongestIsHeaviest': WHATEVER THE INPUT: true; the input reads as it did. -/
def graphLongestIsHeaviestSpec : ChangeSpec := { name := "graphLongestIsHeaviest", fn := fun _ => fun
  | [d] => { results := [.lit (.bool true)], args := [d] }
  | _ => none }
def graphLongestIsHeaviestRow : OpenClaim := { program := "ytodnpjlpkbfhlaadoor", sum := "87fcdf9026f8cc04b055b7dcfc97fe2f244d9c587fdb30d045ad59c81cb1b205", func := "smithyard/smithyardlaw4.GraphLongestIsHeaviest", spec := "graphLongestIsHeaviest", inPlace := ["internal/bytealg.CountString", "internal/bytealg.IndexByteString", "internal/bytealg.IndexString", "internal/bytealg.abigen_runtime_cmpstring"], unfollowed := true, recurses := true, named := ["unicode/utf8.first", "unicode/utf8.acceptRanges", "internal/bytealg.MaxLen"], apart := false, laid := [("unicode/utf8.acceptRanges", laid_unicode_utf8_acceptRanges), ("unicode/utf8.first", laid_unicode_utf8_first)] }
def GraphLongestIsHeaviestSaid : Prop := graphLongestIsHeaviestRow.holds Tryd.pinned (OpenSpec.ofChange graphLongestIsHeaviestSpec)

/-- ITS FALSE NEIGHBOUR: 'it returns false'. Refute it at one input. -/
def graphLongestIsHeaviestWrong : ChangeSpec := { name := "graphLongestIsHeaviest", fn := fun _ => fun
  | [d] => { results := [.lit (.bool false)], args := [d] }
  | _ => none }
def GraphLongestIsHeaviestWrongFalsely : Prop := graphLongestIsHeaviestRow.holds Tryd.pinned (OpenSpec.ofChange graphLongestIsHeaviestWrong)

/-- 'smithyardlaw4.GraphLoopsAreLoops': WHATEVER THE INPUT: true; the input reads as it did. -/
def graphLoopsAreLoopsSpec : ChangeSpec := { name := "graphLoopsAreLoops", fn := fun _ => fun
  | [d] => { results := [.lit (.bool true)], args := [d] }
  | _ => none }
def graphLoopsAreLoopsRow : OpenClaim := { program := "ytodnpjlpkbfhlaadoor", sum := "87fcdf9026f8cc04b055b7dcfc97fe2f244d9c587fdb30d045ad59c81cb1b205", func := "smithyard/smithyardlaw4.GraphLoopsAreLoops", spec := "graphLoopsAreLoops", inPlace := ["internal/bytealg.CountString", "internal/bytealg.IndexByteString", "internal/bytealg.IndexString", "internal/bytealg.abigen_runtime_cmpstring"], unfollowed := true, recurses := true, named := ["unicode/utf8.first", "unicode/utf8.acceptRanges", "internal/bytealg.MaxLen"], apart := false, laid := [("unicode/utf8.acceptRanges", laid_unicode_utf8_acceptRanges), ("unicode/utf8.first", laid_unicode_utf8_first)] }
def GraphLoopsAreLoopsSaid : Prop := graphLoopsAreLoopsRow.holds Tryd.pinned (OpenSpec.ofChange graphLoopsAreLoopsSpec)

/-- ITS FALSE NEIGHBOUR: 'it returns false'. Refute it at one input. -/
def graphLoopsAreLoopsWrong : ChangeSpec := { name := "graphLoopsAreLoops", fn := fun _ => fun
  | [d] => { results := [.lit (.bool false)], args := [d] }
  | _ => none }
def GraphLoopsAreLoopsWrongFalsely : Prop := graphLoopsAreLoopsRow.holds Tryd.pinned (OpenSpec.ofChange graphLoopsAreLoopsWrong)

/-- 'smithyardlaw4.GraphOrdersMatchSpec': WHATEVER THE INPUT: true; the input reads as it did. -/
def graphOrdersMatchSpecSpec : ChangeSpec := { name := "graphOrdersMatchSpec", fn := fun _ => fun
  | [d] => { results := [.lit (.bool true)], args := [d] }
  | _ => none }
def graphOrdersMatchSpecRow : OpenClaim := { program := "ytodnpjlpkbfhlaadoor", sum := "87fcdf9026f8cc04b055b7dcfc97fe2f244d9c587fdb30d045ad59c81cb1b205", func := "smithyard/smithyardlaw4.GraphOrdersMatchSpec", spec := "graphOrdersMatchSpec", inPlace := ["internal/bytealg.CountString", "internal/bytealg.IndexByteString", "internal/bytealg.IndexString", "internal/bytealg.abigen_runtime_cmpstring"], unfollowed := true, recurses := true, named := ["unicode/utf8.first", "unicode/utf8.acceptRanges", "internal/bytealg.MaxLen"], apart := false, laid := [("unicode/utf8.acceptRanges", laid_unicode_utf8_acceptRanges), ("unicode/utf8.first", laid_unicode_utf8_first)] }
def GraphOrdersMatchSpecSaid : Prop := graphOrdersMatchSpecRow.holds Tryd.pinned (OpenSpec.ofChange graphOrdersMatchSpecSpec)

/-- ITS FALSE NEIGHBOUR: 'it returns false'. Refute it at one input. -/
def graphOrdersMatchSpecWrong : ChangeSpec := { name := "graphOrdersMatchSpec", fn := fun _ => fun
  | [d] => { results := [.lit (.bool false)], args := [d] }
  | _ => none }
def GraphOrdersMatchSpecWrongFalsely : Prop := graphOrdersMatchSpecRow.holds Tryd.pinned (OpenSpec.ofChange graphOrdersMatchSpecWrong)

/- THE SECOND FORM. 'bulk': how many values and letters a reading holds, each counted each time it is reached (what is shared counts as often as it is met; a slice's spare places count too). A statement '..UptoSaid' is the law's where the arguments, and the package variables that the reading takes, are together of bulk at most 1048576: NARROWER than '..Said'. Prove '..Said' where nothing that the law and all that it calls make is longer than what came in: it says more and counts as full. Else prove '..UptoSaid'. A law counts once. -/
mutual
def uptoBulk {H : Type} : DataW H → Nat
  | .lit (.string bytes) => bytes.length + 1
  | .lit _ => 1
  | .nil => 1
  | .ptr d => uptoBulk d + 1
  | .slice elems spare => uptoBulkAll elems + uptoBulkAll spare + 1
  | .agg parts => uptoBulkAll parts + 1
  | .iface _ d => uptoBulk d + 1
  | .map entries => uptoBulkEntries entries + 1
  | .held _ => 1
def uptoBulkAll {H : Type} : List (DataW H) → Nat
  | [] => 0
  | d :: r => uptoBulk d + uptoBulkAll r
def uptoBulkEntries {H : Type} : List (Lit × DataW H) → Nat
  | [] => 0
  | x :: r => uptoBulkEntry x + uptoBulkEntries r
def uptoBulkEntry {H : Type} : Lit × DataW H → Nat
  | (.string bytes, d) => bytes.length + uptoBulk d + 1
  | (_, d) => uptoBulk d + 1
 end
def uptoSmall : (H : Type) → List (DataW H) → Bool := fun _ ds => decide (uptoBulkAll ds ≤ 1048576)
def OpenSpec.upto (s : _root_.Go.ChangeSpec) : _root_.Go.OpenSpec := { _root_.Go.OpenSpec.ofChange s with cond := some uptoSmall }

/-- 'smithyardlaw4.GraphOrdersStand', WHERE WHAT IT READS IS OF BULK AT MOST 1048576: true; the input reads as it did. -/
def graphOrdersStandUptoRow : OpenClaim := { program := "ytodnpjlpkbfhlaadoor", sum := "87fcdf9026f8cc04b055b7dcfc97fe2f244d9c587fdb30d045ad59c81cb1b205", func := "smithyard/smithyardlaw4.GraphOrdersStand", spec := "graphOrdersStand", inPlace := ["internal/bytealg.CountString", "internal/bytealg.IndexByteString", "internal/bytealg.IndexString", "internal/bytealg.abigen_runtime_cmpstring"], unfollowed := true, recurses := true, named := ["unicode/utf8.first", "unicode/utf8.acceptRanges", "internal/bytealg.MaxLen"], apart := false, laid := [("unicode/utf8.acceptRanges", laid_unicode_utf8_acceptRanges), ("unicode/utf8.first", laid_unicode_utf8_first)], narrowed := true }
def GraphOrdersStandUptoSaid : Prop := graphOrdersStandUptoRow.holds Tryd.pinned (OpenSpec.upto graphOrdersStandSpec)

/-- 'smithyardlaw4.GraphLongestIsHeaviest', WHERE WHAT IT READS IS OF BULK AT MOST 1048576: true; the input reads as it did. -/
def graphLongestIsHeaviestUptoRow : OpenClaim := { program := "ytodnpjlpkbfhlaadoor", sum := "87fcdf9026f8cc04b055b7dcfc97fe2f244d9c587fdb30d045ad59c81cb1b205", func := "smithyard/smithyardlaw4.GraphLongestIsHeaviest", spec := "graphLongestIsHeaviest", inPlace := ["internal/bytealg.CountString", "internal/bytealg.IndexByteString", "internal/bytealg.IndexString", "internal/bytealg.abigen_runtime_cmpstring"], unfollowed := true, recurses := true, named := ["unicode/utf8.first", "unicode/utf8.acceptRanges", "internal/bytealg.MaxLen"], apart := false, laid := [("unicode/utf8.acceptRanges", laid_unicode_utf8_acceptRanges), ("unicode/utf8.first", laid_unicode_utf8_first)], narrowed := true }
def GraphLongestIsHeaviestUptoSaid : Prop := graphLongestIsHeaviestUptoRow.holds Tryd.pinned (OpenSpec.upto graphLongestIsHeaviestSpec)

/-- 'smithyardlaw4.GraphLoopsAreLoops', WHERE WHAT IT READS IS OF BULK AT MOST 1048576: true; the input reads as it did. -/
def graphLoopsAreLoopsUptoRow : OpenClaim := { program := "ytodnpjlpkbfhlaadoor", sum := "87fcdf9026f8cc04b055b7dcfc97fe2f244d9c587fdb30d045ad59c81cb1b205", func := "smithyard/smithyardlaw4.GraphLoopsAreLoops", spec := "graphLoopsAreLoops", inPlace := ["internal/bytealg.CountString", "internal/bytealg.IndexByteString", "internal/bytealg.IndexString", "internal/bytealg.abigen_runtime_cmpstring"], unfollowed := true, recurses := true, named := ["unicode/utf8.first", "unicode/utf8.acceptRanges", "internal/bytealg.MaxLen"], apart := false, laid := [("unicode/utf8.acceptRanges", laid_unicode_utf8_acceptRanges), ("unicode/utf8.first", laid_unicode_utf8_first)], narrowed := true }
def GraphLoopsAreLoopsUptoSaid : Prop := graphLoopsAreLoopsUptoRow.holds Tryd.pinned (OpenSpec.upto graphLoopsAreLoopsSpec)

/-- 'smithyardlaw4.GraphOrdersMatchSpec', WHERE WHAT IT READS IS OF BULK AT MOST 1048576: true; the input reads as it did. -/
def graphOrdersMatchSpecUptoRow : OpenClaim := { program := "ytodnpjlpkbfhlaadoor", sum := "87fcdf9026f8cc04b055b7dcfc97fe2f244d9c587fdb30d045ad59c81cb1b205", func := "smithyard/smithyardlaw4.GraphOrdersMatchSpec", spec := "graphOrdersMatchSpec", inPlace := ["internal/bytealg.CountString", "internal/bytealg.IndexByteString", "internal/bytealg.IndexString", "internal/bytealg.abigen_runtime_cmpstring"], unfollowed := true, recurses := true, named := ["unicode/utf8.first", "unicode/utf8.acceptRanges", "internal/bytealg.MaxLen"], apart := false, laid := [("unicode/utf8.acceptRanges", laid_unicode_utf8_acceptRanges), ("unicode/utf8.first", laid_unicode_utf8_first)], narrowed := true }
def GraphOrdersMatchSpecUptoSaid : Prop := graphOrdersMatchSpecUptoRow.holds Tryd.pinned (OpenSpec.upto graphOrdersMatchSpecSpec)

end Rows
end Go.Proofs.YtodnpjlpkbfhlaaDoor
