/-
  No cell of these rows narrows 'for every input' (looked for: loops, veiled, ifaces, maps, wideKeys, modest, calm, conditions, laid).
  DERIVED. THE GIVEN ROWS OF THIS SEAT. 6 by the template 'for every input the law returns true; each argument reads behind the call as it read before'; 0 by the template 'total and deterministic' (their statements: YteoojplgchlhcaaTotals.lean).
  GIVEN WITH THE SEED: the statements are not yours to turn. If you find one false, say at which input.
  Laid BY PROGRAM, IN A SANDBOX (cutbox-rows.mjs): the forced cells as the released guide's own fill.sh prints them over the translation 6a1e30b3be74331a… (all of the seat's roots in one cut). By AI agents, Wed Nov 11 2026. No macro, syntax, notation, axiom, sorry.
-/
import Derived.Test.YteoojplgchlhcaaChecked
import GoSem.Claim
import GoSem.ClaimJoined
import GoSem.ClaimMapViews
import Derived.JoinedTies
import Derived.KernelRfl
namespace Go.Proofs.Yteoojplgchlhcaa
/- THE CELL 'sum', in the pinned program and in every row, IS THE sha256 OF THE DUMP (.gsa) THAT YteoojplgchlhcaaProg.lean LOADS. Nothing in Lean hashes anything: it is a label: what it is worth is what the hold of that sum in a sandbox is worth. -/
noncomputable def Try.pinned : Pinned := { name := "yteoojplgchlhcaa", sum := "6a1e30b3be74331a88a051c66ce005bcc555d8305bacd9426f7aaeea37b79ccb", checked := Try.checked }
namespace Rows
def none {H : Type} : Left H := { results := [], args := [] }

/-- 'smithyardlaw8.WireQuotasHold': WHATEVER THE INPUT: true; the input reads as it did. -/
def wireQuotasHoldSpec : ChangeSpec := { name := "wireQuotasHold", fn := fun _ => fun
  | [d1, d2, d3, d4] => { results := [.lit (.bool true)], args := [d1, d2, d3, d4] }
  | _ => none }
def wireQuotasHoldRow : OpenClaim := { program := "yteoojplgchlhcaa", sum := "6a1e30b3be74331a88a051c66ce005bcc555d8305bacd9426f7aaeea37b79ccb", func := "smithyard/smithyardlaw8.WireQuotasHold", spec := "wireQuotasHold", apart := false }
def WireQuotasHoldSaid : Prop := wireQuotasHoldRow.holds Try.pinned (OpenSpec.ofChange wireQuotasHoldSpec)

/-- ITS FALSE NEIGHBOUR: 'it returns false'. Refute it at one input. -/
def wireQuotasHoldWrong : ChangeSpec := { name := "wireQuotasHold", fn := fun _ => fun
  | [d1, d2, d3, d4] => { results := [.lit (.bool false)], args := [d1, d2, d3, d4] }
  | _ => none }
def WireQuotasHoldWrongFalsely : Prop := wireQuotasHoldRow.holds Try.pinned (OpenSpec.ofChange wireQuotasHoldWrong)

/-- 'smithyardlaw8.WireQuotasMatchSpec': WHATEVER THE INPUT: true; the input reads as it did. -/
def wireQuotasMatchSpecSpec : ChangeSpec := { name := "wireQuotasMatchSpec", fn := fun _ => fun
  | [d1, d2, d3, d4] => { results := [.lit (.bool true)], args := [d1, d2, d3, d4] }
  | _ => none }
def wireQuotasMatchSpecRow : OpenClaim := { program := "yteoojplgchlhcaa", sum := "6a1e30b3be74331a88a051c66ce005bcc555d8305bacd9426f7aaeea37b79ccb", func := "smithyard/smithyardlaw8.WireQuotasMatchSpec", spec := "wireQuotasMatchSpec", apart := false }
def WireQuotasMatchSpecSaid : Prop := wireQuotasMatchSpecRow.holds Try.pinned (OpenSpec.ofChange wireQuotasMatchSpecSpec)

/-- ITS FALSE NEIGHBOUR: 'it returns false'. Refute it at one input. -/
def wireQuotasMatchSpecWrong : ChangeSpec := { name := "wireQuotasMatchSpec", fn := fun _ => fun
  | [d1, d2, d3, d4] => { results := [.lit (.bool false)], args := [d1, d2, d3, d4] }
  | _ => none }
def WireQuotasMatchSpecWrongFalsely : Prop := wireQuotasMatchSpecRow.holds Try.pinned (OpenSpec.ofChange wireQuotasMatchSpecWrong)

/-- 'smithyardlaw8.WireFreshMatchesSpec': WHATEVER THE INPUT: true; the input reads as it did. -/
def wireFreshMatchesSpecSpec : ChangeSpec := { name := "wireFreshMatchesSpec", fn := fun _ => fun
  | [d1, d2] => { results := [.lit (.bool true)], args := [d1, d2] }
  | _ => none }
def wireFreshMatchesSpecRow : OpenClaim := { program := "yteoojplgchlhcaa", sum := "6a1e30b3be74331a88a051c66ce005bcc555d8305bacd9426f7aaeea37b79ccb", func := "smithyard/smithyardlaw8.WireFreshMatchesSpec", spec := "wireFreshMatchesSpec", apart := false }
def WireFreshMatchesSpecSaid : Prop := wireFreshMatchesSpecRow.holds Try.pinned (OpenSpec.ofChange wireFreshMatchesSpecSpec)

/-- ITS FALSE NEIGHBOUR: 'it returns false'. Refute it at one input. -/
def wireFreshMatchesSpecWrong : ChangeSpec := { name := "wireFreshMatchesSpec", fn := fun _ => fun
  | [d1, d2] => { results := [.lit (.bool false)], args := [d1, d2] }
  | _ => none }
def WireFreshMatchesSpecWrongFalsely : Prop := wireFreshMatchesSpecRow.holds Try.pinned (OpenSpec.ofChange wireFreshMatchesSpecWrong)

/-- 'smithyardlaw8.WirePatchPutsTogether': WHATEVER THE INPUT: true; the input reads as it did. -/
def wirePatchPutsTogetherSpec : ChangeSpec := { name := "wirePatchPutsTogether", fn := fun _ => fun
  | [d1, d2] => { results := [.lit (.bool true)], args := [d1, d2] }
  | _ => none }
def wirePatchPutsTogetherRow : OpenClaim := { program := "yteoojplgchlhcaa", sum := "6a1e30b3be74331a88a051c66ce005bcc555d8305bacd9426f7aaeea37b79ccb", func := "smithyard/smithyardlaw8.WirePatchPutsTogether", spec := "wirePatchPutsTogether", apart := false }
def WirePatchPutsTogetherSaid : Prop := wirePatchPutsTogetherRow.holds Try.pinned (OpenSpec.ofChange wirePatchPutsTogetherSpec)

/-- ITS FALSE NEIGHBOUR: 'it returns false'. Refute it at one input. -/
def wirePatchPutsTogetherWrong : ChangeSpec := { name := "wirePatchPutsTogether", fn := fun _ => fun
  | [d1, d2] => { results := [.lit (.bool false)], args := [d1, d2] }
  | _ => none }
def WirePatchPutsTogetherWrongFalsely : Prop := wirePatchPutsTogetherRow.holds Try.pinned (OpenSpec.ofChange wirePatchPutsTogetherWrong)

/-- 'smithyardlaw8.WireRangesFill': WHATEVER THE INPUT: true; the input reads as it did. -/
def wireRangesFillSpec : ChangeSpec := { name := "wireRangesFill", fn := fun _ => fun
  | [d1, d2] => { results := [.lit (.bool true)], args := [d1, d2] }
  | _ => none }
def wireRangesFillRow : OpenClaim := { program := "yteoojplgchlhcaa", sum := "6a1e30b3be74331a88a051c66ce005bcc555d8305bacd9426f7aaeea37b79ccb", func := "smithyard/smithyardlaw8.WireRangesFill", spec := "wireRangesFill", unfollowed := true, recurses := true, apart := false }
def WireRangesFillSaid : Prop := wireRangesFillRow.holds Try.pinned (OpenSpec.ofChange wireRangesFillSpec)

/-- ITS FALSE NEIGHBOUR: 'it returns false'. Refute it at one input. -/
def wireRangesFillWrong : ChangeSpec := { name := "wireRangesFill", fn := fun _ => fun
  | [d1, d2] => { results := [.lit (.bool false)], args := [d1, d2] }
  | _ => none }
def WireRangesFillWrongFalsely : Prop := wireRangesFillRow.holds Try.pinned (OpenSpec.ofChange wireRangesFillWrong)

/-- 'smithyardlaw8.WireRangesMatchSpec': WHATEVER THE INPUT: true; the input reads as it did. -/
def wireRangesMatchSpecSpec : ChangeSpec := { name := "wireRangesMatchSpec", fn := fun _ => fun
  | [d1, d2, d3] => { results := [.lit (.bool true)], args := [d1, d2, d3] }
  | _ => none }
def wireRangesMatchSpecRow : OpenClaim := { program := "yteoojplgchlhcaa", sum := "6a1e30b3be74331a88a051c66ce005bcc555d8305bacd9426f7aaeea37b79ccb", func := "smithyard/smithyardlaw8.WireRangesMatchSpec", spec := "wireRangesMatchSpec", unfollowed := true, recurses := true, apart := false }
def WireRangesMatchSpecSaid : Prop := wireRangesMatchSpecRow.holds Try.pinned (OpenSpec.ofChange wireRangesMatchSpecSpec)

/-- ITS FALSE NEIGHBOUR: 'it returns false'. Refute it at one input. -/
def wireRangesMatchSpecWrong : ChangeSpec := { name := "wireRangesMatchSpec", fn := fun _ => fun
  | [d1, d2, d3] => { results := [.lit (.bool false)], args := [d1, d2, d3] }
  | _ => none }
def WireRangesMatchSpecWrongFalsely : Prop := wireRangesMatchSpecRow.holds Try.pinned (OpenSpec.ofChange wireRangesMatchSpecWrong)

/- THE SECOND FORM. 'bulk': how many values and letters a reading holds, each counted each time it is reached (what is shared counts as often as it is met; a slice's spare places count too). A statement '..UptoSaid' is the law's where the arguments, and the package variables that the reading takes, are together of bulk at most 1048576: NARROWER than '..Said'. Prove '..Said' where nothing that the law and all that it calls make is longer than what came in: it says more and counts as full. Else prove '..UptoSaid'. A law counts once. -/
mutual
def uptoBulk {H : Type} : DataW H → Nat
  | .lit (.string bytes) => bytes.length + 1
  | .lit _ => 1
  | .nil => 1
  | .ptr d => uptoBulk d + 1
  | .slice elems spare => uptoBulkAll elems + uptoBulkAll spare + 1
  | .agg parts => uptoBulkAll parts + 1
  | .iface _ d => uptoBulk d + 1
  | .map entries => uptoBulkEntries entries + 1
  | .held _ => 1
def uptoBulkAll {H : Type} : List (DataW H) → Nat
  | [] => 0
  | d :: r => uptoBulk d + uptoBulkAll r
def uptoBulkEntries {H : Type} : List (Lit × DataW H) → Nat
  | [] => 0
  | x :: r => uptoBulkEntry x + uptoBulkEntries r
def uptoBulkEntry {H : Type} : Lit × DataW H → Nat
  | (.string bytes, d) => bytes.length + uptoBulk d + 1
  | (_, d) => uptoBulk d + 1
 end
def uptoSmall : (H : Type) → List (DataW H) → Bool := fun _ ds => decide (uptoBulkAll ds ≤ 1048576)
def OpenSpec.upto (s : _root_.Go.ChangeSpec) : _root_.Go.OpenSpec := { _root_.Go.OpenSpec.ofChange s with cond := some uptoSmall }

/-- 'smithyardlaw8.WireQuotasHold', WHERE WHAT IT READS IS OF BULK AT MOST 1048576: true; the input reads as it did. -/
def wireQuotasHoldUptoRow : OpenClaim := { program := "yteoojplgchlhcaa", sum := "6a1e30b3be74331a88a051c66ce005bcc555d8305bacd9426f7aaeea37b79ccb", func := "smithyard/smithyardlaw8.WireQuotasHold", spec := "wireQuotasHold", apart := false, narrowed := true }
def WireQuotasHoldUptoSaid : Prop := wireQuotasHoldUptoRow.holds Try.pinned (OpenSpec.upto wireQuotasHoldSpec)

/-- 'smithyardlaw8.WireQuotasMatchSpec', WHERE WHAT IT READS IS OF BULK AT MOST 1048576: true; the input reads as it did. -/
def wireQuotasMatchSpecUptoRow : OpenClaim := { program := "yteoojplgchlhcaa", sum := "6a1e30b3be74331a88a051c66ce005bcc555d8305bacd9426f7aaeea37b79ccb", func := "smithyard/smithyardlaw8.WireQuotasMatchSpec", spec := "wireQuotasMatchSpec", apart := false, narrowed := true }
def WireQuotasMatchSpecUptoSaid : Prop := wireQuotasMatchSpecUptoRow.holds Try.pinned (OpenSpec.upto wireQuotasMatchSpecSpec)

/-- 'smithyardlaw8.WireFreshMatchesSpec', WHERE WHAT IT READS IS OF BULK AT MOST 1048576: true; the input reads as it did. -/
def wireFreshMatchesSpecUptoRow : OpenClaim := { program := "yteoojplgchlhcaa", sum := "6a1e30b3be74331a88a051c66ce005bcc555d8305bacd9426f7aaeea37b79ccb", func := "smithyard/smithyardlaw8.WireFreshMatchesSpec", spec := "wireFreshMatchesSpec", apart := false, narrowed := true }
def WireFreshMatchesSpecUptoSaid : Prop := wireFreshMatchesSpecUptoRow.holds Try.pinned (OpenSpec.upto wireFreshMatchesSpecSpec)

/-- 'smithyardlaw8.WirePatchPutsTogether', WHERE WHAT IT READS IS OF BULK AT MOST 1048576: true; the input reads as it did. -/
def wirePatchPutsTogetherUptoRow : OpenClaim := { program := "yteoojplgchlhcaa", sum := "6a1e30b3be74331a88a051c66ce005bcc555d8305bacd9426f7aaeea37b79ccb", func := "smithyard/smithyardlaw8.WirePatchPutsTogether", spec := "wirePatchPutsTogether", apart := false, narrowed := true }
def WirePatchPutsTogetherUptoSaid : Prop := wirePatchPutsTogetherUptoRow.holds Try.pinned (OpenSpec.upto wirePatchPutsTogetherSpec)

/-- 'smithyardlaw8.WireRangesFill', WHERE WHAT IT READS IS OF BULK AT MOST 1048576: true; the input reads as it did. -/
def wireRangesFillUptoRow : OpenClaim := { program := "yteoojplgchlhcaa", sum := "6a1e30b3be74331a88a051c66ce005bcc555d8305bacd9426f7aaeea37b79ccb", func := "smithyard/smithyardlaw8.WireRangesFill", spec := "wireRangesFill", unfollowed := true, recurses := true, apart := false, narrowed := true }
def WireRangesFillUptoSaid : Prop := wireRangesFillUptoRow.holds Try.pinned (OpenSpec.upto wireRangesFillSpec)

/-- 'smithyardlaw8.WireRangesMatchSpec', WHERE WHAT IT READS IS OF BULK AT MOST 1048576: true; the input reads as it did. -/
def wireRangesMatchSpecUptoRow : OpenClaim := { program := "yteoojplgchlhcaa", sum := "6a1e30b3be74331a88a051c66ce005bcc555d8305bacd9426f7aaeea37b79ccb", func := "smithyard/smithyardlaw8.WireRangesMatchSpec", spec := "wireRangesMatchSpec", unfollowed := true, recurses := true, apart := false, narrowed := true }
def WireRangesMatchSpecUptoSaid : Prop := wireRangesMatchSpecUptoRow.holds Try.pinned (OpenSpec.upto wireRangesMatchSpecSpec)

end Rows
end Go.Proofs.Yteoojplgchlhcaa
