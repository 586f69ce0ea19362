/-
  The reference's New, Used, Broken, comparisons; the law's walk. No statement of the seat is proved here; no conditions.
-/
import Derived.Test.YtanhelgblnmdcaaDoorCaC
namespace Go.Proofs.YtanhelgblnmdcaaDoor
open Go.RowKit Go.Shelf
set_option linter.unusedVariables false
set_option linter.unusedSimpArgs false
set_option maxRecDepth 100000

def SBound (c : Cache) : Prop := CBound c ∧ (∀ b ∈ c.2.2.1,(b.1.size : Int) ≤ 9223372036854775807) ∧ ∀ e ∈ c.2.2.2,(e.1.size : Int) ≤ 9223372036854775807 ∧ ∀ d ∈ e.2.1,(d.size : Int) ≤ 9223372036854775807
instance decBlob : DecidableEq Blob := inferInstanceAs (DecidableEq (ByteArray × Int × Int × Int × Int))
instance decEntry : DecidableEq Entry := inferInstanceAs (DecidableEq (ByteArray × List ByteArray × Int))
instance decCache : DecidableEq Cache := inferInstanceAs (DecidableEq (Int × Int × List Blob × List Entry))
end Go.Proofs.YtanhelgblnmdcaaDoor
