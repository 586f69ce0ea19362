/-
  The walk of the law WireFeedMatchesSpec.
-/
import Derived.Test.YteoojplgchlhcaaDoorFeed6
namespace Go.Proofs.YteoojplgchlhcaaDoor
open Go.RowKit
set_option linter.unusedVariables false
set_option linter.unusedSimpArgs false

set_option maxHeartbeats 2000000 in
set_option maxRecDepth 100000 in
theorem feedMatch_any (A1 A2 : Option Addr) (n1 c1 n2 c2 : Nat) (held b : List UInt8) (w : World) (h1 : rBytes w w.heap.size held [.slice A1 n1 c1]) (h2 : rBytes w w.heap.size b [.slice A2 n2 c2]) :
    Calls Tryd.prog 6 #[.slice A1 n1 c1, .slice A2 n2 c2] w fun e w' => e = .returned (.bool true) ∧ Below w.heap.size w w' := by
  have H1 := Lib.hid h1
  have H2 := Lib.hid h2
  clear h1 h2
  go_enter Tryd.func6, Tryd.ntmps6
  go_wp2_with fail
  refine (feed_any _ _ _ _ _ _ _ _ _ H1.out H2.out).mono ?_
  rintro e w1 ⟨v1, rfl, hb1, A3, c3, A4, c4, rfl, r1, r2⟩
  have R1 := Lib.hid r1
  have R2 := Lib.hid r2
  clear r1 r2
  go_wp2_with fail
  refine (feedR_any _ _ _ _ _ _ _ _ _ (rSl.keep H1.out hb1 hb1.size) (rSl.keep H2.out hb1 hb1.size)).mono ?_
  rintro e w2 ⟨v2, rfl, hb2, A5, c5, A6, c6, rfl, r3, r4⟩
  have R3 := Lib.hid r3
  have R4 := Lib.hid r4
  have hb12 := hb1.trans (hb2.mono hb1.size)
  have e1 : ((feed held b).2.2.1 == (feed held b).2.2.1) = true := beq_self_eq_true _
  have e2 : ((feed held b).2.2.2 == (feed held b).2.2.2) = true := beq_self_eq_true _
  have e3 : decide ((feed held b).2.1 = (feed held b).2.1) = true := by simp
  clear r3 r4
  generalize feed held b = p at R1 R2 R3 R4 e1 e2 e3 ⊢
  go_wp2_with fail
  refine (equalBytes_any _ _ _ _ _ _ _ _ _ _ (rSl.keep R2.out hb2 hb2.size) R4.out).mono ?_
  rintro e w3 ⟨rfl, q, rfl⟩
  go_wp2_with fail
  refine (sameMessages_same _ _ _ _ _ _ _ (rSl.keep R1.out (drewN_below hb2 q) hb2.size) (rSl.keep R3.out (drewN_below (Below.refl _ _) q) (Nat.le_refl _))).mono ?_
  rintro e w4 ⟨rfl, hb4⟩
  have hb13 := (drewN_below hb12 q).trans (hb4.mono hb12.size)
  go_wp2_with (go_at_call 10; refine (awake_any _).mono ?_; rintro e w7 ⟨rfl, hb7⟩)
  go_ret
  exact ⟨rfl, hb13.trans (hb7.mono hb13.size)⟩
end Go.Proofs.YteoojplgchlhcaaDoor
