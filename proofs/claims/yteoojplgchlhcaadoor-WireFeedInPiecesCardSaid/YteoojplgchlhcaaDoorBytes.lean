/-
  Bytes: what a slice of bytes stands for, slices.Equal at bytes, string(b); sets of strings (map[string]bool).
-/
import Derived.Test.YteoojplgchlhcaaDoorAwake
namespace Go.Proofs.YteoojplgchlhcaaDoor
open Go.RowKit
set_option linter.unusedVariables false
set_option linter.unusedSimpArgs false

theorem equalBytes_any (A1 A2 : Option Addr) (n1 c1 n2 c2 B : Nat) (l1 l2 : List UInt8) (w : World) (h1 : rBytes w B l1 [.slice A1 n1 c1]) (h2 : rBytes w B l2 [.slice A2 n2 c2]) :
    Calls Tryd.prog 23 #[.slice A1 n1 c1, .slice A2 n2 c2] w (Qt (.bool (decide (l1 = l2))) w) := by
  have hl1 := h1.len
  have hl2 := h2.len
  have hm1 := h1.le.2.1
  have hm1' := h1.le.1
  have H1 := Lib.hid h1
  have H2 := Lib.hid h2
  have L1 := Lib.hid hl1
  have L2 := Lib.hid hl2
  clear h1 h2 hl1 hl2
  by_cases hn : n1 = n2
  · subst hn
    have hne : ((n1 : Int) != (n1 : Int)) = false := bne_self_eq_false _
    go_enter Tryd.func23, Tryd.ntmps23
    go_wp2_with fail
    go_loopw [13] (fun i wr => ∃ k : Nat, k ≤ n1 ∧ i = .int .i64 k ∧ Hid (∃ n, wr = w.drewN n) ∧ Hid (∀ j, j < k → l1[j]? = l2[j]?)) (fun i _ => n1 - (intOf i).toNat)
    case atStart => exact ⟨0, by omega, rfl, ⟨0, rfl⟩, fun j hj => absurd hj (by omega)⟩
    case round =>
      obtain ⟨k, hk, rfl, HW, HE⟩ := hrel
      by_cases hlt : k < n1
      · obtain ⟨b1, o1, x1, rfl, hb1, hx1, hc1, _⟩ := rBytes_at H1.out hlt
        obtain ⟨b2, o2, x2, rfl, hb2, hx2, hc2, _⟩ := rBytes_at H2.out hlt
        obtain ⟨nd, hnd⟩ := HW.out
        have hc1' : wr.cell? ⟨b1, o1 + k, none⟩ = some (.int .u8 (x1.toNat : Int)) := by rw [hnd]; exact hc1
        have hc2' : wr.cell? ⟨b2, o2 + k, none⟩ = some (.int .u8 (x2.toNat : Int)) := by rw [hnd]; exact hc2
        have X1 := Lib.hid hx1
        have X2 := Lib.hid hx2
        have HN := Lib.hid hnd
        have e2 : ((k : Int)).toNat = k := by omega
        have e3 : (0 : Int) ≤ (k : Int) := by omega
        have e5 : (k : Int) < n1 := by omega
        clear hx1 hx2 hc1 hc2 hnd HW
        by_cases hx : x1 = x2
        · subst hx
          have hxe : ((x1.toNat : Int) != (x1.toNat : Int)) = false := bne_self_eq_false _
          go_wp2_with fail
          go_quiet (fail)
          clear e2 e3 e5
          go_wp2_with fail
          go_roundw
          case rel =>
            refine ⟨k + 1, by omega, by go_num, ⟨nd + nq, by rw [HN.out, World.drewN_drewN]⟩, fun j hj => ?_⟩
            by_cases hj2 : j = k
            · subst hj2; rw [X1.out, X2.out]
            · exact HE.out j (by omega)
          case measure => simp [intOf]; omega
        · have hxe : ((x1.toNat : Int) != (x2.toNat : Int)) = true := by simpa using u8_ne hx
          have hxe2 : ((x1.toNat : Int) == (x2.toNat : Int)) = false := by simpa using u8_ne hx
          have HX := Lib.hid hx
          clear hx
          go_wp2_with fail
          go_quiet (fail)
          clear e2 e3 e5
          go_wp2_with fail
          go_ret
          refine ⟨?_, ⟨nd + nq, by rw [HN.out, World.drewN_drewN]⟩⟩
          have : l1 ≠ l2 := by
            rintro rfl
            have a := X1.out
            rw [X2.out] at a
            exact HX.out (Option.some.inj a).symm
          simp [this]
      · obtain rfl : k = n1 := by omega
        go_wp2_with fail
        go_ret
        obtain ⟨nd, hnd⟩ := HW.out
        refine ⟨?_, nd, hnd⟩
        have e : l1 = l2 := eq_of_prefix (by rw [L1.out, L2.out]) (fun i hi => HE.out i (by rw [L1.out] at hi; exact hi))
        simp [e]
  · have hne : ((n1 : Int) != (n2 : Int)) = true := by simp; omega
    go_enter Tryd.func23, Tryd.ntmps23
    go_wp2_with fail
    go_ret
    refine ⟨?_, 0, rfl⟩
    have : l1 ≠ l2 := by
      rintro rfl
      have a := L1.out
      rw [L2.out] at a
      exact hn a.symm
    simp [this]

end Go.Proofs.YteoojplgchlhcaaDoor
