/-
  The walk of the law WireQuotasMatchSpec.
-/
import Derived.Test.YteoojplgchlhcaaQuotaL
import Derived.Deep.RegionHeld3
namespace Go.Proofs.Yteoojplgchlhcaa
open Go.RowKit
set_option linter.unusedVariables false
set_option linter.unusedSimpArgs false

theorem keepQ {g : Nat} {r b : Int} {W w1 w2 : World} (h : w1.cell? ⟨g, 0, none⟩ = some (.int .i64 r) ∧ w1.cell? ⟨g, 1, none⟩ = some (.int .i64 b) ∧ g < w1.heap.size ∧ Hid (Below W.heap.size W w1)) (hb : Below w1.heap.size w1 w2) :
    w2.cell? ⟨g, 0, none⟩ = some (.int .i64 r) ∧ w2.cell? ⟨g, 1, none⟩ = some (.int .i64 b) ∧ g < w2.heap.size ∧ Hid (Below W.heap.size W w2) := by
  obtain ⟨h1, h2, h3, h4⟩ := h
  refine ⟨by rw [(bcell hb).1 _ _ h3]; exact h1, by rw [(bcell hb).1 _ _ h3]; exact h2, by have := hb.size; omega, h4.out.trans (hb.mono h4.out.size)⟩

theorem equalQ {g : Nat} {r b : Int} {W w1 : World} {A1 A2 : Option Addr} {n1 c1 n2 c2 : Nat} {l : List Int} (h1 : rInts W W.heap.size l [.slice A1 n1 c1]) (h2 : rInts W W.heap.size l [.slice A2 n2 c2])
    (h : w1.cell? ⟨g, 0, none⟩ = some (.int .i64 r) ∧ w1.cell? ⟨g, 1, none⟩ = some (.int .i64 b) ∧ g < w1.heap.size ∧ Hid (Below W.heap.size W w1)) :
    Calls Try.prog 15 #[.slice A1 n1 c1, .slice A2 n2 c2] w1 (fun e w' => e = .returned (.bool true) ∧ Below w1.heap.size w1 w') :=
  (equalInts_any A1 A2 n1 c1 n2 c2 W.heap.size l l w1 (rSl.keep h1 h.2.2.2.out (Nat.le_refl _)) (rSl.keep h2 h.2.2.2.out (Nat.le_refl _))).mono fun e w' ⟨he, n, hn⟩ => ⟨by rw [he]; simp, by rw [hn]; exact drewN_below (Below.refl _ _) n⟩

set_option maxHeartbeats 1000000 in
theorem quotasMatch_any (r b f t : Int) (A : Option Addr) (n c : Nat) (l : List (Int × Int)) (w : World) (hR : rAsks w w.heap.size l [.slice A n c]) :
    Calls Try.prog 4 #[.agg #[.int .i64 r, .int .i64 b], .slice A n c, .int .i64 f, .int .i64 t] w fun e w' => e = .returned (.bool true) ∧ Below w.heap.size w w' := by
  have HR := Lib.hid hR
  clear hR
  go_enter Try.func4, Try.ntmps4
  go_wp2_with fail
  have hb0 : Below w.heap.size w (w.alloc (.cells #[.int .i64 r, .int .i64 b] 23)) := (Below.refl _ _).alloc (Nat.le_refl _) _
  refine (starts_any r b A n c l _ (rSl.keep HR.out hb0 (by simp))).mono ?_
  rintro e w1 ⟨v, rfl, hb1, A1, c1, rfl, hx⟩
  have hb : Below w.heap.size w w1 := hb0.trans (hb1.mono (by simp))
  have hq0 : w1.cell? ⟨w.heap.size, 0, none⟩ = some (.int .i64 r) := by
    rw [(bcell hb1).1 _ _ (by simp)]; simp [go_sem]
  have hq1 : w1.cell? ⟨w.heap.size, 1, none⟩ = some (.int .i64 b) := by
    rw [(bcell hb1).1 _ _ (by simp)]; simp [go_sem]
  have hs1 : w.heap.size < w1.heap.size := by have := hb1.size; simp at this; omega
  have HX := Lib.hid hx
  clear hb0 hb1 hx
  go_wp2_with fail
  refine (startsR_any r b A n c l _ (rSl.keep HR.out hb hb.size)).mono ?_
  rintro e w2 ⟨v, rfl, hb2, A2, c2, rfl, hy⟩
  have hB : Below w.heap.size w w2 := hb.trans (hb2.mono hb.size)
  have HX2 := Lib.hid (rSl.keep HX.out hb2 (Nat.le_refl _))
  have HY := Lib.hid hy
  obtain ⟨hp0, hp1, hs2, HB⟩ := keepQ ⟨hq0, hq1, hs1, hb⟩ hb2
  have HX3 := Lib.hid (rSl.keep HX2.out (Below.refl _ w2) hb2.size)
  clear hq0 hq1 hs1 hy HX HX2 hb hb2
  have e1 : (codeQ r b != codeQ r b) = false := bne_self_eq_false _
  have e2 : ((starts r b l).2 != (starts r b l).2) = false := bne_self_eq_false _
  go_wp2_with fail
  go_region_held3 (fun w' => w'.cell? ⟨w.heap.size, 0, none⟩ = some (.int .i64 r) ∧ w'.cell? ⟨w.heap.size, 1, none⟩ = some (.int .i64 b) ∧ w.heap.size < w'.heap.size ∧ Hid (Below w2.heap.size w2 w'))
    (first | exact ⟨hp0, hp1, hs2, drewN_below (Below.refl _ _) 1⟩ | exact keepQ (W := w2) (by assumption) hb')
    (first
      | (go_at_call 13; refine (checkQuota_any _ _ _).mono ?_; rintro e w' ⟨rfl, hb'⟩)
      | (go_at_call 14; refine (checkQuotaR_any _ _ _).mono ?_; rintro e w' ⟨rfl, hb'⟩)
      | (go_at_call 15; refine (equalQ (g := w.heap.size) HX3.out HY.out (by assumption)).mono ?_; rintro e w' ⟨rfl, hb'⟩))
  obtain ⟨g1, g2, g3, g4⟩ : w'.cell? ⟨w.heap.size, 0, none⟩ = some (.int .i64 r) ∧ w'.cell? ⟨w.heap.size, 1, none⟩ = some (.int .i64 b) ∧ w.heap.size < w'.heap.size ∧ Hid (Below w2.heap.size w2 w') := by assumption
  clear hp0 hp1 hs2 hb'
  have hB3 : Below w.heap.size w w' := HB.out.trans (g4.out.mono HB.out.size)
  have e3 : ((sent r b l f t).1 == (sent r b l f t).1) = true := beq_self_eq_true _
  have e4 : ((sent r b l f t).2 == (sent r b l f t).2) = true := beq_self_eq_true _
  go_wp2_with fail
  refine (sent_any r b f t A n c l _ (rSl.keep HR.out hB3 hB3.size)).mono ?_
  rintro e w3 ⟨rfl, hb3⟩
  obtain ⟨k1, k2, k3, K4⟩ := keepQ ⟨g1, g2, g3, hB3⟩ hb3
  clear g1 g2 g3 hB3 hb3
  go_wp2_with fail
  refine (sentR_any r b f t A n c l _ (rSl.keep HR.out K4.out K4.out.size)).mono ?_
  rintro e w4 ⟨rfl, hb4⟩
  obtain ⟨m1, m2, m3, M4⟩ := keepQ ⟨k1, k2, k3, K4⟩ hb4
  clear k1 k2 k3 K4 hb4
  go_wp2_with (go_at_call 10; refine (awake_any _).mono ?_; rintro e w5 ⟨rfl, hb5⟩)
  go_ret
  exact ⟨rfl, M4.out.trans (hb5.mono M4.out.size)⟩
end Go.Proofs.Yteoojplgchlhcaa
