/-
  awake.
-/
import Derived.Test.YteoojplgchlhcaaQuota
namespace Go.Proofs.Yteoojplgchlhcaa
open Go.RowKit
set_option linter.unusedVariables false
set_option linter.unusedSimpArgs false

theorem starts_awake : starts 2 10 [(0, 8), (0, 8)] = ([0, 3], 0) := by decide

theorem awake_any (w : World) : Calls Try.prog 10 #[] w fun e w' => e = .returned (.bool true) ∧ Below w.heap.size w w' := by
  go_enter Try.func10, Try.ntmps10
  go_wp2_with fail
  have hR : rAsks (w.alloc (.cells #[.int .i64 0, .int .i64 8, .int .i64 0, .int .i64 8] 31)) (w.alloc (.cells #[.int .i64 0, .int .i64 8, .int .i64 0, .int .i64 8] 31)).heap.size [(0, 8), (0, 8)] [.slice (some ⟨w.heap.size, 0, none⟩) 2 2] := by
    have ho : (w.alloc (.cells #[.int .i64 0, .int .i64 8, .int .i64 0, .int .i64 8] 31)).ownsRow 0 31 2 (.slice (some ⟨w.heap.size, 0, none⟩) 2 2) 2 [.int .i64 0, .int .i64 8, .int .i64 0, .int .i64 8] :=
      ⟨rfl, .inr ⟨w.heap.size, 2, _, rfl, by omega, heap_alloc_new w _, by omega, by decide, rfl, rfl⟩⟩
    obtain ⟨_, _, _, h⟩ := rSl.of_own (R := rPair (rI .i64) (rI .i64)) (l := [((0 : Int), (8 : Int)), (0, 8)]) (bts := 16) (fun x => [.int .i64 x.1, .int .i64 x.2]) ho (Nat.le_refl _) rfl rfl (fun _ => rfl)
      (fun x hx => ⟨_, _, rfl, ⟨rfl, by simp at hx; rw [hx]; decide⟩, ⟨rfl, by simp at hx; rw [hx]; decide⟩⟩) (by decide)
    exact h
  refine (starts_any 2 10 _ 2 2 _ _ hR).mono ?_
  rintro e w1 ⟨v, rfl, hb1, A1, c1, rfl, hx⟩
  have hb : Below w.heap.size w w1 := ((Below.refl _ _).alloc (Nat.le_refl _) _).trans (hb1.mono (by simp))
  rw [starts_awake] at hx ⊢
  obtain ⟨b0, o0, x0, rfl, hb0, hx0, hc0, _⟩ := rInts_at (k := 0) hx (by decide)
  obtain ⟨b0', o0', x1, hA, _, hx1, hc1, _⟩ := rInts_at (k := 1) hx (by decide)
  simp only [Option.some.injEq, Addr.mk.injEq, and_true] at hA
  obtain ⟨rfl, rfl⟩ := hA
  simp only [List.getElem?_cons_zero, List.getElem?_cons_succ, Option.some.injEq] at hx0 hx1
  subst hx0; subst hx1
  rw [Nat.add_zero] at hc0
  clear hR hx hb1
  go_wp2_with fail
  go_ret
  exact ⟨rfl, hb⟩

theorem own : ownKnob Try.prog.godebug = none := by kernel_rfl
theorem laidOut : laidOutB Try.prog = true := by kernel_rfl
end Go.Proofs.Yteoojplgchlhcaa
