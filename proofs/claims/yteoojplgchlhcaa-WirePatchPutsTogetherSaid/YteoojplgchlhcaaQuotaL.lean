/-
  awake; the law WireQuotasHold.
-/
import Derived.Test.YteoojplgchlhcaaQuotaS
import Derived.Test.YteoojplgchlhcaaOpen
namespace Go.Proofs.Yteoojplgchlhcaa
open Go.RowKit
set_option linter.unusedVariables false
set_option linter.unusedSimpArgs false

theorem starts_awake : starts 2 10 [(0, 8), (0, 8)] = ([0, 3], 0) := by decide

theorem awake_any (w : World) : Calls Try.prog 10 #[] w fun e w' => e = .returned (.bool true) ∧ Below w.heap.size w w' := by
  go_enter Try.func10, Try.ntmps10
  go_wp2_with fail
  have hR : rAsks (w.alloc (.cells #[.int .i64 0, .int .i64 8, .int .i64 0, .int .i64 8] 31)) (w.alloc (.cells #[.int .i64 0, .int .i64 8, .int .i64 0, .int .i64 8] 31)).heap.size [(0, 8), (0, 8)] [.slice (some ⟨w.heap.size, 0, none⟩) 2 2] := by
    have ho : (w.alloc (.cells #[.int .i64 0, .int .i64 8, .int .i64 0, .int .i64 8] 31)).ownsRow 0 31 2 (.slice (some ⟨w.heap.size, 0, none⟩) 2 2) 2 [.int .i64 0, .int .i64 8, .int .i64 0, .int .i64 8] :=
      ⟨rfl, .inr ⟨w.heap.size, 2, _, rfl, by omega, heap_alloc_new w _, by omega, by decide, rfl, rfl⟩⟩
    obtain ⟨_, _, _, h⟩ := rSl.of_own (R := rPair (rI .i64) (rI .i64)) (l := [((0 : Int), (8 : Int)), (0, 8)]) (bts := 16) (fun x => [.int .i64 x.1, .int .i64 x.2]) ho (Nat.le_refl _) rfl rfl (fun _ => rfl)
      (fun x hx => ⟨_, _, rfl, ⟨rfl, by simp at hx; rw [hx]; decide⟩, ⟨rfl, by simp at hx; rw [hx]; decide⟩⟩) (by decide)
    exact h
  refine (starts_any 2 10 _ 2 2 _ _ hR).mono ?_
  rintro e w1 ⟨v, rfl, hb1, A1, c1, rfl, hx⟩
  have hb : Below w.heap.size w w1 := ((Below.refl _ _).alloc (Nat.le_refl _) _).trans (hb1.mono (by simp))
  rw [starts_awake] at hx ⊢
  obtain ⟨b0, o0, x0, rfl, hb0, hx0, hc0, _⟩ := rInts_at (k := 0) hx (by decide)
  obtain ⟨b0', o0', x1, hA, _, hx1, hc1, _⟩ := rInts_at (k := 1) hx (by decide)
  simp only [Option.some.injEq, Addr.mk.injEq, and_true] at hA
  obtain ⟨rfl, rfl⟩ := hA
  simp only [List.getElem?_cons_zero, List.getElem?_cons_succ, Option.some.injEq] at hx0 hx1
  subst hx0; subst hx1
  rw [Nat.add_zero] at hc0
  clear hR hx hb1
  go_wp2_with fail
  go_ret
  exact ⟨rfl, hb⟩

/-! ### The plain law -/
theorem startsGo_each (r b : Int) : ∀ (l : List (Int × Int)) (a hd : Int) (k : Nat) (s : Int) (x : Int × Int), (startsGo r b a hd l).1[k]? = some s → l[k]? = some x → a ≤ s ∧ x.1 ≤ s := by
  intro l
  induction l with
  | nil => intro a hd k s x _ h; simp at h
  | cons y l ih =>
    intro a hd k s x h1 h2
    have hw := waitP_nonneg r a hd y
    cases k with
    | zero =>
      simp only [startsGo, List.getElem?_cons_zero, Option.some.injEq] at h1 h2
      subst h2
      have : y.1 - a ≤ waitP r a hd y := by unfold waitP; split <;> omega
      simp only [stepP] at h1
      omega
    | succ k =>
      simp only [startsGo, List.getElem?_cons_succ] at h1 h2
      have := ih _ _ k s x h1 h2
      simp only [stepP] at this
      omega
theorem startsGo_mono (r b : Int) : ∀ (l : List (Int × Int)) (a hd : Int) (k : Nat) (s s' : Int), (startsGo r b a hd l).1[k]? = some s → (startsGo r b a hd l).1[k + 1]? = some s' → s ≤ s' := by
  intro l
  induction l with
  | nil => intro a hd k s x h; simp [startsGo] at h
  | cons y l ih =>
    intro a hd k s s' h1 h2
    cases k with
    | zero =>
      simp only [startsGo, List.getElem?_cons_zero, List.getElem?_cons_succ, Option.some.injEq] at h1 h2
      have hlen := startsGo_len r b l (stepP r b a hd y).1 (stepP r b a hd y).2
      have h3 := (List.getElem?_eq_some_iff.1 h2).1
      rw [hlen] at h3
      have := startsGo_each r b l _ _ 0 s' l[0] h2 (List.getElem?_eq_getElem h3)
      omega
    | succ k =>
      simp only [startsGo, List.getElem?_cons_succ] at h1 h2
      exact ih _ _ k s s' h1 h2

theorem sentSum_late {f t : Int} (r b : Int) : ∀ (l : List (Int × Int)) (a hd : Int), t ≤ a → sentSum f t ((startsGo r b a hd l).1.zip l) = 0 := by
  intro l
  induction l with
  | nil => intro a hd _; simp [startsGo, sentSum]
  | cons y l ih =>
    intro a hd h
    have hw := waitP_nonneg r a hd y
    have e : (stepP r b a hd y).1 = a + waitP r a hd y := rfl
    simp only [startsGo, List.zip_cons_cons, sentSum]
    rw [if_neg (by omega), ih _ _ (by omega)]; rfl

theorem sentSum_from {f t r b : Int} (hr : 1 ≤ r) (hr2 : r ≤ 1000000000) (hb2 : b ≤ 1000000000) : ∀ (l : List (Int × Int)) (a hd : Int), (∀ x ∈ l, x.1 ≤ 1000000000 ∧ 0 ≤ x.2 ∧ x.2 ≤ b) → 0 ≤ a → f ≤ a → a < t → 0 ≤ hd → hd ≤ b → sentSum f t ((startsGo r b a hd l).1.zip l) ≤ hd + (t - 1 - a) * r := by
  intro l
  induction l with
  | nil =>
    intro a hd _ _ _ h3 h4 _
    have := Int.mul_nonneg (show 0 ≤ t - 1 - a by omega) (show 0 ≤ r by omega)
    simp [startsGo, sentSum]; omega
  | cons y l ih =>
    intro a hd hl h0 h1 h3 h4 h5
    have hy := hl y (by simp)
    have hW := waitP_bd (r := r) (b := b) (a := a) (hd := hd) (x := y) hr hr2 hb2 h0 h4 hy.1 hy.2.2
    have e : (stepP r b a hd y).1 = a + waitP r a hd y := rfl
    have e2 : (stepP r b a hd y).2 = min b (hd + waitP r a hd y * r) - y.2 := rfl
    simp only [startsGo, List.zip_cons_cons, sentSum]
    by_cases hs : a + waitP r a hd y < t
    · rw [if_pos (by omega)]
      have h := ih (stepP r b a hd y).1 (stepP r b a hd y).2 (fun x hx => hl x (by simp [hx])) (by omega) (by omega) (by omega) (by omega) (by omega)
      rw [e, e2] at h
      have e3 : (t - 1 - (a + waitP r a hd y)) * r = (t - 1 - a) * r - waitP r a hd y * r := by rw [← Int.sub_mul]; congr 1; omega
      rw [e3] at h
      rw [e, e2]
      omega
    · rw [if_neg (by omega), sentSum_late r b l _ _ (by omega)]
      have := Int.mul_nonneg (show 0 ≤ t - 1 - a by omega) (show 0 ≤ r by omega)
      omega

theorem sentSum_all {f t r b : Int} (hr : 1 ≤ r) (hr2 : r ≤ 1000000000) (hb1 : 1 ≤ b) (hb2 : b ≤ 1000000000) (hft : f < t) : ∀ (l : List (Int × Int)) (a hd : Int), (∀ x ∈ l, x.1 ≤ 1000000000 ∧ 0 ≤ x.2 ∧ x.2 ≤ b) → 0 ≤ a → 0 ≤ hd → hd ≤ b → sentSum f t ((startsGo r b a hd l).1.zip l) ≤ b + (t - f) * r := by
  intro l
  induction l with
  | nil =>
    intro a hd _ _ h4 _
    have := Int.mul_nonneg (show 0 ≤ t - f by omega) (show 0 ≤ r by omega)
    simp [startsGo, sentSum]; omega
  | cons y l ih =>
    intro a hd hl h0 h4 h5
    have hy := hl y (by simp)
    have hW := waitP_bd (r := r) (b := b) (a := a) (hd := hd) (x := y) hr hr2 hb2 h0 h4 hy.1 hy.2.2
    have e : (stepP r b a hd y).1 = a + waitP r a hd y := rfl
    have e2 : (stepP r b a hd y).2 = min b (hd + waitP r a hd y * r) - y.2 := rfl
    simp only [startsGo, List.zip_cons_cons, sentSum]
    by_cases hs : f ≤ a + waitP r a hd y ∧ a + waitP r a hd y < t
    · rw [if_pos (by omega)]
      have h := sentSum_from (f := f) (t := t) hr hr2 hb2 l (stepP r b a hd y).1 (stepP r b a hd y).2 (fun x hx => hl x (by simp [hx])) (by omega) (by omega) (by omega) (by omega) (by omega)
      rw [e, e2] at h
      have h6 : (t - 1 - (a + waitP r a hd y)) * r ≤ (t - f) * r := Int.mul_le_mul_of_nonneg_right (by omega) (by omega)
      rw [e, e2]
      omega
    · rw [if_neg (by omega)]
      have h := ih (stepP r b a hd y).1 (stepP r b a hd y).2 (fun x hx => hl x (by simp [hx])) (by omega) (by omega) (by omega)
      omega

theorem sentSum_nonneg {f t b : Int} : ∀ (z : List (Int × (Int × Int))), (∀ x ∈ z, 0 ≤ x.2.2 ∧ x.2.2 ≤ b) → 0 ≤ sentSum f t z ∧ sentSum f t z ≤ z.length * b := by
  intro z
  induction z with
  | nil => intro _; simp [sentSum]
  | cons x z ih =>
    intro h
    have h1 := h x (by simp)
    have h2 := ih (fun y hy => h y (by simp [hy]))
    simp only [sentSum, List.length_cons, Int.natCast_add, Int.add_mul]
    split <;> omega
theorem sentSum_none {f t : Int} (h : t ≤ f) : ∀ (z : List (Int × (Int × Int))), sentSum f t z = 0 := by
  intro z
  induction z with
  | nil => rfl
  | cons x z ih => simp only [sentSum]; rw [if_neg (by omega), ih]; rfl

theorem starts_err {r b : Int} {l : List (Int × Int)} (h : (starts r b l).2 ≠ 0) : (starts r b l).1 = [] := by
  unfold starts at h ⊢
  split
  · rfl
  · split
    · rfl
    · split
      · rfl
      · split
        · rfl
        · rename_i h1 h2 h3 h4
          rw [if_neg h1, if_neg h2, if_neg h3, if_neg h4] at h
          simp at h

theorem sent_hold {r b f t : Int} {l : List (Int × Int)} (h0 : (starts r b l).2 = 0) :
    ((sent r b l f t).2 ≠ 0 ∨ t ≤ f → (sent r b l f t).1 = 0) ∧
    (¬ ((sent r b l f t).2 ≠ 0 ∨ t ≤ f) → (sent r b l f t).1 ≤ b + (t - f) * r ∧ 0 ≤ t - f ∧ t - f ≤ 1000000001 ∧ 0 ≤ (t - f) * r ∧ (t - f) * r ≤ 2000000000000000000) := by
  obtain ⟨h1, h2, h3, h4, h5, h6⟩ := starts_ok h0
  obtain ⟨q1, q2, q3, q4⟩ := codeQ_zero h4
  unfold sent
  rw [if_neg (by simp [h0])]
  split
  · exact ⟨fun _ => rfl, fun h => absurd (Or.inl (by simp)) h⟩
  · rename_i hi
    simp only [Bool.or_eq_true, Bool.not_eq_true', not_or, Bool.not_eq_false] at hi
    simp [inR] at hi
    refine ⟨fun h => ?_, fun h => ?_⟩
    · have : t ≤ f := by rcases h with h | h; · simp at h
                         · exact h
      exact sentSum_none this _
    · have hft : f < t := by
        rcases Int.lt_or_le f t with h' | h'
        · exact h'
        · exact absurd (Or.inr h') h
      have hl : ∀ x ∈ l, x.1 ≤ 1000000000 ∧ 0 ≤ x.2 ∧ x.2 ≤ b := by
        intro x hx
        have := askCode_ok h5 x hx
        simp [inR] at this
        omega
      have hm : (t - f) * r ≤ 1000000001 * 1000000000 := Int.mul_le_mul (by omega) q2 (by omega) (by omega)
      refine ⟨?_, by omega, by omega, Int.mul_nonneg (by omega) (by omega), by omega⟩
      show sentSum f t ((starts r b l).1.zip l) ≤ _
      rw [h1]
      exact sentSum_all q1 q2 q3 q4 hft l 0 b hl (by omega) (by omega) (by omega)

/-! ### The law's walk -/
set_option maxHeartbeats 1000000 in
theorem quotasHold_any (r b f t : Int) (A : Option Addr) (n c : Nat) (l : List (Int × Int)) (w : World) (hR : rAsks w w.heap.size l [.slice A n c]) :
    Calls Try.prog 3 #[.agg #[.int .i64 r, .int .i64 b], .slice A n c, .int .i64 f, .int .i64 t] w fun e w' => e = .returned (.bool true) ∧ Below w.heap.size w w' := by
  have HR := Lib.hid hR
  have hln := hR.len
  have hcm := hR.le
  have HL := Lib.hid hln
  clear hR hln
  obtain ⟨hcm1, hcm2, _⟩ := hcm
  go_enter Try.func3, Try.ntmps3
  go_wp2_with fail
  have hb0 : Below w.heap.size w (w.alloc (.cells #[.int .i64 r, .int .i64 b] 23)) := (Below.refl _ _).alloc (Nat.le_refl _) _
  refine (starts_any r b A n c l _ (rSl.keep HR.out hb0 (by simp))).mono ?_
  rintro e w1 ⟨v, rfl, hb1, A1, c1, rfl, hx⟩
  have hb : Below w.heap.size w w1 := hb0.trans (hb1.mono (by simp))
  have hq0 : w1.cell? ⟨w.heap.size, 0, none⟩ = some (.int .i64 r) := by
    rw [(bcell hb1).1 _ _ (by simp)]; simp [go_sem]
  have hq1 : w1.cell? ⟨w.heap.size, 1, none⟩ = some (.int .i64 b) := by
    rw [(bcell hb1).1 _ _ (by simp)]; simp [go_sem]
  have hs1 : w.heap.size < w1.heap.size := by have := hb1.size; simp at this; omega
  have HX := Lib.hid hx
  clear hb0 hb1 hx
  by_cases hc0 : (starts r b l).2 = 0
  · have hq := starts_ok hc0
    have hm : (starts r b l).1.length = n := by rw [hq.2.1]; exact HL.out
    have HQ := Lib.hid hq
    have hc0' : ((starts r b l).2 != 0) = false := by simp [hc0]
    have hsh := sent_hold (f := f) (t := t) hc0
    have HS := Lib.hid hsh
    have HC := Lib.hid hc0
    clear hc0 hq hsh
    generalize (starts r b l).1.length = m at *
    subst hm
    have hmm : ((m : Int) != (m : Int)) = false := bne_self_eq_false _
    go_wp2_with fail
    go_loop [35] (fun i => ∃ (k : Nat), k ≤ m ∧ i = .int .i64 k) (fun i => m - (intOf i).toNat)
    case atStart => exact ⟨0, by omega, rfl⟩
    case round =>
      obtain ⟨k, hk, rfl⟩ := hrel
      by_cases hlt : k < m
      · obtain ⟨bk, o, y, rfl, hbk, hy, hy1, hy2⟩ := rAsks_at (rSl.keep HR.out hb (Nat.le_refl _)) hlt
        obtain ⟨bz, oz, z, rfl, hbz, hz, hz1, _⟩ := rInts_at HX.out hlt
        have hge : y.1 ≤ z := by
          have h1 := hz
          rw [HQ.out.1] at h1
          exact (startsGo_each r b l 0 b k z y h1 hy).2
        clear hy
        by_cases hk0 : 0 < k
        · obtain ⟨bz', oz', u, hA, _, hu, hu1, _⟩ := rInts_at HX.out (show k - 1 < m by omega)
          simp only [Option.some.injEq, Addr.mk.injEq, and_true] at hA
          obtain ⟨rfl, rfl⟩ := hA
          have hge2 : u ≤ z := by
            have h1 := hz
            rw [HQ.out.1, show k = k - 1 + 1 by omega] at h1
            have h2 := hu
            rw [HQ.out.1] at h2
            exact startsGo_mono r b l 0 b (k - 1) u z h2 h1
          clear hz hu
          have e7 : 1 ≤ k := hk0
          go_wp2_with fail
          go_round
          case rel => exact ⟨k + 1, by omega, by go_num⟩
          case measure => simp [intOf]; omega
        · clear hz
          have e6 : decide (0 < k) = false := by simpa using hk0
          go_wp2_with fail
          go_round
          case rel => exact ⟨k + 1, by omega, by go_num⟩
          case measure => simp [intOf]; omega
      · obtain rfl : k = m := by omega
        go_wp2_with fail
        refine (sent_any r b f t A k c l _ (rSl.keep HR.out hb hb.size)).mono ?_
        rintro e w2 ⟨rfl, hb2⟩
        have hb' : Below w.heap.size w w2 := hb.trans (hb2.mono hb.size)
        have hp1 : w2.cell? ⟨w.heap.size, 0, none⟩ = some (.int .i64 r) := by rw [(bcell hb2).1 _ _ hs1]; exact hq0
        have hp2 : w2.cell? ⟨w.heap.size, 1, none⟩ = some (.int .i64 b) := by rw [(bcell hb2).1 _ _ hs1]; exact hq1
        clear hq0 hq1 hb2
        by_cases he : (sent r b l f t).2 = 0
        · have he' : ((sent r b l f t).2 != 0) = false := by simp [he]
          by_cases hle : t ≤ f
          · have h0 : (sent r b l f t).1 = 0 := HS.out.1 (Or.inr hle)
            have h0' : ((sent r b l f t).1 == 0) = true := by simp [h0]
            clear he h0
            go_wp2_with (go_at_call 10; refine (awake_any _).mono ?_; rintro e w3 ⟨rfl, hb3⟩)
            go_ret
            exact ⟨rfl, hb'.trans (hb3.mono hb'.size)⟩
          · obtain ⟨g1, g2, g3, g4, g5⟩ := HS.out.2 (by rintro (h | h) <;> contradiction)
            have hbq := codeQ_zero HQ.out.2.2.2.1
            clear he
            generalize (sent r b l f t).1 = S at *
            go_wp2_with (go_at_call 10; refine (awake_any _).mono ?_; rintro e w3 ⟨rfl, hb3⟩)
            go_ret
            exact ⟨rfl, hb'.trans (hb3.mono hb'.size)⟩
        · have he' : ((sent r b l f t).2 != 0) = true := by simpa using he
          have h0 : (sent r b l f t).1 = 0 := HS.out.1 (Or.inl he)
          have h0' : ((sent r b l f t).1 == 0) = true := by simp [h0]
          clear he h0
          go_wp2_with (go_at_call 10; refine (awake_any _).mono ?_; rintro e w3 ⟨rfl, hb3⟩)
          go_ret
          exact ⟨rfl, hb'.trans (hb3.mono hb'.size)⟩
  · have hc0' : ((starts r b l).2 != 0) = true := by simpa using hc0
    have hm : (starts r b l).1 = [] := starts_err hc0
    rw [hm]
    clear hc0 hm
    go_wp2_with (go_at_call 10; refine (awake_any _).mono ?_; rintro e w3 ⟨rfl, hb3⟩)
    go_ret
    exact ⟨rfl, hb.trans (hb3.mono hb.size)⟩

theorem own : ownKnob Try.prog.godebug = none := by kernel_rfl
theorem laidOut : laidOutB Try.prog = true := by kernel_rfl
end Go.Proofs.Yteoojplgchlhcaa
