/-
  The walks of the reference's CheckQuota and Starts.
-/
import Derived.Test.YteoojplgchlhcaaQuota
namespace Go.Proofs.Yteoojplgchlhcaa
open Go.RowKit
set_option linter.unusedVariables false
set_option linter.unusedSimpArgs false

theorem waitP_nonneg (r a hd : Int) (x : Int × Int) : 0 ≤ waitP r a hd x := by unfold waitP; split <;> omega
theorem startsGo_ge (r b : Int) : ∀ (l : List (Int × Int)) (a hd : Int), a ≤ (startsGo r b a hd l).2 := by
  intro l
  induction l with
  | nil => intro a hd; simp [startsGo]
  | cons x l ih =>
    intro a hd
    have h := ih (stepP r b a hd x).1 (stepP r b a hd x).2
    have h2 := waitP_nonneg r a hd x
    have h3 : (stepP r b a hd x).1 = a + waitP r a hd x := rfl
    simp only [startsGo]
    omega

def refNeed (r b a hd : Int) (x : Int × Int) : Int := x.2 - min b (hd + (max a x.1 - a) * r)
theorem refNext_eq {r b a hd : Int} {x : Int × Int} (hr : 1 ≤ r) (hb : hd ≤ b) (hx : x.2 ≤ b) :
    (refNeed r b a hd x > 0 → max a x.1 + (refNeed r b a hd x + r - 1) / r = a + waitP r a hd x) ∧ (¬ refNeed r b a hd x > 0 → max a x.1 = a + waitP r a hd x) := by
  obtain ⟨w0, hw0⟩ : ∃ w0, w0 = max (x.1 - a) 0 := ⟨_, rfl⟩
  have e0 : max a x.1 - a = w0 := by omega
  have w0p : 0 ≤ w0 := by omega
  have wr0 : 0 ≤ w0 * r := Int.mul_nonneg w0p (by omega)
  have ceil : ∀ q : Int, x.2 - hd ≤ q * r ↔ (x.2 - hd + r - 1) / r ≤ q := by
    intro q
    rw [show ((x.2 - hd + r - 1) / r ≤ q) ↔ ((x.2 - hd + r - 1) / r < q + 1) by omega, Int.ediv_lt_iff_lt_mul (by omega), Int.add_mul]
    omega
  unfold refNeed
  rw [e0]
  constructor
  · intro h
    have hlt : ¬ b ≤ hd + w0 * r := by intro hh; rw [Int.min_eq_left hh] at h; omega
    have em : min b (hd + w0 * r) = hd + w0 * r := Int.min_eq_right (by omega)
    rw [em] at h ⊢
    have hlk : x.2 - hd > 0 := by omega
    have e1 : (x.2 - (hd + w0 * r) + r - 1) / r = (x.2 - hd + r - 1) / r - w0 := by
      rw [show x.2 - (hd + w0 * r) + r - 1 = x.2 - hd + r - 1 + (-w0) * r by rw [Int.neg_mul]; omega, Int.add_mul_ediv_right _ _ (by omega)]
      omega
    have hc := ceil w0
    have hnc : ¬ (x.2 - hd + r - 1) / r ≤ w0 := fun hh => by have := hc.2 hh; omega
    unfold waitP
    rw [if_pos hlk, e1]
    omega
  · intro h
    unfold waitP
    split
    · rename_i hlk
      have hle : x.2 - hd ≤ w0 * r := by
        rcases Int.le_total b (hd + w0 * r) with hh | hh
        · omega
        · rw [Int.min_eq_right hh] at h; omega
      have hc := (ceil w0).1 hle
      have : 0 ≤ (x.2 - hd + r - 1) / r := Int.ediv_nonneg (by omega) (by omega)
      omega
    · omega

theorem withinR_any (a l h : Int) (w : World) :
    Calls Try.prog 29 #[.int .i64 a, .int .i64 l, .int .i64 h] w fun e w' => e = .returned (.bool (inR a l h)) ∧ w = w' := by
  go_enter Try.func29, Try.ntmps29
  go_wp2
  all_goals go_ret
  all_goals exact ⟨by simp [inR, *] <;> omega, rfl⟩

theorem checkQuotaR_any (r b : Int) (w : World) :
    Calls Try.prog 14 #[.agg #[.int .i64 r, .int .i64 b]] w fun e w' => e = .returned (.int .i64 (codeQ r b)) ∧ Below w.heap.size w w' := by
  go_enter Try.func14, Try.ntmps14
  go_wp2_with (go_at_call 29; refine (withinR_any _ _ _ _).mono ?_; rintro e w' ⟨rfl, rfl⟩)
  all_goals go_ret
  all_goals exact ⟨by simp_all [codeQ], (Below.refl _ _).alloc (Nat.le_refl _) _⟩

set_option maxHeartbeats 1000000 in
set_option maxRecDepth 100000 in
theorem startsR_any (r b : Int) (A : Option Addr) (n c : Nat) (l : List (Int × Int)) (w : World) (hR : rAsks w w.heap.size l [.slice A n c]) :
    Calls Try.prog 12 #[.agg #[.int .i64 r, .int .i64 b], .slice A n c] w (Ret (PInts (starts r b l).1 (starts r b l).2) w) := by
  have hln := hR.len
  obtain ⟨hnc, hcm, _⟩ := hR.le
  by_cases h0 : codeQ r b = 0
  · have h0' : (codeQ r b != 0) = false := by simp [h0]
    have HS : Hid ((starts r b l) = if l.length > 2000 then ([], 2) else if askCode b none l ≠ 0 then ([], askCode b none l)
      else if (startsGo r b 0 b l).2 > 1000000000 then ([], 1) else ((startsGo r b 0 b l).1, 0)) := by unfold starts; rw [if_neg (by simp [h0])]; rfl
    have HR := Lib.hid hR
    have HL := Lib.hid hln
    have hrb : 1 ≤ r ∧ r ≤ 1000000000 ∧ 1 ≤ b ∧ b ≤ 1000000000 := by
      by_cases h : inR r 1 1000000000 && inR b 1 1000000000
      · simp [inR] at h; omega
      · simp [codeQ, h] at h0
    clear hR hln h0
    by_cases hn : n > 2000
    · have hn' : decide ((n : Int) > 2000) = true := by simp; omega
      go_enter Try.func12, Try.ntmps12
      go_wp2_with (go_at_call 14; refine (checkQuotaR_any _ _ _).mono ?_; rintro e w1 ⟨rfl, hb1⟩)
      go_ret2
      refine ⟨_, rfl, ((Below.refl _ _).alloc (Nat.le_refl _) _).trans (hb1.mono (by simp)), ?_⟩
      rw [HS.out, if_pos (by rw [HL.out]; exact hn)]
      exact PInts.none_
    · have hn' : decide ((n : Int) > 2000) = false := by simp; omega
      have HS2 : Hid ((starts r b l) = if askCode b none l ≠ 0 then ([], askCode b none l)
        else if (startsGo r b 0 b l).2 > 1000000000 then ([], 1) else ((startsGo r b 0 b l).1, 0)) := by rw [HS.out, if_neg (by rw [HL.out]; exact hn)]; rfl
      clear HS
      go_enter Try.func12, Try.ntmps12
      go_wp2_with (go_at_call 14; refine (checkQuotaR_any _ _ _).mono ?_; rintro e w1 ⟨rfl, hb1⟩)
      have hb : Below w.heap.size w w1 := ((Below.refl _ _).alloc (Nat.le_refl _) _).trans (hb1.mono (by simp))
      have hq0 : w1.cell? ⟨w.heap.size, 0, none⟩ = some (.int .i64 r) ∧ w1.cell? ⟨w.heap.size, 1, none⟩ = some (.int .i64 b) := by
        rw [(bcell hb1).1 _ _ (by simp), (bcell hb1).1 _ _ (by simp)]; simp [go_sem]
      have hs1 : w.heap.size + 1 ≤ w1.heap.size := by have := hb1.size; simp at this; omega
      clear hb1
      go_loopw [26] (fun i wr => ∃ k : Nat, k ≤ n ∧ i = .int .i64 k ∧ Below (w.heap.size + 1) w1 wr ∧ Hid (∃ p, askCode b none l = askCode b p (l.drop k) ∧ (k = 0 → p = none) ∧ (0 < k → ∃ y, l[k-1]? = some y ∧ p = some y.1))) (fun i _ => n - (intOf i).toNat)
      case atStart => exact ⟨0, by omega, rfl, Below.refl _ _, ⟨none, rfl, fun _ => rfl, fun h => absurd h (by omega)⟩⟩
      case round =>
        obtain ⟨k, hk, rfl, hbr, HP⟩ := hrel
        have hq1 : wr.cell? ⟨w.heap.size, 0, none⟩ = some (.int .i64 r) := by rw [(bcell hbr).1 _ _ (by omega)]; exact hq0.1
        have hq2 : wr.cell? ⟨w.heap.size, 1, none⟩ = some (.int .i64 b) := by rw [(bcell hbr).1 _ _ (by omega)]; exact hq0.2
        have hzr : w.heap.size < wr.heap.size := by have := hbr.size; omega
        have hbw : Below w.heap.size w wr := hb.trans (hbr.mono (by omega))
        by_cases hlt : k < n
        · obtain ⟨bk, o, x, rfl, hbk, hx, hx1, hx2⟩ := rAsks_at (rSl.keep HR.out hbw (Nat.le_refl _)) hlt
          have Hx := Lib.hid hx
          clear hx
          have hbz : bk < wr.heap.size := by omega
          cases h1 : inR x.1 0 1000000000
          · go_wp2_with (go_at_call 29; refine (withinR_any _ _ _ _).mono ?_; rintro e w' ⟨rfl, rfl⟩)
            go_ret2
            refine ⟨_, rfl, hbw.alloc (by omega) _, ?_⟩
            obtain ⟨p, hp, _⟩ := HP.out
            rw [HS2.out, hp, askCode_bad Hx.out (Or.inl h1)]
            exact PInts.none_
          cases h2 : inR x.2 0 b
          · go_wp2_with (go_at_call 29; refine (withinR_any _ _ _ _).mono ?_; rintro e w' ⟨rfl, rfl⟩)
            go_ret2
            refine ⟨_, rfl, hbw.alloc (by omega) _, ?_⟩
            obtain ⟨p, hp, _⟩ := HP.out
            rw [HS2.out, hp, askCode_bad Hx.out (Or.inr h2)]
            exact PInts.none_
          by_cases hk0 : 0 < k
          · obtain ⟨bk', o', y, hA, _, hy, hy1, hy2⟩ := rAsks_at (rSl.keep HR.out hbw (Nat.le_refl _)) (show k - 1 < n by omega)
            simp only [Option.some.injEq, Addr.mk.injEq, and_true] at hA
            obtain ⟨rfl, rfl⟩ := hA
            have Hy := Lib.hid hy
            clear hy
            have e1 : IntKind.i64.wrap ((k : Int) - 1) = (k : Int) - 1 := IntWalk.i64_in _ (by omega)
            have e2 : ((k : Int) - 1).toNat = k - 1 := by omega
            have e3 : (0 : Int) ≤ (k : Int) - 1 := by omega
            have e4 : (1 : Int) ≤ (k : Int) := by omega
            have e5 : (k : Int) - 1 < n := by omega
            have e6 : decide (0 < k) = true := by simpa using hk0
            have e7 : 1 ≤ k := hk0
            go_wp2_with (go_at_call 29; refine (withinR_any _ _ _ _).mono ?_; rintro e w' ⟨rfl, rfl⟩)
            go_quiet (fail)
            clear e1 e2 e3 e4 e5 e6 e7
            go_wp2_with fail
            · go_ret2
              refine ⟨_, rfl, drewN_below (hbw.alloc (by omega) _) _, ?_⟩
              obtain ⟨p, hp, _, hp2⟩ := HP.out
              obtain ⟨y', hy', rfl⟩ := hp2 hk0
              have hlt3 : x.1 < y.1 := by assumption
              rw [Hy.out] at hy'
              cases hy'
              rw [HS2.out, hp, askCode_order Hx.out h1 h2 (by simpa using hlt3)]
              exact PInts.none_
            · have hlt3 : y.1 ≤ x.1 := by assumption
              go_roundw
              case rel =>
                obtain ⟨p, hp, _, hp2⟩ := HP.out
                obtain ⟨y', hy', rfl⟩ := hp2 hk0
                rw [Hy.out] at hy'
                cases hy'
                exact ⟨k + 1, by omega, by go_num, drewN_below (hbr.alloc (by omega) _) _, ⟨some x.1, by rw [hp, askCode_next Hx.out h1 h2 (by simpa using hlt3)], by omega, fun _ => ⟨x, Hx.out, rfl⟩⟩⟩
              case measure => simp [intOf]; omega
          · have e6 : decide (0 < k) = false := by simpa using hk0
            go_wp2_with (go_at_call 29; refine (withinR_any _ _ _ _).mono ?_; rintro e w' ⟨rfl, rfl⟩)
            go_quiet (fail)
            go_wp2_with fail
            go_roundw
            case rel =>
              obtain ⟨p, hp, hp1, _⟩ := HP.out
              obtain rfl := hp1 (by omega)
              exact ⟨k + 1, by omega, by go_num, drewN_below (hbr.alloc (by omega) _) _, ⟨some x.1, by rw [hp, askCode_next Hx.out h1 h2 rfl], by omega, fun _ => ⟨x, Hx.out, rfl⟩⟩⟩
            case measure => simp [intOf]; omega
        · obtain rfl : k = n := by omega
          have HA : Hid (askCode b none l = 0) := by
            obtain ⟨p, hp, _⟩ := HP.out
            have hln := HL.out
            rw [List.drop_of_length_le (by omega)] at hp
            exact hp
          clear hq0 HP hlt
          have HS3 : Hid ((starts r b l) = if (startsGo r b 0 b l).2 > 1000000000 then ([], 1) else ((startsGo r b 0 b l).1, 0)) := by rw [HS2.out, if_neg (by rw [HA.out]; simp)]; rfl
          clear HS2
          go_wp2_with fail
          go_quiet (fail)
          go_wp2_with fail
          obtain ⟨wo, rfl⟩ : ∃ wo : World, wo = wr := ⟨_, rfl⟩
          go_loopw [9, 10, 11, 61] (fun v at_ hv i wr => ∃ (j : Nat) (xs : List Int) (a hd : Int), j ≤ k ∧ i = .int .i64 j ∧ at_ = .int .i64 a ∧ hv = .int .i64 hd ∧ wr.ownsRow (w.heap.size + 1) 3 1 v j (xs.map (Value.int .i64)) ∧ Below (w.heap.size + 1) w1 wr ∧
              0 ≤ a ∧ a ≤ 1000000000 ∧ 0 ≤ hd ∧ hd ≤ b ∧
              Hid ((∀ y ∈ xs, 0 ≤ y ∧ y ≤ 2000000000000) ∧ startsGo r b 0 b l = (xs ++ (startsGo r b a hd (l.drop j)).1, (startsGo r b a hd (l.drop j)).2))) (fun _ _ _ i _ => k - (intOf i).toNat)
          case atStart => exact ⟨0, [], 0, b, by omega, rfl, rfl, rfl, World.ownsRow_nil _ _ _ _, drewN_below hbr _, by omega, by omega, by omega, by omega, ⟨fun _ h => (by cases h), rfl⟩⟩
          case round =>
            obtain ⟨j, xs, a, hd, hj, rfl, rfl, rfl, hown, hbs, ha0, ha1, hh0, hh1, HG⟩ := hrel
            have hbw2 : Below w.heap.size w wr := hb.trans (hbs.mono (by omega))
            have hp1 : wr.cell? ⟨w.heap.size, 0, none⟩ = some (.int .i64 r) := by rw [(bcell hbs).1 _ _ (by omega), ← (bcell hbr).1 _ _ (by omega)]; exact hq1
            have hp2 : wr.cell? ⟨w.heap.size, 1, none⟩ = some (.int .i64 b) := by rw [(bcell hbs).1 _ _ (by omega), ← (bcell hbr).1 _ _ (by omega)]; exact hq2
            have hzs : w.heap.size < wr.heap.size := by have := hbs.size; omega
            clear hq1 hq2
            by_cases hlt2 : j < k
            · obtain ⟨bk, o, x, rfl, hbk, hx, hx1, hx2⟩ := rAsks_at (rSl.keep HR.out hbw2 (Nat.le_refl _)) hlt2
              have Hx := Lib.hid hx
              have hyy := askCode_ok HA.out x (List.mem_of_getElem? hx)
              clear hx
              have hbz : bk < wr.heap.size := by omega
              have hy : 0 ≤ x.1 ∧ x.1 ≤ 1000000000 ∧ 0 ≤ x.2 ∧ x.2 ≤ b := by simp [inR] at hyy; omega
              clear hyy
              obtain ⟨hy1, hy2, hy3, hy4⟩ := hy
              obtain ⟨hr1, hr2, hr3, hr4⟩ := hrb
              have hmx := @run_max_int Try.prog
              have hmn := @run_min_int Try.prog
              have hW := waitP_bd (r := r) (b := b) (a := a) (hd := hd) (x := x) hr1 hr2 hr4 ha0 hh0 hy2 hy4
              have hN := refNext_eq (r := r) (b := b) (a := a) (hd := hd) (x := x) hr1 hh1 hy4
              have hbig : a + waitP r a hd x > 1000000000 → (startsGo r b 0 b l).2 > 1000000000 := by
                intro h
                rw [HG.out.2, drop_of Hx.out]
                exact Int.lt_of_lt_of_le h (startsGo_ge r b (l.drop (j + 1)) _ _)
              have hfin : ∀ (v' : Value) (W w' : World), a + waitP r a hd x ≤ 1000000000 → w'.ownsRow (w.heap.size + 1) 3 1 v' (j + 1) (xs.map (Value.int .i64) ++ [.int .i64 (a + waitP r a hd x)]) → Below (w.heap.size + 1) wr w' →
                  ∃ (j' : Nat) (xs' : List Int) (a' hd' : Int), j' ≤ k ∧ Value.int .i64 ((j : Int) + 1) = .int .i64 j' ∧ Value.int .i64 (a + waitP r a hd x) = .int .i64 a' ∧ Value.int .i64 (min b (hd + waitP r a hd x * r) - x.2) = .int .i64 hd' ∧ w'.ownsRow (w.heap.size + 1) 3 1 v' j' (xs'.map (Value.int .i64)) ∧ Below (w.heap.size + 1) w1 w' ∧
                    0 ≤ a' ∧ a' ≤ 1000000000 ∧ 0 ≤ hd' ∧ hd' ≤ b ∧ Hid ((∀ y ∈ xs', 0 ≤ y ∧ y ≤ 2000000000000) ∧ startsGo r b 0 b l = (xs' ++ (startsGo r b a' hd' (l.drop j')).1, (startsGo r b a' hd' (l.drop j')).2)) := by
                intro v' W w' hle ho hbe
                refine ⟨j + 1, xs ++ [a + waitP r a hd x], a + waitP r a hd x, min b (hd + waitP r a hd x * r) - x.2, by omega, by go_num, rfl, rfl, by simpa using ho, hbs.trans hbe, by omega, by omega, by omega, by omega, ?_, ?_⟩
                · intro y hy
                  rcases List.mem_append.1 hy with hy | hy
                  · exact HG.out.1 y hy
                  · simp at hy; omega
                · rw [HG.out.2, drop_of Hx.out, startsGo]
                  simp [stepP]
              have HF := Lib.hid hfin
              have HB := Lib.hid hbig
              have HN := Lib.hid hN
              have HW := Lib.hid hW
              clear hfin hbig hN hW
              have HD : Hid (refNeed r b a hd x = x.2 - min b (hd + (max a x.1 - a) * r)) := rfl
              have hNa : a ≤ max a x.1 ∧ max a x.1 ≤ 1000000000 := by omega
              go_upto_region 20 with (fail)
              generalize max a x.1 = N at *
              obtain ⟨hNa1, hNa2⟩ := hNa
              have g1 : 0 ≤ (N - a) * r := Int.mul_nonneg (by omega) (by omega)
              have g2 : (N - a) * r ≤ 1000000000000000000 := by
                have : (N - a) * r ≤ 1000000000 * 1000000000 := Int.mul_le_mul (by omega) hr2 (by omega) (by omega)
                omega
              go_upto_region 21 with (fail)
              have hDb : x.2 - min b (hd + (N - a) * r) ≤ 1000000000 ∧ -1000000000 ≤ x.2 - min b (hd + (N - a) * r) := by omega
              generalize x.2 - min b (hd + (N - a) * r) = D at *
              obtain ⟨hD1, hD2⟩ := hDb
              have hN1 := HN.out
              rw [HD.out] at hN1
              have HN2 := Lib.hid hN1
              clear hN1 HN HD g1 g2
              have h3 : ∀ M : Int, M = a + waitP r a hd x → 0 ≤ M - a ∧ M - a ≤ 1000000000 ∧ 0 ≤ (M - a) * r ∧ (M - a) * r ≤ 1000000000000000000 ∧ x.2 ≤ hd + (M - a) * r := by
                intro M hM
                have g := HW.out
                rw [show M - a = waitP r a hd x by omega]
                exact g
              have H3 := Lib.hid h3
              clear h3
              by_cases hD : D > 0
              · have g3 : 0 ≤ (D + r - 1) / r ∧ (D + r - 1) / r ≤ 1000000000 := by
                  have hM := HN2.out.1 hD
                  have g := HW.out
                  exact ⟨Int.ediv_nonneg (by omega) (by omega), by omega⟩
                obtain ⟨g3, g4⟩ := g3
                go_upto_region 23 with (fail)
                obtain ⟨M, hM⟩ : ∃ M, N + (D + r - 1) / r = M := ⟨_, rfl⟩
                have hM2 : M = a + waitP r a hd x := by rw [← hM]; exact HN2.out.1 hD
                simp only [hM]
                clear hM g3 g4 HN2
                obtain ⟨g1, g2, g3, g4, g5⟩ := H3.out M hM2
                rw [← hM2] at HF HB
                have HM2 := Lib.hid hM2
                clear hM2 H3
                rw [show waitP r a hd x = M - a by have := HM2.out; omega] at HF
                by_cases hbig : M > 1000000000
                · go_wp2_with fail
                  go_ret2
                  refine ⟨_, rfl, hbw2.alloc (by omega) _, ?_⟩
                  rw [HS3.out, if_pos (HB.out hbig)]
                  exact PInts.none_
                · go_wp2_with (at_builtin; go_loud (refine wpList_append1 el_int rfl _ _ rfl rfl (hown.alloc _) rfl (by simp) rfl (by simp [Value.oneCell']) (by unfold maxLen; omega) (by omega) (by simp; omega) ?_); intro v' w' ho hbe hzz)
                  go_roundw
                  case rel => exact HF.out v' wr w' (by omega) (by simpa using ho) (((Below.refl _ _).alloc (by omega) _).trans hbe)
                  case measure => simp [intOf]; omega
              · have hM2 : N = a + waitP r a hd x := HN2.out.2 hD
                clear HN2
                obtain ⟨g1, g2, g3, g4, g5⟩ := H3.out N hM2
                rw [← hM2] at HF HB
                have HM2 := Lib.hid hM2
                clear hM2 H3
                rw [show waitP r a hd x = N - a by have := HM2.out; omega] at HF
                go_wp2_with (at_builtin; go_loud (refine wpList_append1 el_int rfl _ _ rfl rfl (hown.alloc _) rfl (by simp) rfl (by simp [Value.oneCell']) (by unfold maxLen; omega) (by omega) (by simp; omega) ?_); intro v' w' ho hbe hzz)
                go_roundw
                case rel => exact HF.out v' wr w' (by omega) (by simpa using ho) (((Below.refl _ _).alloc (by omega) _).trans hbe)
                case measure => simp [intOf]; omega
            · obtain rfl : j = k := by omega
              have hG : (∀ y ∈ xs, 0 ≤ y ∧ y ≤ 2000000000000) ∧ startsGo r b 0 b l = (xs, a) := by
                refine ⟨HG.out.1, ?_⟩
                have hln := HL.out
                rw [HG.out.2, List.drop_of_length_le (by omega)]
                simp [startsGo]
              have HG2 := Lib.hid hG
              clear HG hG
              go_wp2_with fail
              go_ret2
              refine ⟨_, rfl, hbw2, ?_⟩
              rw [HS3.out, HG2.out.2, if_neg (by simpa using ha1)]
              obtain ⟨A', c', rfl, hres⟩ := rSl.of_ints (bts := 8) hown (Nat.le_refl _) (fun y hy => wf64_of (by have := HG2.out.1 y hy; omega) (by have := HG2.out.1 y hy; omega)) (by omega)
              have hxl := hres.len
              subst hxl
              exact ⟨A', c', rfl, hres⟩
  · have h0' : (codeQ r b != 0) = true := by simp [h0]
    have HS : Hid (starts r b l = ([], codeQ r b)) := by unfold starts; rw [if_pos h0]; rfl
    clear hR
    go_enter Try.func12, Try.ntmps12
    go_wp2_with (go_at_call 14; refine (checkQuotaR_any _ _ _).mono ?_; rintro e w1 ⟨rfl, hb1⟩)
    go_ret2
    refine ⟨_, rfl, ((Below.refl _ _).alloc (Nat.le_refl _) _).trans (hb1.mono (by simp)), ?_⟩
    rw [HS.out]
    exact PInts.none_
end Go.Proofs.Yteoojplgchlhcaa
