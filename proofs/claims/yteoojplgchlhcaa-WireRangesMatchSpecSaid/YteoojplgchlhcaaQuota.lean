/-
  The walks of wire.CheckQuota, wire.Starts.
-/
import Derived.Test.YteoojplgchlhcaaCommon
namespace Go.Proofs.Yteoojplgchlhcaa
open Go.RowKit

theorem within_any (a l h : Int) (w : World) :
    Calls Try.prog 28 #[.int .i64 a, .int .i64 l, .int .i64 h] w fun e w' => e = .returned (.bool (inR a l h)) ∧ w = w' := by
  go_enter Try.func28, Try.ntmps28
  go_wp2
  all_goals go_ret
  all_goals exact ⟨by simp [inR, *] <;> omega, rfl⟩

def codeQ (r b : Int) : Int := if inR r 1 1000000000 && inR b 1 1000000000 then 0 else 1

theorem checkQuota_any (r b : Int) (w : World) :
    Calls Try.prog 13 #[.agg #[.int .i64 r, .int .i64 b]] w fun e w' => e = .returned (.int .i64 (codeQ r b)) ∧ Below w.heap.size w w' := by
  go_enter Try.func13, Try.ntmps13
  go_wp2_with (go_at_call 28; refine (within_any _ _ _ _).mono ?_; rintro e w' ⟨rfl, rfl⟩)
  all_goals go_ret
  all_goals exact ⟨by simp_all [codeQ], (Below.refl _ _).alloc (Nat.le_refl _) _⟩

/-- The error of asks: the first that is wrong. -/
def askCode (b : Int) : Option Int → List (Int × Int) → Int
  | _, [] => 0
  | p, x :: r => if !inR x.1 0 1000000000 || !inR x.2 0 b then 1 else if p.any (fun q => decide (x.1 < q)) then 8 else askCode b (some x.1) r

def waitP (r : Int) (at_ hand : Int) (x : Int × Int) : Int :=
  if x.2 - hand > 0 then max (x.1 - at_) (max 0 ((x.2 - hand + r - 1) / r)) else max (x.1 - at_) 0
def stepP (r b : Int) (at_ hand : Int) (x : Int × Int) : Int × Int :=
  (at_ + waitP r at_ hand x, min b (hand + waitP r at_ hand x * r) - x.2)
def startsGo (r b : Int) : Int → Int → List (Int × Int) → List Int × Int
  | at_, _, [] => ([], at_)
  | at_, hand, x :: l => ((stepP r b at_ hand x).1 :: (startsGo r b (stepP r b at_ hand x).1 (stepP r b at_ hand x).2 l).1, (startsGo r b (stepP r b at_ hand x).1 (stepP r b at_ hand x).2 l).2)
def starts (r b : Int) (l : List (Int × Int)) : List Int × Int :=
  if codeQ r b ≠ 0 then ([], codeQ r b) else if l.length > 2000 then ([], 2) else if askCode b none l ≠ 0 then ([], askCode b none l)
  else if (startsGo r b 0 b l).2 > 1000000000 then ([], 1) else ((startsGo r b 0 b l).1, 0)

def rAsks : Rep (List (Int × Int)) := rSl 2 16 (rPair (rI .i64) (rI .i64))

theorem rAsks_at {w : World} {B n c k : Nat} {A : Option Addr} {l : List (Int × Int)} (h : rAsks w B l [.slice A n c]) (hk : k < n) :
    ∃ b o x, A = some ⟨b, o, none⟩ ∧ b < B ∧ l[k]? = some x ∧ w.cell? ⟨b, o + k * 2, none⟩ = some (.int .i64 x.1) ∧ w.cell? ⟨b, o + k * 2 + 1, none⟩ = some (.int .i64 x.2) := by
  obtain ⟨b, o, x, vs, hA, hb, hl, hs, ⟨c1, c2, rfl, ⟨rfl, _⟩, ⟨rfl, _⟩⟩, hc⟩ := rSl.at_ h hk
  exact ⟨b, o, x, hA, hb, hl, hc 0 _ rfl, hc 1 _ rfl⟩

theorem waitP_bd {r b a hd : Int} {x : Int × Int} (h1 : 1 ≤ r) (h2 : r ≤ 1000000000) (h3 : b ≤ 1000000000) (ha : 0 ≤ a) (hh : 0 ≤ hd) (hx : x.1 ≤ 1000000000) (hy : x.2 ≤ b) :
    0 ≤ waitP r a hd x ∧ waitP r a hd x ≤ 1000000000 ∧ 0 ≤ waitP r a hd x * r ∧ waitP r a hd x * r ≤ 1000000000000000000 ∧ x.2 ≤ hd + waitP r a hd x * r := by
  have hd1 : x.2 - hd > 0 → 0 ≤ (x.2 - hd + r - 1) / r ∧ (x.2 - hd + r - 1) / r ≤ 1000000000 ∧ x.2 - hd ≤ (x.2 - hd + r - 1) / r * r := by
    intro hp
    have e := Int.mul_ediv_add_emod (x.2 - hd + r - 1) r
    have m1 := Int.emod_lt_of_pos (x.2 - hd + r - 1) (show 0 < r by omega)
    have m0 := Int.emod_nonneg (x.2 - hd + r - 1) (show r ≠ 0 by omega)
    have q0 : 0 ≤ (x.2 - hd + r - 1) / r := Int.ediv_nonneg (by omega) (by omega)
    rw [Int.mul_comm] at e
    refine ⟨q0, ?_, by omega⟩
    refine Int.ediv_le_of_le_mul (by omega) ?_
    have : 1000000000 * 1 ≤ 1000000000 * r := Int.mul_le_mul_of_nonneg_left (by omega) (by omega)
    have : 1000000000 * r = 999999999 * r + r := by omega
    have : 999999999 * 1 ≤ 999999999 * r := Int.mul_le_mul_of_nonneg_left (by omega) (by omega)
    omega
  have w0 : 0 ≤ waitP r a hd x ∧ waitP r a hd x ≤ 1000000000 := by
    unfold waitP
    split
    · have := hd1 (by assumption); omega
    · omega
  have g : waitP r a hd x * r ≤ 1000000000 * 1000000000 := Int.mul_le_mul w0.2 h2 (by omega) (by omega)
  refine ⟨w0.1, w0.2, Int.mul_nonneg w0.1 (by omega), by omega, ?_⟩
  by_cases hp : x.2 - hd > 0
  · have h := hd1 hp
    have hle : (x.2 - hd + r - 1) / r ≤ waitP r a hd x := by unfold waitP; rw [if_pos hp]; omega
    have := Int.mul_le_mul_of_nonneg_right hle (show 0 ≤ r by omega)
    omega
  · have := Int.mul_nonneg w0.1 (show 0 ≤ r by omega)
    omega

theorem askCode_bad {b : Int} {p : Option Int} {l : List (Int × Int)} {k : Nat} {x : Int × Int} (h : l[k]? = some x) (h1 : inR x.1 0 1000000000 = false ∨ inR x.2 0 b = false) : askCode b p (l.drop k) = 1 := by
  rw [drop_of h, askCode, if_pos]
  rcases h1 with h1 | h1 <;> simp [h1]
theorem askCode_order {b : Int} {p : Option Int} {l : List (Int × Int)} {k : Nat} {x : Int × Int} (h : l[k]? = some x) (h1 : inR x.1 0 1000000000 = true) (h2 : inR x.2 0 b = true) (h3 : p.any (fun q => decide (x.1 < q)) = true) : askCode b p (l.drop k) = 8 := by
  rw [drop_of h, askCode, if_neg (by simp [h1, h2]), if_pos h3]
theorem askCode_next {b : Int} {p : Option Int} {l : List (Int × Int)} {k : Nat} {x : Int × Int} (h : l[k]? = some x) (h1 : inR x.1 0 1000000000 = true) (h2 : inR x.2 0 b = true) (h3 : p.any (fun q => decide (x.1 < q)) = false) : askCode b p (l.drop k) = askCode b (some x.1) (l.drop (k + 1)) := by
  rw [drop_of h, askCode, if_neg (by simp [h1, h2]), if_neg (by simp [h3])]

theorem askCode_ok {b : Int} {l : List (Int × Int)} : ∀ {p : Option Int}, askCode b p l = 0 → ∀ x ∈ l, inR x.1 0 1000000000 = true ∧ inR x.2 0 b = true := by
  induction l with
  | nil => intro p _ x hx; cases hx
  | cons y r ih =>
    intro p h x hx
    rw [askCode] at h
    split at h
    · omega
    · split at h
      · omega
      · rename_i h1 h2
        simp only [Bool.or_eq_true, Bool.not_eq_true', not_or, Bool.not_eq_false] at h1
        rcases List.mem_cons.1 hx with rfl | hx
        · exact h1
        · exact ih h x hx

theorem el_int : ElemOk Try.prog 25 3 1 8 := .mk' (z := .int .i64 0) Try.underlying25 (by kernel_rfl) rfl (by decide)

set_option maxHeartbeats 1000000 in
set_option maxRecDepth 100000 in
theorem starts_any (r b : Int) (A : Option Addr) (n c : Nat) (l : List (Int × Int)) (w : World) (hR : rAsks w w.heap.size l [.slice A n c]) :
    Calls Try.prog 9 #[.agg #[.int .i64 r, .int .i64 b], .slice A n c] w (Ret (PInts (starts r b l).1 (starts r b l).2) w) := by
  have hln := hR.len
  obtain ⟨hnc, hcm, _⟩ := hR.le
  by_cases h0 : codeQ r b = 0
  · have h0' : (codeQ r b != 0) = false := by simp [h0]
    have HS : Hid ((starts r b l) = if l.length > 2000 then ([], 2) else if askCode b none l ≠ 0 then ([], askCode b none l)
      else if (startsGo r b 0 b l).2 > 1000000000 then ([], 1) else ((startsGo r b 0 b l).1, 0)) := by unfold starts; rw [if_neg (by simp [h0])]; rfl
    have HR := Lib.hid hR
    have HL := Lib.hid hln
    have hrb : 1 ≤ r ∧ r ≤ 1000000000 ∧ 1 ≤ b ∧ b ≤ 1000000000 := by
      by_cases h : inR r 1 1000000000 && inR b 1 1000000000
      · simp [inR] at h; omega
      · simp [codeQ, h] at h0
    clear hR hln h0
    by_cases hn : n > 2000
    · have hn' : decide ((n : Int) > 2000) = true := by simp; omega
      go_enter Try.func9, Try.ntmps9
      go_wp2_with (go_at_call 13; refine (checkQuota_any _ _ _).mono ?_; rintro e w1 ⟨rfl, hb1⟩)
      go_ret2
      refine ⟨_, rfl, ((Below.refl _ _).alloc (Nat.le_refl _) _).trans (hb1.mono (by simp)), ?_⟩
      rw [HS.out, if_pos (by rw [HL.out]; exact hn)]
      exact PInts.none_
    · have hn' : decide ((n : Int) > 2000) = false := by simp; omega
      have HS2 : Hid ((starts r b l) = if askCode b none l ≠ 0 then ([], askCode b none l)
        else if (startsGo r b 0 b l).2 > 1000000000 then ([], 1) else ((startsGo r b 0 b l).1, 0)) := by rw [HS.out, if_neg (by rw [HL.out]; exact hn)]; rfl
      clear HS
      go_enter Try.func9, Try.ntmps9
      go_wp2_with (go_at_call 13; refine (checkQuota_any _ _ _).mono ?_; rintro e w1 ⟨rfl, hb1⟩)
      have hb : Below w.heap.size w w1 := ((Below.refl _ _).alloc (Nat.le_refl _) _).trans (hb1.mono (by simp))
      have hq0 : w1.cell? ⟨w.heap.size, 0, none⟩ = some (.int .i64 r) ∧ w1.cell? ⟨w.heap.size, 1, none⟩ = some (.int .i64 b) := by
        rw [(bcell hb1).1 _ _ (by simp), (bcell hb1).1 _ _ (by simp)]; simp [go_sem]
      have hs1 : w.heap.size + 1 ≤ w1.heap.size := by have := hb1.size; simp at this; omega
      clear hb1
      go_loopw [26] (fun i wr => ∃ k : Nat, k ≤ n ∧ i = .int .i64 k ∧ Below (w.heap.size + 1) w1 wr ∧ Hid (∃ p, askCode b none l = askCode b p (l.drop k) ∧ (k = 0 → p = none) ∧ (0 < k → ∃ y, l[k-1]? = some y ∧ p = some y.1))) (fun i _ => n - (intOf i).toNat)
      case atStart => exact ⟨0, by omega, rfl, Below.refl _ _, ⟨none, rfl, fun _ => rfl, fun h => absurd h (by omega)⟩⟩
      case round =>
        obtain ⟨k, hk, rfl, hbr, HP⟩ := hrel
        have hq1 : wr.cell? ⟨w.heap.size, 0, none⟩ = some (.int .i64 r) := by rw [(bcell hbr).1 _ _ (by omega)]; exact hq0.1
        have hq2 : wr.cell? ⟨w.heap.size, 1, none⟩ = some (.int .i64 b) := by rw [(bcell hbr).1 _ _ (by omega)]; exact hq0.2
        have hzr : w.heap.size < wr.heap.size := by have := hbr.size; omega
        have hbw : Below w.heap.size w wr := hb.trans (hbr.mono (by omega))
        by_cases hlt : k < n
        · obtain ⟨bk, o, x, rfl, hbk, hx, hx1, hx2⟩ := rAsks_at (rSl.keep HR.out hbw (Nat.le_refl _)) hlt
          have Hx := Lib.hid hx
          clear hx
          have hbz : bk < wr.heap.size := by omega
          cases h1 : inR x.1 0 1000000000
          · go_wp2_with (go_at_call 28; refine (within_any _ _ _ _).mono ?_; rintro e w' ⟨rfl, rfl⟩)
            go_ret2
            refine ⟨_, rfl, hbw.alloc (by omega) _, ?_⟩
            obtain ⟨p, hp, _⟩ := HP.out
            rw [HS2.out, hp, askCode_bad Hx.out (Or.inl h1)]
            exact PInts.none_
          cases h2 : inR x.2 0 b
          · go_wp2_with (go_at_call 28; refine (within_any _ _ _ _).mono ?_; rintro e w' ⟨rfl, rfl⟩)
            go_ret2
            refine ⟨_, rfl, hbw.alloc (by omega) _, ?_⟩
            obtain ⟨p, hp, _⟩ := HP.out
            rw [HS2.out, hp, askCode_bad Hx.out (Or.inr h2)]
            exact PInts.none_
          by_cases hk0 : 0 < k
          · obtain ⟨bk', o', y, hA, _, hy, hy1, hy2⟩ := rAsks_at (rSl.keep HR.out hbw (Nat.le_refl _)) (show k - 1 < n by omega)
            simp only [Option.some.injEq, Addr.mk.injEq, and_true] at hA
            obtain ⟨rfl, rfl⟩ := hA
            have Hy := Lib.hid hy
            clear hy
            have e1 : IntKind.i64.wrap ((k : Int) - 1) = (k : Int) - 1 := IntWalk.i64_in _ (by omega)
            have e2 : ((k : Int) - 1).toNat = k - 1 := by omega
            have e3 : (0 : Int) ≤ (k : Int) - 1 := by omega
            have e4 : (1 : Int) ≤ (k : Int) := by omega
            have e5 : (k : Int) - 1 < n := by omega
            have e6 : decide (0 < k) = true := by simpa using hk0
            have e7 : 1 ≤ k := hk0
            go_wp2_with (go_at_call 28; refine (within_any _ _ _ _).mono ?_; rintro e w' ⟨rfl, rfl⟩)
            go_quiet (fail)
            clear e1 e2 e3 e4 e5 e6 e7
            go_wp2_with fail
            · go_ret2
              refine ⟨_, rfl, drewN_below (hbw.alloc (by omega) _) _, ?_⟩
              obtain ⟨p, hp, _, hp2⟩ := HP.out
              obtain ⟨y', hy', rfl⟩ := hp2 hk0
              have hlt3 : x.1 < y.1 := by assumption
              rw [Hy.out] at hy'
              cases hy'
              rw [HS2.out, hp, askCode_order Hx.out h1 h2 (by simpa using hlt3)]
              exact PInts.none_
            · have hlt3 : y.1 ≤ x.1 := by assumption
              go_roundw
              case rel =>
                obtain ⟨p, hp, _, hp2⟩ := HP.out
                obtain ⟨y', hy', rfl⟩ := hp2 hk0
                rw [Hy.out] at hy'
                cases hy'
                exact ⟨k + 1, by omega, by go_num, drewN_below (hbr.alloc (by omega) _) _, ⟨some x.1, by rw [hp, askCode_next Hx.out h1 h2 (by simpa using hlt3)], by omega, fun _ => ⟨x, Hx.out, rfl⟩⟩⟩
              case measure => simp [intOf]; omega
          · have e6 : decide (0 < k) = false := by simpa using hk0
            go_wp2_with (go_at_call 28; refine (within_any _ _ _ _).mono ?_; rintro e w' ⟨rfl, rfl⟩)
            go_quiet (fail)
            go_wp2_with fail
            go_roundw
            case rel =>
              obtain ⟨p, hp, hp1, _⟩ := HP.out
              obtain rfl := hp1 (by omega)
              exact ⟨k + 1, by omega, by go_num, drewN_below (hbr.alloc (by omega) _) _, ⟨some x.1, by rw [hp, askCode_next Hx.out h1 h2 rfl], by omega, fun _ => ⟨x, Hx.out, rfl⟩⟩⟩
            case measure => simp [intOf]; omega
        · obtain rfl : k = n := by omega
          have HA : Hid (askCode b none l = 0) := by
            obtain ⟨p, hp, _⟩ := HP.out
            have hln := HL.out
            rw [List.drop_of_length_le (by omega)] at hp
            exact hp
          clear hq0 HP hlt
          have HS3 : Hid ((starts r b l) = if (startsGo r b 0 b l).2 > 1000000000 then ([], 1) else ((startsGo r b 0 b l).1, 0)) := by rw [HS2.out, if_neg (by rw [HA.out]; simp)]; rfl
          clear HS2
          go_wp2_with fail
          go_quiet (fail)
          go_wp2_with fail
          obtain ⟨wo, rfl⟩ : ∃ wo : World, wo = wr := ⟨_, rfl⟩
          go_loopw [9, 10, 11, 61] (fun v at_ hv i wr => ∃ (j : Nat) (xs : List Int) (a hd : Int), j ≤ k ∧ i = .int .i64 j ∧ at_ = .int .i64 a ∧ hv = .int .i64 hd ∧ wr.ownsRow (w.heap.size + 1) 3 1 v j (xs.map (Value.int .i64)) ∧ Below (w.heap.size + 1) w1 wr ∧
              0 ≤ a ∧ a ≤ j * 1000000000 ∧ 0 ≤ hd ∧ hd ≤ b ∧
              Hid ((∀ y ∈ xs, 0 ≤ y ∧ y ≤ 2000000000000) ∧ startsGo r b 0 b l = (xs ++ (startsGo r b a hd (l.drop j)).1, (startsGo r b a hd (l.drop j)).2))) (fun _ _ _ i _ => k - (intOf i).toNat)
          case atStart => exact ⟨0, [], 0, b, by omega, rfl, rfl, rfl, World.ownsRow_nil _ _ _ _, drewN_below hbr _, by omega, by omega, by omega, by omega, ⟨fun _ h => (by cases h), rfl⟩⟩
          case round =>
            obtain ⟨j, xs, a, hd, hj, rfl, rfl, rfl, hown, hbs, ha0, ha1, hh0, hh1, HG⟩ := hrel
            have hbw2 : Below w.heap.size w wr := hb.trans (hbs.mono (by omega))
            have hp1 : wr.cell? ⟨w.heap.size, 0, none⟩ = some (.int .i64 r) := by rw [(bcell hbs).1 _ _ (by omega), ← (bcell hbr).1 _ _ (by omega)]; exact hq1
            have hp2 : wr.cell? ⟨w.heap.size, 1, none⟩ = some (.int .i64 b) := by rw [(bcell hbs).1 _ _ (by omega), ← (bcell hbr).1 _ _ (by omega)]; exact hq2
            have hzs : w.heap.size < wr.heap.size := by have := hbs.size; omega
            clear hq1 hq2
            by_cases hlt2 : j < k
            · obtain ⟨bk, o, x, rfl, hbk, hx, hx1, hx2⟩ := rAsks_at (rSl.keep HR.out hbw2 (Nat.le_refl _)) hlt2
              have Hx := Lib.hid hx
              have hyy := askCode_ok HA.out x (List.mem_of_getElem? hx)
              clear hx
              have hbz : bk < wr.heap.size := by omega
              have hy : 0 ≤ x.1 ∧ x.1 ≤ 1000000000 ∧ 0 ≤ x.2 ∧ x.2 ≤ b := by simp [inR] at hyy; omega
              clear hyy
              obtain ⟨hy1, hy2, hy3, hy4⟩ := hy
              obtain ⟨hr1, hr2, hr3, hr4⟩ := hrb
              have hmx := @run_max_int Try.prog
              have hmn := @run_min_int Try.prog
              have hW := waitP_bd (r := r) (b := b) (a := a) (hd := hd) (x := x) hr1 hr2 hr4 ha0 hh0 hy2 hy4
              have hfin : ∀ (v' : Value) (W w' : World), w'.ownsRow (w.heap.size + 1) 3 1 v' (j + 1) (xs.map (Value.int .i64) ++ [.int .i64 (a + waitP r a hd x)]) → Below (w.heap.size + 1) wr w' →
                  ∃ (j' : Nat) (xs' : List Int) (a' hd' : Int), j' ≤ k ∧ Value.int .i64 ((j : Int) + 1) = .int .i64 j' ∧ Value.int .i64 (a + waitP r a hd x) = .int .i64 a' ∧ Value.int .i64 (min b (hd + waitP r a hd x * r) - x.2) = .int .i64 hd' ∧ w'.ownsRow (w.heap.size + 1) 3 1 v' j' (xs'.map (Value.int .i64)) ∧ Below (w.heap.size + 1) w1 w' ∧
                    0 ≤ a' ∧ a' ≤ j' * 1000000000 ∧ 0 ≤ hd' ∧ hd' ≤ b ∧ Hid ((∀ y ∈ xs', 0 ≤ y ∧ y ≤ 2000000000000) ∧ startsGo r b 0 b l = (xs' ++ (startsGo r b a' hd' (l.drop j')).1, (startsGo r b a' hd' (l.drop j')).2)) := by
                intro v' W w' ho hbe
                refine ⟨j + 1, xs ++ [a + waitP r a hd x], a + waitP r a hd x, min b (hd + waitP r a hd x * r) - x.2, by omega, by go_num, rfl, rfl, by simpa using ho, hbs.trans hbe, by omega, by push_cast; omega, by omega, by omega, ?_, ?_⟩
                · intro y hy
                  rcases List.mem_append.1 hy with hy | hy
                  · exact HG.out.1 y hy
                  · simp at hy; omega
                · rw [HG.out.2, drop_of Hx.out, startsGo]
                  simp [stepP]
              have HF := Lib.hid hfin
              have HW := Lib.hid hW
              clear hfin hW
              by_cases hlk : x.2 - hd > 0
              · have ew : waitP r a hd x = max (x.1 - a) (max 0 ((x.2 - hd + r - 1) / r)) := if_pos hlk
                have g := HW.out
                rw [ew] at g HF
                obtain ⟨g1, g2, g3, g4, g5⟩ := g
                clear ew HW
                go_wp2_with (at_builtin; go_loud (refine wpList_append1 el_int rfl _ _ rfl rfl (hown.alloc _) rfl (by simp) rfl (by simp [Value.oneCell']) (by unfold maxLen; omega) (by omega) (by simp; omega) ?_); intro v' w' ho hbe hzz)
                go_roundw
                case rel => exact HF.out v' wr w' (by simpa using ho) (((Below.refl _ _).alloc (by omega) _).trans hbe)
                case measure => simp [intOf]; omega
              · have ew : waitP r a hd x = max (x.1 - a) 0 := if_neg hlk
                have g := HW.out
                rw [ew] at g HF
                obtain ⟨g1, g2, g3, g4, g5⟩ := g
                clear ew HW
                go_wp2_with (at_builtin; go_loud (refine wpList_append1 el_int rfl _ _ rfl rfl (hown.alloc _) rfl (by simp) rfl (by simp [Value.oneCell']) (by unfold maxLen; omega) (by omega) (by simp; omega) ?_); intro v' w' ho hbe hzz)
                go_roundw
                case rel => exact HF.out v' wr w' (by simpa using ho) (((Below.refl _ _).alloc (by omega) _).trans hbe)
                case measure => simp [intOf]; omega
            · obtain rfl : j = k := by omega
              have hG : (∀ y ∈ xs, 0 ≤ y ∧ y ≤ 2000000000000) ∧ startsGo r b 0 b l = (xs, a) := by
                refine ⟨HG.out.1, ?_⟩
                have hln := HL.out
                rw [HG.out.2, List.drop_of_length_le (by omega)]
                simp [startsGo]
              have HG2 := Lib.hid hG
              clear HG hG
              by_cases hat : a > 1000000000
              · go_wp2_with fail
                go_ret2
                refine ⟨_, rfl, hbw2, ?_⟩
                rw [HS3.out, HG2.out.2, if_pos hat]
                exact PInts.none_
              · go_wp2_with fail
                go_ret2
                refine ⟨_, rfl, hbw2, ?_⟩
                rw [HS3.out, HG2.out.2, if_neg (by simpa using hat)]
                obtain ⟨A', c', rfl, hres⟩ := rSl.of_ints (bts := 8) hown (Nat.le_refl _) (fun y hy => wf64_of (by have := HG2.out.1 y hy; omega) (by have := HG2.out.1 y hy; omega)) (by omega)
                have hxl := hres.len
                subst hxl
                exact ⟨A', c', rfl, hres⟩
  · have h0' : (codeQ r b != 0) = true := by simp [h0]
    have HS : Hid (starts r b l = ([], codeQ r b)) := by unfold starts; rw [if_pos h0]; rfl
    clear hR
    go_enter Try.func9, Try.ntmps9
    go_wp2_with (go_at_call 13; refine (checkQuota_any _ _ _).mono ?_; rintro e w1 ⟨rfl, hb1⟩)
    go_ret2
    refine ⟨_, rfl, ((Below.refl _ _).alloc (Nat.le_refl _) _).trans (hb1.mono (by simp)), ?_⟩
    rw [HS.out]
    exact PInts.none_
end Go.Proofs.Yteoojplgchlhcaa
