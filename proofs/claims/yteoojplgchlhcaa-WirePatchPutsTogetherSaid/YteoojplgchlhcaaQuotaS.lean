/-
  The walks of Sent (both), slices.Equal at ints, awake.
-/
import Derived.Test.YteoojplgchlhcaaQuotaR
namespace Go.Proofs.Yteoojplgchlhcaa
open Go.RowKit
set_option linter.unusedVariables false
set_option linter.unusedSimpArgs false

/-- What a call hands back that only draws. -/
def Qt (v : Value) (w : World) (e : Ending) (w' : World) : Prop := e = .returned v ∧ ∃ n, w' = w.drewN n

def rInts : Rep (List Int) := rSl 1 8 (rI .i64)
theorem rInts_at {w : World} {B n c k : Nat} {A : Option Addr} {l : List Int} (h : rInts w B l [.slice A n c]) (hk : k < n) :
    ∃ b o x, A = some ⟨b, o, none⟩ ∧ b < B ∧ l[k]? = some x ∧ w.cell? ⟨b, o + k, none⟩ = some (.int .i64 x) ∧ -9223372036854775808 ≤ x ∧ x ≤ 9223372036854775807 := by
  obtain ⟨b, o, x, vs, hA, hb, hl, hs, ⟨rfl, hw⟩, hc⟩ := rSl.at_ h hk
  have h1 := hc 0 _ rfl
  rw [Nat.mul_one, Nat.add_zero] at h1
  exact ⟨b, o, x, hA, hb, hl, h1, wf64 hw⟩

theorem eq_of_prefix {α : Type} {l1 l2 : List α} (hl : l1.length = l2.length) (h : ∀ i, i < l1.length → l1[i]? = l2[i]?) : l1 = l2 := by
  apply List.ext_getElem?
  intro i
  by_cases hi : i < l1.length
  · exact h i hi
  · rw [List.getElem?_eq_none (by omega), List.getElem?_eq_none (by omega)]

theorem equalInts_any (A1 A2 : Option Addr) (n1 c1 n2 c2 B : Nat) (l1 l2 : List Int) (w : World) (h1 : rInts w B l1 [.slice A1 n1 c1]) (h2 : rInts w B l2 [.slice A2 n2 c2]) :
    Calls Try.prog 15 #[.slice A1 n1 c1, .slice A2 n2 c2] w (Qt (.bool (decide (l1 = l2))) w) := by
  have hl1 := h1.len
  have hl2 := h2.len
  have hm1 := h1.le.2.1
  have hm1' := h1.le.1
  have H1 := Lib.hid h1
  have H2 := Lib.hid h2
  have L1 := Lib.hid hl1
  have L2 := Lib.hid hl2
  clear h1 h2 hl1 hl2
  by_cases hn : n1 = n2
  · subst hn
    have hne : ((n1 : Int) != (n1 : Int)) = false := bne_self_eq_false _
    go_enter Try.func15, Try.ntmps15
    go_wp2_with fail
    go_loopw [13] (fun i wr => ∃ k : Nat, k ≤ n1 ∧ i = .int .i64 k ∧ Hid (∃ n, wr = w.drewN n) ∧ Hid (∀ j, j < k → l1[j]? = l2[j]?)) (fun i _ => n1 - (intOf i).toNat)
    case atStart => exact ⟨0, by omega, rfl, ⟨0, rfl⟩, fun j hj => absurd hj (by omega)⟩
    case round =>
      obtain ⟨k, hk, rfl, HW, HE⟩ := hrel
      by_cases hlt : k < n1
      · obtain ⟨b1, o1, x1, rfl, hb1, hx1, hc1, _⟩ := rInts_at H1.out hlt
        obtain ⟨b2, o2, x2, rfl, hb2, hx2, hc2, _⟩ := rInts_at H2.out hlt
        obtain ⟨nd, hnd⟩ := HW.out
        have hc1' : wr.cell? ⟨b1, o1 + k, none⟩ = some (.int .i64 x1) := by rw [hnd]; exact hc1
        have hc2' : wr.cell? ⟨b2, o2 + k, none⟩ = some (.int .i64 x2) := by rw [hnd]; exact hc2
        have X1 := Lib.hid hx1
        have X2 := Lib.hid hx2
        have e2 : ((k : Int)).toNat = k := by omega
        have e3 : (0 : Int) ≤ (k : Int) := by omega
        have e5 : (k : Int) < n1 := by omega
        have HN := Lib.hid hnd
        clear hx1 hx2 hc1 hc2 hnd HW
        by_cases hx : x1 = x2
        · subst hx
          go_wp2_with fail
          go_quiet (fail)
          clear e2 e3 e5
          go_wp2_with fail
          go_roundw
          case rel =>
            refine ⟨k + 1, by omega, by go_num, ⟨nd + nq, by rw [HN.out, World.drewN_drewN]⟩, fun j hj => ?_⟩
            by_cases hj2 : j = k
            · subst hj2; rw [X1.out, X2.out]
            · exact HE.out j (by omega)
          case measure => simp [intOf]; omega
        · have hxe : (x1 != x2) = true := by simpa using hx
          have hxe2 : (x1 == x2) = false := by simpa using hx
          go_wp2_with fail
          go_quiet (fail)
          clear e2 e3 e5
          go_wp2_with fail
          go_ret
          refine ⟨?_, ⟨nd + nq, by rw [HN.out, World.drewN_drewN]⟩⟩
          have : l1 ≠ l2 := by
            rintro rfl
            have a := X1.out
            rw [X2.out] at a
            exact hx (Option.some.inj a).symm
          simp [this]
      · obtain rfl : k = n1 := by omega
        go_wp2_with fail
        go_ret
        obtain ⟨nd, hnd⟩ := HW.out
        refine ⟨?_, nd, hnd⟩
        have e : l1 = l2 := eq_of_prefix (by rw [L1.out, L2.out]) (fun i hi => HE.out i (by rw [L1.out] at hi; exact hi))
        simp [e]
  · have hne : ((n1 : Int) != (n2 : Int)) = true := by simp; omega
    go_enter Try.func15, Try.ntmps15
    go_wp2_with fail
    go_ret
    refine ⟨?_, 0, rfl⟩
    have : l1 ≠ l2 := by
      rintro rfl
      have a := L1.out
      rw [L2.out] at a
      exact hn a.symm
    simp [this]

/-! ### Sent -/
def sentSum (f t : Int) : List (Int × (Int × Int)) → Int
  | [] => 0
  | x :: r => (if f ≤ x.1 ∧ x.1 < t then x.2.2 else 0) + sentSum f t r
def sent (r b : Int) (l : List (Int × Int)) (f t : Int) : Int × Int :=
  if (starts r b l).2 ≠ 0 then (0, (starts r b l).2) else if !(inR f 0 1000000001) || !(inR t 0 1000000001) then (0, 1) else (sentSum f t ((starts r b l).1.zip l), 0)

theorem startsGo_len (r b : Int) : ∀ (l : List (Int × Int)) (a hd : Int), (startsGo r b a hd l).1.length = l.length := by
  intro l
  induction l with
  | nil => intro a hd; rfl
  | cons x l ih => intro a hd; simp [startsGo, ih]
theorem starts_ok {r b : Int} {l : List (Int × Int)} (h : (starts r b l).2 = 0) :
    (starts r b l).1 = (startsGo r b 0 b l).1 ∧ (starts r b l).1.length = l.length ∧ l.length ≤ 2000 ∧ codeQ r b = 0 ∧ askCode b none l = 0 ∧ (startsGo r b 0 b l).2 ≤ 1000000000 := by
  unfold starts at h ⊢
  split at h
  · contradiction
  · split at h
    · simp at h
    · split at h
      · contradiction
      · split at h
        · simp at h
        · rename_i h1 h2 h3 h4
          rw [if_neg h1, if_neg h2, if_neg h3, if_neg h4]
          simp only [Decidable.not_not] at h1 h3
          exact ⟨rfl, startsGo_len _ _ _ _ _, by omega, h1, h3, by omega⟩
theorem codeQ_zero {r b : Int} (h0 : codeQ r b = 0) : 1 ≤ r ∧ r ≤ 1000000000 ∧ 1 ≤ b ∧ b ≤ 1000000000 := by
  by_cases h : inR r 1 1000000000 && inR b 1 1000000000
  · simp [inR] at h; omega
  · simp [codeQ, h] at h0

def SentPost (p : Int × Int) (w : World) (e : Ending) (w' : World) : Prop := e = .returned (.tuple #[.int .i64 p.1, .int .i64 p.2]) ∧ Below w.heap.size w w'

set_option maxHeartbeats 1000000 in
theorem sent_any (r b f t : Int) (A : Option Addr) (n c : Nat) (l : List (Int × Int)) (w : World) (hR : rAsks w w.heap.size l [.slice A n c]) :
    Calls Try.prog 11 #[.agg #[.int .i64 r, .int .i64 b], .slice A n c, .int .i64 f, .int .i64 t] w (SentPost (sent r b l f t) w) := by
  have HR := Lib.hid hR
  have hln := hR.len
  have hcm := hR.le
  have HL := Lib.hid hln
  clear hR hln
  obtain ⟨hcm1, hcm2, _⟩ := hcm
  go_enter Try.func11, Try.ntmps11
  go_wp2_with fail
  have hb0 : Below w.heap.size w (w.alloc (.cells #[.int .i64 r, .int .i64 b] 23)) := (Below.refl _ _).alloc (Nat.le_refl _) _
  refine (starts_any r b A n c l _ (rSl.keep HR.out hb0 (by simp))).mono ?_
  rintro e w1 ⟨v, rfl, hb1, A1, c1, rfl, hx⟩
  have hb : Below w.heap.size w w1 := hb0.trans (hb1.mono (by simp))
  have HX := Lib.hid hx
  clear hb0 hb1 hx
  by_cases hc0 : (starts r b l).2 = 0
  · have hq := starts_ok hc0
    have hm : (starts r b l).1.length = n := by rw [hq.2.1]; exact HL.out
    have hn2 : n ≤ 2000 := by rw [← HL.out]; exact hq.2.2.1
    have HQ := Lib.hid hq
    have hc0' : ((starts r b l).2 != 0) = false := by simp [hc0]
    have HS : Hid (sent r b l f t = if !(inR f 0 1000000001) || !(inR t 0 1000000001) then (0, 1) else (sentSum f t ((starts r b l).1.zip l), 0)) := by unfold sent; rw [if_neg (by simp [hc0])]; rfl
    have HC := Lib.hid hc0
    clear hc0 hq
    generalize (starts r b l).1.length = m at *
    subst hm
    cases h1 : inR f 0 1000000001
    · go_wp2_with (go_at_call 28; refine (within_any _ _ _ _).mono ?_; rintro e w' ⟨rfl, rfl⟩)
      go_ret2
      exact ⟨by rw [HS.out]; simp [h1], hb⟩
    cases h2 : inR t 0 1000000001
    · go_wp2_with (go_at_call 28; refine (within_any _ _ _ _).mono ?_; rintro e w' ⟨rfl, rfl⟩)
      go_ret2
      exact ⟨by rw [HS.out]; simp [h1, h2], hb⟩
    go_wp2_with (go_at_call 28; refine (within_any _ _ _ _).mono ?_; rintro e w' ⟨rfl, rfl⟩)
    have HS2 : Hid (sent r b l f t = (sentSum f t ((starts r b l).1.zip l), 0)) := by rw [HS.out, if_neg (by simp [h1, h2])]; rfl
    clear HS
    go_loop [12, 34] (fun s i => ∃ (k : Nat) (x : Int), k ≤ m ∧ i = .int .i64 k ∧ s = .int .i64 x ∧ 0 ≤ x ∧ x ≤ k * 1000000000 ∧ Hid (sentSum f t ((starts r b l).1.zip l) = x + sentSum f t (((starts r b l).1.zip l).drop k))) (fun _ i => m - (intOf i).toNat)
    case atStart => exact ⟨0, 0, by omega, rfl, rfl, by omega, by omega, by first | exact True.intro | (show _ = _; simp)⟩
    case round =>
      obtain ⟨k, x, hk, rfl, rfl, hx0, hx1, HG⟩ := hrel
      by_cases hlt : k < m
      · obtain ⟨bk, o, y, rfl, hbk, hy, hy1, hy2⟩ := rAsks_at (rSl.keep HR.out hb (Nat.le_refl _)) hlt
        obtain ⟨bk', o', z, rfl, hbk', hz, hz1, hz2, hz3⟩ := rInts_at HX.out hlt
        have hya := askCode_ok HQ.out.2.2.2.2.1 y (List.mem_of_getElem? hy)
        have hyb : 0 ≤ y.2 ∧ y.2 ≤ 1000000000 := by
          have := codeQ_zero HQ.out.2.2.2.1
          simp [inR] at hya; omega
        have hzip : ((starts r b l).1.zip l)[k]? = some (z, y) := by rw [List.getElem?_zip_eq_some]; exact ⟨hz, hy⟩
        have hstep : sentSum f t (((starts r b l).1.zip l).drop k) = (if f ≤ z ∧ z < t then y.2 else 0) + sentSum f t (((starts r b l).1.zip l).drop (k + 1)) := by rw [drop_of hzip]; rfl
        have HT := Lib.hid hstep
        clear hya hy hz hzip hstep
        obtain ⟨hyb1, hyb2⟩ := hyb
        by_cases ht1 : f ≤ z
        · by_cases ht2 : z < t
          · go_wp2_with fail
            go_round
            case rel => exact ⟨k + 1, x + y.2, by omega, by go_num, rfl, by omega, by push_cast; omega, by rw [HG.out, HT.out, if_pos ⟨ht1, ht2⟩]; show _ = _; omega⟩
            case measure => simp [intOf]; omega
          · go_wp2_with fail
            go_round
            case rel => exact ⟨k + 1, x, by omega, by go_num, rfl, by omega, by push_cast; omega, by rw [HG.out, HT.out, if_neg (fun h => ht2 h.2)]; show _ = _; omega⟩
            case measure => simp [intOf]; omega
        · go_wp2_with fail
          go_round
          case rel => exact ⟨k + 1, x, by omega, by go_num, rfl, by omega, by push_cast; omega, by rw [HG.out, HT.out, if_neg (fun h => ht1 h.1)]; show _ = _; omega⟩
          case measure => simp [intOf]; omega
      · obtain rfl : k = m := by omega
        go_wp2_with fail
        go_ret2
        refine ⟨?_, hb⟩
        have hlen : ((starts r b l).1.zip l).length ≤ k := by rw [List.length_zip, HL.out]; omega
        rw [HS2.out, HG.out, List.drop_of_length_le hlen]
        simp [sentSum]
  · have hc0' : ((starts r b l).2 != 0) = true := by simpa using hc0
    have HS : Hid (sent r b l f t = (0, (starts r b l).2)) := by unfold sent; rw [if_pos hc0]; rfl
    clear hc0
    go_wp2_with fail
    go_ret2
    exact ⟨by rw [HS.out]; rfl, hb⟩

set_option maxHeartbeats 1000000 in
theorem sentR_any (r b f t : Int) (A : Option Addr) (n c : Nat) (l : List (Int × Int)) (w : World) (hR : rAsks w w.heap.size l [.slice A n c]) :
    Calls Try.prog 16 #[.agg #[.int .i64 r, .int .i64 b], .slice A n c, .int .i64 f, .int .i64 t] w (SentPost (sent r b l f t) w) := by
  have HR := Lib.hid hR
  have hln := hR.len
  have hcm := hR.le
  have HL := Lib.hid hln
  clear hR hln
  obtain ⟨hcm1, hcm2, _⟩ := hcm
  go_enter Try.func16, Try.ntmps16
  go_wp2_with fail
  have hb0 : Below w.heap.size w (w.alloc (.cells #[.int .i64 r, .int .i64 b] 23)) := (Below.refl _ _).alloc (Nat.le_refl _) _
  refine (startsR_any r b A n c l _ (rSl.keep HR.out hb0 (by simp))).mono ?_
  rintro e w1 ⟨v, rfl, hb1, A1, c1, rfl, hx⟩
  have hb : Below w.heap.size w w1 := hb0.trans (hb1.mono (by simp))
  have HX := Lib.hid hx
  clear hb0 hb1 hx
  by_cases hc0 : (starts r b l).2 = 0
  · have hq := starts_ok hc0
    have hm : (starts r b l).1.length = n := by rw [hq.2.1]; exact HL.out
    have hn2 : n ≤ 2000 := by rw [← HL.out]; exact hq.2.2.1
    have HQ := Lib.hid hq
    have hc0' : ((starts r b l).2 != 0) = false := by simp [hc0]
    have HS : Hid (sent r b l f t = if !(inR f 0 1000000001) || !(inR t 0 1000000001) then (0, 1) else (sentSum f t ((starts r b l).1.zip l), 0)) := by unfold sent; rw [if_neg (by simp [hc0])]; rfl
    have HC := Lib.hid hc0
    clear hc0 hq
    generalize (starts r b l).1.length = m at *
    subst hm
    cases h1 : inR f 0 1000000001
    · go_wp2_with (go_at_call 29; refine (withinR_any _ _ _ _).mono ?_; rintro e w' ⟨rfl, rfl⟩)
      go_ret2
      exact ⟨by rw [HS.out]; simp [h1], hb⟩
    cases h2 : inR t 0 1000000001
    · go_wp2_with (go_at_call 29; refine (withinR_any _ _ _ _).mono ?_; rintro e w' ⟨rfl, rfl⟩)
      go_ret2
      exact ⟨by rw [HS.out]; simp [h1, h2], hb⟩
    go_wp2_with (go_at_call 29; refine (withinR_any _ _ _ _).mono ?_; rintro e w' ⟨rfl, rfl⟩)
    have HS2 : Hid (sent r b l f t = (sentSum f t ((starts r b l).1.zip l), 0)) := by rw [HS.out, if_neg (by simp [h1, h2])]; rfl
    clear HS
    go_loop [12, 34] (fun s i => ∃ (k : Nat) (x : Int), k ≤ m ∧ i = .int .i64 k ∧ s = .int .i64 x ∧ 0 ≤ x ∧ x ≤ k * 1000000000 ∧ Hid (sentSum f t ((starts r b l).1.zip l) = x + sentSum f t (((starts r b l).1.zip l).drop k))) (fun _ i => m - (intOf i).toNat)
    case atStart => exact ⟨0, 0, by omega, rfl, rfl, by omega, by omega, by first | exact True.intro | (show _ = _; simp)⟩
    case round =>
      obtain ⟨k, x, hk, rfl, rfl, hx0, hx1, HG⟩ := hrel
      by_cases hlt : k < m
      · obtain ⟨bk, o, y, rfl, hbk, hy, hy1, hy2⟩ := rAsks_at (rSl.keep HR.out hb (Nat.le_refl _)) hlt
        obtain ⟨bk', o', z, rfl, hbk', hz, hz1, hz2, hz3⟩ := rInts_at HX.out hlt
        have hya := askCode_ok HQ.out.2.2.2.2.1 y (List.mem_of_getElem? hy)
        have hyb : 0 ≤ y.2 ∧ y.2 ≤ 1000000000 := by
          have := codeQ_zero HQ.out.2.2.2.1
          simp [inR] at hya; omega
        have hzip : ((starts r b l).1.zip l)[k]? = some (z, y) := by rw [List.getElem?_zip_eq_some]; exact ⟨hz, hy⟩
        have hstep : sentSum f t (((starts r b l).1.zip l).drop k) = (if f ≤ z ∧ z < t then y.2 else 0) + sentSum f t (((starts r b l).1.zip l).drop (k + 1)) := by rw [drop_of hzip]; rfl
        have HT := Lib.hid hstep
        clear hya hy hz hzip hstep
        obtain ⟨hyb1, hyb2⟩ := hyb
        by_cases ht1 : f ≤ z
        · by_cases ht2 : z < t
          · go_wp2_with fail
            go_round
            case rel => exact ⟨k + 1, x + y.2, by omega, by go_num, rfl, by omega, by push_cast; omega, by rw [HG.out, HT.out, if_pos ⟨ht1, ht2⟩]; show _ = _; omega⟩
            case measure => simp [intOf]; omega
          · go_wp2_with fail
            go_round
            case rel => exact ⟨k + 1, x, by omega, by go_num, rfl, by omega, by push_cast; omega, by rw [HG.out, HT.out, if_neg (fun h => ht2 h.2)]; show _ = _; omega⟩
            case measure => simp [intOf]; omega
        · go_wp2_with fail
          go_round
          case rel => exact ⟨k + 1, x, by omega, by go_num, rfl, by omega, by push_cast; omega, by rw [HG.out, HT.out, if_neg (fun h => ht1 h.1)]; show _ = _; omega⟩
          case measure => simp [intOf]; omega
      · obtain rfl : k = m := by omega
        go_wp2_with fail
        go_ret2
        refine ⟨?_, hb⟩
        have hlen : ((starts r b l).1.zip l).length ≤ k := by rw [List.length_zip, HL.out]; omega
        rw [HS2.out, HG.out, List.drop_of_length_le hlen]
        simp [sentSum]
  · have hc0' : ((starts r b l).2 != 0) = true := by simpa using hc0
    have HS : Hid (sent r b l f t = (0, (starts r b l).2)) := by unfold sent; rw [if_pos hc0]; rfl
    clear hc0
    go_wp2_with fail
    go_ret2
    exact ⟨by rw [HS.out]; rfl, hb⟩
end Go.Proofs.Yteoojplgchlhcaa
