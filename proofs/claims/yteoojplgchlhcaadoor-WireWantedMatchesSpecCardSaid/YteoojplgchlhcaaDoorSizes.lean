/-
  The walks of CheckSizes (wire's and the reference's). Printed by gensizes.py.
-/
import Derived.Test.YteoojplgchlhcaaDoorDigest
import Derived.Test.YteoojplgchlhcaaDoorQuota
namespace Go.Proofs.YteoojplgchlhcaaDoor
open Go.RowKit
set_option linter.unusedVariables false
set_option linter.unusedSimpArgs false

/-- x <= y, as strings. -/
def strLe (x y : ByteArray) : Bool := Op.bytesLess x.toList y.toList || x.toList == y.toList

/-- The error of contents with sizes: the first that is wrong. -/
def sizesGo : Option ByteArray → List (ByteArray × Int) → Int
  | _, [] => 0
  | p, x :: r => if isDig x.1 = false then 3 else if inR x.2 0 2000000 = false then 1 else if p.any (fun q => strLe x.1 q) then 8 else sizesGo (some x.1) r
def sizeCode (l : List (ByteArray × Int)) : Int := if l.length > 4000 then 2 else sizesGo none l

abbrev rSz1 : Rep (ByteArray × Int) := rPair rStr (rI .i64)
def rSized : Rep (List (ByteArray × Int)) := rSl 2 24 rSz1
theorem rSized_at {w : World} {B n c k : Nat} {A : Option Addr} {l : List (ByteArray × Int)} (h : rSized w B l [.slice A n c]) (hk : k < n) :
    ∃ b o x, A = some ⟨b, o, none⟩ ∧ b < B ∧ l[k]? = some x ∧ w.cell? ⟨b, o + k * 2, none⟩ = some (.string x.1) ∧ w.cell? ⟨b, o + k * 2 + 1, none⟩ = some (.int .i64 x.2) ∧ x.1.size ≤ 140737488355328 := by
  obtain ⟨b, o, x, vs, hA, hb, hl, hs, ⟨c1, c2, rfl, ⟨rfl, h2⟩, ⟨rfl, _⟩⟩, hc⟩ := rSl.at_ h hk
  exact ⟨b, o, x, hA, hb, hl, hc 0 _ rfl, hc 1 _ rfl, h2⟩

section
variable {p : Option ByteArray} {l : List (ByteArray × Int)} {k : Nat} {x : ByteArray × Int}
theorem sizesGo_form (h : l[k]? = some x) (h1 : isDig x.1 = false) : sizesGo p (l.drop k) = 3 := by rw [drop_of h, sizesGo, if_pos h1]
theorem sizesGo_bad (h : l[k]? = some x) (h1 : isDig x.1 = true) (h2 : inR x.2 0 2000000 = false) : sizesGo p (l.drop k) = 1 := by
  rw [drop_of h, sizesGo, if_neg (by simp [h1]), if_pos h2]
theorem sizesGo_order (h : l[k]? = some x) (h1 : isDig x.1 = true) (h2 : inR x.2 0 2000000 = true) (h3 : p.any (fun q => strLe x.1 q) = true) : sizesGo p (l.drop k) = 8 := by
  rw [drop_of h, sizesGo, if_neg (by simp [h1]), if_neg (by simp [h2]), if_pos h3]
theorem sizesGo_next (h : l[k]? = some x) (h1 : isDig x.1 = true) (h2 : inR x.2 0 2000000 = true) (h3 : p.any (fun q => strLe x.1 q) = false) : sizesGo p (l.drop k) = sizesGo (some x.1) (l.drop (k + 1)) := by
  rw [drop_of h, sizesGo, if_neg (by simp [h1]), if_neg (by simp [h2]), if_neg (by simp [h3])]
end

set_option maxHeartbeats 1000000 in
set_option maxRecDepth 100000 in
theorem checkSizes_any (A : Option Addr) (n c : Nat) (l : List (ByteArray × Int)) (w : World) (hR : rSized w w.heap.size l [.slice A n c]) :
    Calls Tryd.prog 16 #[.slice A n c] w fun e w' => e = .returned (.int .i64 (sizeCode l)) ∧ Below w.heap.size w w' := by
  have hln := hR.len
  obtain ⟨hnc, hcm, _⟩ := hR.le
  have HR := Lib.hid hR
  have HL := Lib.hid hln
  clear hR hln
  by_cases hn : n > 4000
  · have hn' : decide ((n : Int) > 4000) = true := by simp; omega
    have HS : Hid (sizeCode l = 2) := by unfold sizeCode; rw [if_pos (by rw [HL.out]; exact hn)]; rfl
    go_enter Tryd.func16, Tryd.ntmps16
    go_wp2_with fail
    go_ret
    exact ⟨by rw [HS.out]; rfl, Below.refl _ _⟩
  · have hn' : decide ((n : Int) > 4000) = false := by simp; omega
    have HS : Hid (sizeCode l = sizesGo none l) := by unfold sizeCode; rw [if_neg (by rw [HL.out]; exact hn)]; rfl
    go_enter Tryd.func16, Tryd.ntmps16
    go_wp2_with fail
    go_loopw [10] (fun i wr => ∃ k : Nat, k ≤ n ∧ i = .int .i64 k ∧ Below w.heap.size w wr ∧ Hid (∃ p, sizeCode l = sizesGo p (l.drop k) ∧ (k = 0 → p = none) ∧ (0 < k → ∃ y, l[k-1]? = some y ∧ p = some y.1))) (fun i _ => n - (intOf i).toNat)
    case atStart => exact ⟨0, by omega, rfl, Below.refl _ _, ⟨none, HS.out, fun _ => rfl, fun h => absurd h (by omega)⟩⟩
    case round =>
      obtain ⟨k, hk, rfl, hbw, HP⟩ := hrel
      have hzw := hbw.size
      by_cases hlt : k < n
      · obtain ⟨bk, o, x, rfl, hbk, hx, hx1, hx2, hxs⟩ := rSized_at (rSl.keep HR.out hbw (Nat.le_refl _)) hlt
        have Hx := Lib.hid hx
        clear hx
        have hbz : bk < wr.heap.size := by omega
        cases h1 : isDig x.1
        · go_wp2_with (go_at_call 36; refine (isDigest_any _ _ hxs).mono ?_; rintro e w1 ⟨rfl, hB⟩)
          go_ret
          refine ⟨?_, hbw.trans (((Below.refl _ _).alloc (Nat.le_refl _) _).trans (hB.mono (by simp)) |>.mono hzw)⟩
          obtain ⟨p, hp, _⟩ := HP.out
          rw [hp, sizesGo_form Hx.out h1]; rfl
        go_wp2_with fail
        refine (isDigest_any _ _ hxs).mono ?_
        rintro e w1 ⟨rfl, hB⟩
        have hbw1 : Below w.heap.size w w1 := hbw.trans (((Below.refl _ _).alloc (Nat.le_refl _) _).trans (hB.mono (by simp)) |>.mono hzw)
        have hz1 : wr.heap.size + 1 ≤ w1.heap.size := by have := hB.size; simp at this; omega
        have t0 : w1.cell? ⟨wr.heap.size, 0, none⟩ = some (.string x.1) := by rw [(bcell hB).1 _ _ (by simp)]; simp [go_sem]
        have t1 : w1.cell? ⟨wr.heap.size, 1, none⟩ = some (.int .i64 x.2) := by rw [(bcell hB).1 _ _ (by simp)]; simp [go_sem]
        clear hB
        cases h2 : inR x.2 0 2000000
        · go_wp2_with (go_at_call 28; refine (within_any _ _ _ _).mono ?_; rintro e w' ⟨rfl, rfl⟩)
          go_ret
          refine ⟨?_, hbw1⟩
          obtain ⟨p, hp, _⟩ := HP.out
          rw [hp, sizesGo_bad Hx.out h1 h2]; rfl
        by_cases hk0 : 0 < k
        · obtain ⟨bk', o', y, hA, _, hy, hy1, hy2, _⟩ := rSized_at (rSl.keep HR.out hbw1 (Nat.le_refl _)) (show k - 1 < n by omega)
          simp only [Option.some.injEq, Addr.mk.injEq, and_true] at hA
          obtain ⟨rfl, rfl⟩ := hA
          have Hy := Lib.hid hy
          clear hy
          have e1 : IntKind.i64.wrap ((k : Int) - 1) = (k : Int) - 1 := IntWalk.i64_in _ (by omega)
          have e2 : ((k : Int) - 1).toNat = k - 1 := by omega
          have e3 : (0 : Int) ≤ (k : Int) - 1 := by omega
          have e4 : (1 : Int) ≤ (k : Int) := by omega
          have e5 : (k : Int) - 1 < n := by omega
          have e6 : decide (0 < k) = true := by simpa using hk0
          have e7 : 1 ≤ k := hk0
          cases h3 : strLe x.1 y.1
          · have h3' := h3
            unfold strLe at h3'
            rw [Bool.or_eq_false_iff] at h3'
            obtain ⟨h31, h32⟩ := h3'
            go_wp2_with (go_at_call 28; refine (within_any _ _ _ _).mono ?_; rintro e w' ⟨rfl, rfl⟩)
            go_quiet (fail)
            clear e1 e2 e3 e4 e5 e6 e7
            go_wp2_with fail
            go_roundw
            case rel =>
              obtain ⟨p, hp, _, hp2⟩ := HP.out
              obtain ⟨y', hy', rfl⟩ := hp2 hk0
              rw [Hy.out] at hy'
              cases hy'
              exact ⟨k + 1, by omega, by go_num, drewN_below hbw1 _, ⟨some x.1, by rw [hp, sizesGo_next Hx.out h1 h2 (by simpa using h3)], by omega, fun _ => ⟨x, Hx.out, rfl⟩⟩⟩
            case measure => simp [intOf]; omega
          · have fin : sizeCode l = 8 := by
              obtain ⟨p, hp, _, hp2⟩ := HP.out
              obtain ⟨y', hy', rfl⟩ := hp2 hk0
              rw [Hy.out] at hy'
              cases hy'
              rw [hp, sizesGo_order Hx.out h1 h2 (by simpa using h3)]
            have FIN := Lib.hid fin
            clear fin
            unfold strLe at h3
            cases h31 : Op.bytesLess x.1.toList y.1.toList
            · rw [h31, Bool.false_or] at h3
              go_wp2_with (go_at_call 28; refine (within_any _ _ _ _).mono ?_; rintro e w' ⟨rfl, rfl⟩)
              go_quiet (fail)
              clear e1 e2 e3 e4 e5 e6 e7
              go_wp2_with fail
              go_ret
              exact ⟨by rw [FIN.out]; rfl, drewN_below hbw1 _⟩
            · clear h3
              go_wp2_with (go_at_call 28; refine (within_any _ _ _ _).mono ?_; rintro e w' ⟨rfl, rfl⟩)
              go_quiet (fail)
              clear e1 e2 e3 e4 e5 e6 e7
              go_wp2_with fail
              go_ret
              exact ⟨by rw [FIN.out]; rfl, drewN_below hbw1 _⟩
        · have e6 : decide (0 < k) = false := by simpa using hk0
          go_wp2_with (go_at_call 28; refine (within_any _ _ _ _).mono ?_; rintro e w' ⟨rfl, rfl⟩)
          go_quiet (fail)
          go_wp2_with fail
          go_roundw
          case rel =>
            obtain ⟨p, hp, hp1, _⟩ := HP.out
            obtain rfl := hp1 (by omega)
            exact ⟨k + 1, by omega, by go_num, drewN_below hbw1 _, ⟨some x.1, by rw [hp, sizesGo_next Hx.out h1 h2 rfl], by omega, fun _ => ⟨x, Hx.out, rfl⟩⟩⟩
          case measure => simp [intOf]; omega
      · obtain rfl : k = n := by omega
        have HA : Hid (sizeCode l = 0) := by
          obtain ⟨p, hp, _⟩ := HP.out
          have hln := HL.out
          rw [List.drop_of_length_le (by omega)] at hp
          exact hp
        go_wp2_with fail
        go_ret
        exact ⟨by rw [HA.out]; rfl, hbw⟩

set_option maxHeartbeats 1000000 in
set_option maxRecDepth 100000 in
theorem checkSizesR_any (A : Option Addr) (n c : Nat) (l : List (ByteArray × Int)) (w : World) (hR : rSized w w.heap.size l [.slice A n c]) :
    Calls Tryd.prog 17 #[.slice A n c] w fun e w' => e = .returned (.int .i64 (sizeCode l)) ∧ Below w.heap.size w w' := by
  have hln := hR.len
  obtain ⟨hnc, hcm, _⟩ := hR.le
  have HR := Lib.hid hR
  have HL := Lib.hid hln
  clear hR hln
  by_cases hn : n > 4000
  · have hn' : decide ((n : Int) > 4000) = true := by simp; omega
    have HS : Hid (sizeCode l = 2) := by unfold sizeCode; rw [if_pos (by rw [HL.out]; exact hn)]; rfl
    go_enter Tryd.func17, Tryd.ntmps17
    go_wp2_with fail
    go_ret
    exact ⟨by rw [HS.out]; rfl, Below.refl _ _⟩
  · have hn' : decide ((n : Int) > 4000) = false := by simp; omega
    have HS : Hid (sizeCode l = sizesGo none l) := by unfold sizeCode; rw [if_neg (by rw [HL.out]; exact hn)]; rfl
    go_enter Tryd.func17, Tryd.ntmps17
    go_wp2_with fail
    go_loopw [10] (fun i wr => ∃ k : Nat, k ≤ n ∧ i = .int .i64 k ∧ Below w.heap.size w wr ∧ Hid (∃ p, sizeCode l = sizesGo p (l.drop k) ∧ (k = 0 → p = none) ∧ (0 < k → ∃ y, l[k-1]? = some y ∧ p = some y.1))) (fun i _ => n - (intOf i).toNat)
    case atStart => exact ⟨0, by omega, rfl, Below.refl _ _, ⟨none, HS.out, fun _ => rfl, fun h => absurd h (by omega)⟩⟩
    case round =>
      obtain ⟨k, hk, rfl, hbw, HP⟩ := hrel
      have hzw := hbw.size
      by_cases hlt : k < n
      · obtain ⟨bk, o, x, rfl, hbk, hx, hx1, hx2, hxs⟩ := rSized_at (rSl.keep HR.out hbw (Nat.le_refl _)) hlt
        have Hx := Lib.hid hx
        clear hx
        have hbz : bk < wr.heap.size := by omega
        cases h1 : isDig x.1
        · go_wp2_with (go_at_call 32; refine (isDigestR_any _ _ hxs).mono ?_; rintro e w1 ⟨rfl, hB⟩)
          go_ret
          refine ⟨?_, hbw.trans (((Below.refl _ _).alloc (Nat.le_refl _) _).trans (hB.mono (by simp)) |>.mono hzw)⟩
          obtain ⟨p, hp, _⟩ := HP.out
          rw [hp, sizesGo_form Hx.out h1]; rfl
        go_wp2_with fail
        refine (isDigestR_any _ _ hxs).mono ?_
        rintro e w1 ⟨rfl, hB⟩
        have hbw1 : Below w.heap.size w w1 := hbw.trans (((Below.refl _ _).alloc (Nat.le_refl _) _).trans (hB.mono (by simp)) |>.mono hzw)
        have hz1 : wr.heap.size + 1 ≤ w1.heap.size := by have := hB.size; simp at this; omega
        have t0 : w1.cell? ⟨wr.heap.size, 0, none⟩ = some (.string x.1) := by rw [(bcell hB).1 _ _ (by simp)]; simp [go_sem]
        have t1 : w1.cell? ⟨wr.heap.size, 1, none⟩ = some (.int .i64 x.2) := by rw [(bcell hB).1 _ _ (by simp)]; simp [go_sem]
        clear hB
        cases h2 : inR x.2 0 2000000
        · go_wp2_with (go_at_call 33; refine (withinR_any _ _ _ _).mono ?_; rintro e w' ⟨rfl, rfl⟩)
          go_ret
          refine ⟨?_, hbw1⟩
          obtain ⟨p, hp, _⟩ := HP.out
          rw [hp, sizesGo_bad Hx.out h1 h2]; rfl
        by_cases hk0 : 0 < k
        · obtain ⟨bk', o', y, hA, _, hy, hy1, hy2, _⟩ := rSized_at (rSl.keep HR.out hbw1 (Nat.le_refl _)) (show k - 1 < n by omega)
          simp only [Option.some.injEq, Addr.mk.injEq, and_true] at hA
          obtain ⟨rfl, rfl⟩ := hA
          have Hy := Lib.hid hy
          clear hy
          have e1 : IntKind.i64.wrap ((k : Int) - 1) = (k : Int) - 1 := IntWalk.i64_in _ (by omega)
          have e2 : ((k : Int) - 1).toNat = k - 1 := by omega
          have e3 : (0 : Int) ≤ (k : Int) - 1 := by omega
          have e4 : (1 : Int) ≤ (k : Int) := by omega
          have e5 : (k : Int) - 1 < n := by omega
          have e6 : decide (0 < k) = true := by simpa using hk0
          have e7 : 1 ≤ k := hk0
          cases h3 : strLe x.1 y.1
          · have h3' := h3
            unfold strLe at h3'
            rw [Bool.or_eq_false_iff] at h3'
            obtain ⟨h31, h32⟩ := h3'
            go_wp2_with (go_at_call 33; refine (withinR_any _ _ _ _).mono ?_; rintro e w' ⟨rfl, rfl⟩)
            go_quiet (fail)
            clear e1 e2 e3 e4 e5 e6 e7
            go_wp2_with fail
            go_roundw
            case rel =>
              obtain ⟨p, hp, _, hp2⟩ := HP.out
              obtain ⟨y', hy', rfl⟩ := hp2 hk0
              rw [Hy.out] at hy'
              cases hy'
              exact ⟨k + 1, by omega, by go_num, drewN_below hbw1 _, ⟨some x.1, by rw [hp, sizesGo_next Hx.out h1 h2 (by simpa using h3)], by omega, fun _ => ⟨x, Hx.out, rfl⟩⟩⟩
            case measure => simp [intOf]; omega
          · have fin : sizeCode l = 8 := by
              obtain ⟨p, hp, _, hp2⟩ := HP.out
              obtain ⟨y', hy', rfl⟩ := hp2 hk0
              rw [Hy.out] at hy'
              cases hy'
              rw [hp, sizesGo_order Hx.out h1 h2 (by simpa using h3)]
            have FIN := Lib.hid fin
            clear fin
            unfold strLe at h3
            cases h31 : Op.bytesLess x.1.toList y.1.toList
            · rw [h31, Bool.false_or] at h3
              go_wp2_with (go_at_call 33; refine (withinR_any _ _ _ _).mono ?_; rintro e w' ⟨rfl, rfl⟩)
              go_quiet (fail)
              clear e1 e2 e3 e4 e5 e6 e7
              go_wp2_with fail
              go_ret
              exact ⟨by rw [FIN.out]; rfl, drewN_below hbw1 _⟩
            · clear h3
              go_wp2_with (go_at_call 33; refine (withinR_any _ _ _ _).mono ?_; rintro e w' ⟨rfl, rfl⟩)
              go_quiet (fail)
              clear e1 e2 e3 e4 e5 e6 e7
              go_wp2_with fail
              go_ret
              exact ⟨by rw [FIN.out]; rfl, drewN_below hbw1 _⟩
        · have e6 : decide (0 < k) = false := by simpa using hk0
          go_wp2_with (go_at_call 33; refine (withinR_any _ _ _ _).mono ?_; rintro e w' ⟨rfl, rfl⟩)
          go_quiet (fail)
          go_wp2_with fail
          go_roundw
          case rel =>
            obtain ⟨p, hp, hp1, _⟩ := HP.out
            obtain rfl := hp1 (by omega)
            exact ⟨k + 1, by omega, by go_num, drewN_below hbw1 _, ⟨some x.1, by rw [hp, sizesGo_next Hx.out h1 h2 rfl], by omega, fun _ => ⟨x, Hx.out, rfl⟩⟩⟩
          case measure => simp [intOf]; omega
      · obtain rfl : k = n := by omega
        have HA : Hid (sizeCode l = 0) := by
          obtain ⟨p, hp, _⟩ := HP.out
          have hln := HL.out
          rw [List.drop_of_length_le (by omega)] at hp
          exact hp
        go_wp2_with fail
        go_ret
        exact ⟨by rw [HA.out]; rfl, hbw⟩
end Go.Proofs.YteoojplgchlhcaaDoor
