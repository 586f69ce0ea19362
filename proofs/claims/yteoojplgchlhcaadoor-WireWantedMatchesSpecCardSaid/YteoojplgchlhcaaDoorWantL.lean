/-
  The walk of the law WireWantedMatchesSpec.
-/
import Derived.Test.YteoojplgchlhcaaDoorWantR
import Derived.Test.YteoojplgchlhcaaDoorBatchR
namespace Go.Proofs.YteoojplgchlhcaaDoor
open Go.RowKit
set_option linter.unusedVariables false
set_option linter.unusedSimpArgs false

theorem rRows_at {w : World} {B n c k : Nat} {A : Option Addr} {l : List (List ByteArray)} (h : rSl 1 24 (rSl 1 16 rStr) w B l [.slice A n c]) (hk : k < n) :
    ∃ b o r A' c', A = some ⟨b, o, none⟩ ∧ b < B ∧ l[k]? = some r ∧ w.cell? ⟨b, o + k, none⟩ = some (.slice A' r.length c') ∧ rStrs w B r [.slice A' r.length c'] := by
  obtain ⟨b, o, r, vs, hA, hb, hl, hs, hR, hc⟩ := rSl.at_ h hk
  obtain ⟨A', c', rfl, _⟩ := rSl.form hR
  have h1 := hc 0 _ rfl
  rw [Nat.mul_one, Nat.add_zero] at h1
  exact ⟨b, o, r, A', c', hA, hb, hl, h1, hR⟩

set_option maxHeartbeats 4000000 in
set_option maxRecDepth 100000 in
theorem wantedMatch_any (A1 A2 : Option Addr) (n1 c1 n2 c2 : Nat) (l : List (ByteArray × Int)) (hv : List ByteArray) (most many : Int) (w : World) (h1 : rSized w w.heap.size l [.slice A1 n1 c1]) (h2 : rStrs w w.heap.size hv [.slice A2 n2 c2]) :
    Calls Tryd.prog 5 #[.slice A1 n1 c1, .slice A2 n2 c2, .int .i64 most, .int .i64 many] w fun e w' => e = .returned (.bool true) ∧ Below w.heap.size w w' := by
  have H1 := Lib.hid h1
  have H2 := Lib.hid h2
  clear h1 h2
  go_enter Tryd.func5, Tryd.ntmps5
  go_wp2_with fail
  refine (wanted_any _ _ _ _ _ _ _ _ _ H1.out H2.out).mono ?_
  rintro e w1 ⟨v1, rfl, hb1, A3, c3, rfl, r1⟩
  have R1 := Lib.hid r1
  clear r1
  go_wp2_with fail
  refine (wantedR_any _ _ _ _ _ _ _ _ _ (rSl.keep H1.out hb1 hb1.size) (rSl.keep H2.out hb1 hb1.size)).mono ?_
  rintro e w2 ⟨v2, rfl, hb2, A4, c4, rfl, r2⟩
  have R2 := Lib.hid r2
  have hb12 := hb1.trans (hb2.mono hb1.size)
  have e1 : ((wanted l hv).2.1 != (wanted l hv).2.1) = false := bne_self_eq_false _
  have e2 : ((wanted l hv).2.2 != (wanted l hv).2.2) = false := bne_self_eq_false _
  have e3 : (sizeCode l != sizeCode l) = false := bne_self_eq_false _
  clear r2
  generalize wanted l hv = p at R1 R2 e1 e2 ⊢
  go_wp2_with fail
  refine (checkSizes_any _ _ _ _ _ (rSl.keep H1.out hb12 hb12.size)).mono ?_
  rintro e w3 ⟨rfl, hb3⟩
  have hb13 := hb12.trans (hb3.mono hb12.size)
  have hb23 := hb2.trans (hb3.mono hb2.size)
  go_wp2_with fail
  refine (checkSizesR_any _ _ _ _ _ (rSl.keep H1.out hb13 hb13.size)).mono ?_
  rintro e w4 ⟨rfl, hb4⟩
  have hb14 := hb13.trans (hb4.mono hb13.size)
  have hb24 := hb23.trans (hb4.mono hb23.size)
  have hb34 := hb3.trans (hb4.mono hb3.size)
  go_wp2_with fail
  refine (equalSized_same _ _ _ _ _ _ _ _ _ (rSl.keep R1.out hb24 hb24.size) (rSl.keep R2.out hb34 hb34.size)).mono ?_
  rintro e w5 ⟨rfl, q5, rfl⟩
  have hb15 := drewN_below hb14 q5
  clear hb1 hb2 hb12 hb3 hb13 hb23 hb4 hb14 hb24 hb34 R1 R2 e1 e2 e3
  go_wp2_with fail
  refine (batches_any _ _ _ _ _ _ _ (rSl.keep H1.out hb15 hb15.size)).mono ?_
  rintro e w6 ⟨v6, rfl, hb6, A6, c6, rfl, r6⟩
  have R6 := Lib.hid r6
  have hb16 := hb15.trans (hb6.mono hb15.size)
  clear r6
  go_wp2_with fail
  refine (batchesR_any _ _ _ _ _ _ _ (rSl.keep H1.out hb16 hb16.size)).mono ?_
  rintro e w7 ⟨v7, rfl, hb7, A7, c7, rfl, r7⟩
  have R7 := Lib.hid r7
  have hb17 := hb16.trans (hb7.mono hb16.size)
  have e1 : ((batches l most many).2 != (batches l most many).2) = false := bne_self_eq_false _
  clear r7
  generalize batches l most many = p at R6 R7 e1 ⊢
  have R6 := Lib.hid (rSl.keep R6.out hb7 hb7.size)
  have e2 : ((p.1.length : Int) != (p.1.length : Int)) = false := bne_self_eq_false _
  have hm6 := R6.out.le.2.1
  have hm6' := R6.out.le.1
  clear hb15 hb6 hb16 hb7
  generalize hn : p.1.length = n at R6 R7 e2 hm6 hm6' ⊢
  have HN := Lib.hid hn
  clear hn
  go_wp2_with fail
  go_loopw [79] (fun i wr => ∃ k : Nat, k ≤ n ∧ i = .int .i64 k ∧ Below w7.heap.size w7 wr) (fun i _ => n - (intOf i).toNat)
  case atStart => exact ⟨0, by omega, rfl, Below.refl _ _⟩
  case round =>
    obtain ⟨k, hk, rfl, hbw⟩ := hrel
    have hzw := hbw.size
    by_cases hlt : k < n
    · obtain ⟨b1, o1, r, B1, d1, rfl, hb1, hx1, p1, pr⟩ := rRows_at (rSl.keep R6.out hbw hzw) hlt
      obtain ⟨b2, o2, r2, B2, d2, rfl, hb2, hx2, p2, qr⟩ := rRows_at (rSl.keep R7.out hbw hzw) hlt
      obtain rfl : r = r2 := Option.some.inj (hx1.symm.trans hx2)
      have PB := Lib.hid pr
      have QB := Lib.hid qr
      have e2 : ((k : Int)).toNat = k := by omega
      have e3 : (0 : Int) ≤ (k : Int) := by omega
      have e5 : (k : Int) < n := by omega
      clear hx1 hx2 pr qr
      generalize hm : r.length = m at PB QB p1 p2
      clear hm
      go_wp2_with fail
      go_region_held3 (fun w' => w'.cell? ⟨b1, o1 + k, none⟩ = some (.slice B1 m d1) ∧ w'.cell? ⟨b2, o2 + k, none⟩ = some (.slice B2 m d2))
        (first | exact ⟨p1, p2⟩)
        (first | (go_at_call 20; refine (equalStrs_same _ _ _ _ _ _ _ _ _ (by exact rSl.keep PB.out (Below.refl _ _).drew (Nat.le_refl _)) (by exact rSl.keep QB.out (Below.refl _ _).drew (Nat.le_refl _))).mono ?_; rintro e w4 ⟨rfl, q4, rfl⟩))
      all_goals (
        go_wp2_with fail
        go_roundw
        case rel => exact ⟨k + 1, by omega, by go_num, drewN_below hbw _⟩
        case measure => (simp [intOf]; omega)
        )
    · obtain rfl : k = n := by omega
      have hb18 := hb17.trans (hbw.mono hb17.size)
      go_wp2_with (go_at_call 10; refine (awake_any _).mono ?_; rintro e w9 ⟨rfl, hb9⟩)
      go_ret
      exact ⟨rfl, hb18.trans (hb9.mono hb18.size)⟩
end Go.Proofs.YteoojplgchlhcaaDoor
