/-
  slices.Equal at strings and at contents with sizes, where both are the same; slices.Index and Contains at strings.
-/
import Derived.Test.YteoojplgchlhcaaDoorSizes
import Derived.Test.YteoojplgchlhcaaDoorAwake
namespace Go.Proofs.YteoojplgchlhcaaDoor
open Go.RowKit
set_option linter.unusedVariables false
set_option linter.unusedSimpArgs false

def rStrs : Rep (List ByteArray) := rSl 1 16 rStr
theorem rStrs_at' {w : World} {B n c k : Nat} {A : Option Addr} {l : List ByteArray} (h : rStrs w B l [.slice A n c]) (hk : k < n) :
    ∃ b o x, A = some ⟨b, o, none⟩ ∧ b < B ∧ l[k]? = some x ∧ w.cell? ⟨b, o + k, none⟩ = some (.string x) ∧ x.size ≤ 140737488355328 := by
  obtain ⟨b, o, x, vs, hA, hb, hl, hs, ⟨rfl, hx⟩, hc⟩ := rSl.at_ h hk
  have h1 := hc 0 _ rfl
  rw [Nat.mul_one, Nat.add_zero] at h1
  exact ⟨b, o, x, hA, hb, hl, h1, hx⟩

set_option maxHeartbeats 1000000 in
theorem equalStrs_same (A1 A2 : Option Addr) (n c1 c2 B1 B2 : Nat) (l : List ByteArray) (w : World) (h1 : rStrs w B1 l [.slice A1 n c1]) (h2 : rStrs w B2 l [.slice A2 n c2]) :
    Calls Tryd.prog 20 #[.slice A1 n c1, .slice A2 n c2] w (Qt (.bool true) w) := by
  have hm1 := h1.le.2.1
  have hm1' := h1.le.1
  have H1 := Lib.hid h1
  have H2 := Lib.hid h2
  clear h1 h2
  have hne : ((n : Int) != (n : Int)) = false := bne_self_eq_false _
  go_enter Tryd.func20, Tryd.ntmps20
  go_wp2_with fail
  go_loopw [13] (fun i wr => ∃ k : Nat, k ≤ n ∧ i = .int .i64 k ∧ Hid (∃ n, wr = w.drewN n)) (fun i _ => n - (intOf i).toNat)
  case atStart => exact ⟨0, by omega, rfl, ⟨0, rfl⟩⟩
  case round =>
    obtain ⟨k, hk, rfl, HW⟩ := hrel
    by_cases hlt : k < n
    · obtain ⟨b1, o1, x1, rfl, hb1, hx1, hc1, _⟩ := rStrs_at' H1.out hlt
      obtain ⟨b2, o2, x2, rfl, hb2, hx2, hc2, _⟩ := rStrs_at' H2.out hlt
      obtain rfl : x1 = x2 := by rw [hx1] at hx2; exact Option.some.inj hx2
      obtain ⟨nd, hnd⟩ := HW.out
      have hc1' : wr.cell? ⟨b1, o1 + k, none⟩ = some (.string x1) := by rw [hnd]; exact hc1
      have hc2' : wr.cell? ⟨b2, o2 + k, none⟩ = some (.string x1) := by rw [hnd]; exact hc2
      have HN := Lib.hid hnd
      have e2 : ((k : Int)).toNat = k := by omega
      have e3 : (0 : Int) ≤ (k : Int) := by omega
      have e5 : (k : Int) < n := by omega
      have hxe : (x1.toList != x1.toList) = false := bne_self_eq_false _
      have hxe2 : (x1.toList == x1.toList) = true := beq_self_eq_true _
      clear hx1 hx2 hc1 hc2 hnd HW
      go_wp2_with fail
      go_quiet (fail)
      clear e2 e3 e5
      go_wp2_with fail
      go_roundw
      case rel => exact ⟨k + 1, by omega, by go_num, ⟨nd + nq, by rw [HN.out, World.drewN_drewN]⟩⟩
      case measure => simp [intOf]; omega
    · obtain rfl : k = n := by omega
      go_wp2_with fail
      go_ret
      obtain ⟨nd, hnd⟩ := HW.out
      exact ⟨rfl, nd, hnd⟩

set_option maxHeartbeats 1000000 in
theorem equalSized_same (A1 A2 : Option Addr) (n c1 c2 B1 B2 : Nat) (l : List (ByteArray × Int)) (w : World) (h1 : rSized w B1 l [.slice A1 n c1]) (h2 : rSized w B2 l [.slice A2 n c2]) :
    Calls Tryd.prog 18 #[.slice A1 n c1, .slice A2 n c2] w (Qt (.bool true) w) := by
  have hm1 := h1.le.2.1
  have hm1' := h1.le.1
  have H1 := Lib.hid h1
  have H2 := Lib.hid h2
  clear h1 h2
  have hne : ((n : Int) != (n : Int)) = false := bne_self_eq_false _
  go_enter Tryd.func18, Tryd.ntmps18
  go_wp2_with fail
  go_loopw [13] (fun i wr => ∃ k : Nat, k ≤ n ∧ i = .int .i64 k ∧ Hid (∃ n, wr = w.drewN n)) (fun i _ => n - (intOf i).toNat)
  case atStart => exact ⟨0, by omega, rfl, ⟨0, rfl⟩⟩
  case round =>
    obtain ⟨k, hk, rfl, HW⟩ := hrel
    by_cases hlt : k < n
    · obtain ⟨b1, o1, x1, rfl, hb1, hx1, hc1, hd1, _⟩ := rSized_at H1.out hlt
      obtain ⟨b2, o2, x2, rfl, hb2, hx2, hc2, hd2, _⟩ := rSized_at H2.out hlt
      obtain rfl : x1 = x2 := by rw [hx1] at hx2; exact Option.some.inj hx2
      obtain ⟨nd, hnd⟩ := HW.out
      have hc1' : wr.cell? ⟨b1, o1 + k * 2, none⟩ = some (.string x1.1) := by rw [hnd]; exact hc1
      have hc2' : wr.cell? ⟨b2, o2 + k * 2, none⟩ = some (.string x1.1) := by rw [hnd]; exact hc2
      have hd1' : wr.cell? ⟨b1, o1 + k * 2 + 1, none⟩ = some (.int .i64 x1.2) := by rw [hnd]; exact hd1
      have hd2' : wr.cell? ⟨b2, o2 + k * 2 + 1, none⟩ = some (.int .i64 x1.2) := by rw [hnd]; exact hd2
      have HN := Lib.hid hnd
      have e2 : ((k : Int)).toNat = k := by omega
      have e3 : (0 : Int) ≤ (k : Int) := by omega
      have e5 : (k : Int) < n := by omega
      have hxe : (x1.1.toList != x1.1.toList) = false := bne_self_eq_false _
      have hxe2 : (x1.1.toList == x1.1.toList) = true := beq_self_eq_true _
      have hxe3 : (x1.2 == x1.2) = true := beq_self_eq_true _
      clear hx1 hx2 hc1 hc2 hd1 hd2 hnd HW
      go_wp2_with fail
      go_quiet (fail)
      clear e2 e3 e5
      go_wp2_with fail
      go_roundw
      case rel => exact ⟨k + 1, by omega, by go_num, ⟨nd + nq, by rw [HN.out, World.drewN_drewN]⟩⟩
      case measure => simp [intOf]; omega
    · obtain rfl : k = n := by omega
      go_wp2_with fail
      go_ret
      obtain ⟨nd, hnd⟩ := HW.out
      exact ⟨rfl, nd, hnd⟩

set_option maxHeartbeats 1000000 in
theorem contains_any (A : Option Addr) (n c B : Nat) (l : List ByteArray) (s : ByteArray) (w : World) (h : rStrs w B l [.slice A n c]) :
    Calls Tryd.prog 37 #[.slice A n c, .string s] w fun e w' => e = .returned (.bool (l.any fun x => s.toList == x.toList)) ∧ w = w' := by
  have hln := h.len
  obtain ⟨hm1', hm1, _⟩ := h.le
  have H := Lib.hid h
  have HL := Lib.hid hln
  clear h hln
  go_enter Tryd.func37, Tryd.ntmps37
  go_wp2_with fail
  go_enter Tryd.func47, Tryd.ntmps47
  go_wp2_with fail
  go_loop [8] (fun i => ∃ k : Nat, k ≤ n ∧ i = .int .i64 k ∧ Hid ((l.any fun x => s.toList == x.toList) = ((l.drop k).any fun x => s.toList == x.toList))) (fun i => n - (intOf i).toNat)
  case atStart => exact ⟨0, by omega, rfl, rfl⟩
  case round =>
    obtain ⟨k, hk, rfl, HE⟩ := hrel
    by_cases hlt : k < n
    · obtain ⟨b, o, x, rfl, hb, hx, hc, _⟩ := rStrs_at' H.out hlt
      have hd : l.drop k = x :: l.drop (k + 1) := drop_of hx
      have HD := Lib.hid hd
      clear hx hd
      cases he : (s.toList == x.toList)
      · go_wp2_with fail
        go_round
        case rel => exact ⟨k + 1, by omega, by go_num, by rw [HE.out, HD.out, List.any_cons, he]; rfl⟩
        case measure => simp [intOf]; omega
      · have ha : Hid ((l.any fun x => s.toList == x.toList) = true) := by rw [HE.out, HD.out, List.any_cons, he]; rfl
        have hk0 : decide ((k : Int) ≥ 0) = true := by simp
        go_wp2_with fail
        all_goals go_ret
        all_goals exact ⟨by rw [ha.out]; rfl, rfl⟩
    · have ha : Hid ((l.any fun x => s.toList == x.toList) = false) := by
        have := HL.out
        rw [HE.out, List.drop_of_length_le (by omega)]; rfl
      go_wp2_with fail
      all_goals go_ret
      all_goals exact ⟨by rw [ha.out]; rfl, rfl⟩
end Go.Proofs.YteoojplgchlhcaaDoor
