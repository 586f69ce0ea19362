/-
  The walks of checkMessage, number, head (wire's and the reference's).
-/
import Derived.Test.YteoojplgchlhcaaDoorMsgR
namespace Go.Proofs.YteoojplgchlhcaaDoor
open Go.RowKit
set_option linter.unusedVariables false
set_option linter.unusedSimpArgs false

theorem hasFrom_any (k : Int) (w : World) : Calls Tryd.prog 51 #[.int .i64 k] w fun e w' => e = .returned (.bool (k == 2 || k == 3)) ∧ w = w' := by
  go_enter Tryd.func51, Tryd.ntmps51
  go_wp2
  all_goals go_ret
  all_goals (refine ⟨?_, rfl⟩)
  all_goals simp [*]
def msgCode (k : Int) (d : ByteArray) (f s many : Int) : Int :=
  if inR k 1 6 = false then 4 else if isDig d = false then 3 else if inR f 0 2000000 = false ∨ inR s 0 2000000 = false then 1 else if many > 65536 then 2
  else if (k ≠ 2 ∧ k ≠ 3 ∧ f ≠ 0) ∨ (k ≠ 1 ∧ s ≠ 0) ∨ ((k = 2) ↔ ¬ 0 < many) then 3 else 0
theorem retI {k : IntKind} {x y : Int} (h : x = y) : Ending.returned (.int k x) = .returned (.int k y) := by rw [h]
set_option maxHeartbeats 4000000 in
theorem checkMessage_any (k f s many : Int) (d : ByteArray) (A : Option Addr) (n c : Nat) (w : World) (hd : d.size ≤ 140737488355328) :
    Calls Tryd.prog 40 #[.agg #[.int .i64 k, .string d, .int .i64 f, .int .i64 s, .slice A n c], .int .i64 many] w fun e w' => e = .returned (.int .i64 (msgCode k d f s many)) ∧ Below w.heap.size w w' := by
  have hb1 : ∀ o1, Below w.heap.size w (w.alloc o1) := fun o1 => (Below.refl _ _).alloc (Nat.le_refl _) _
  have HB1 := Lib.hid hb1
  clear hb1
  go_enter Tryd.func40, Tryd.ntmps40
  go_wp2_with (first | (go_at_call 28; refine (within_any _ _ _ _).mono ?_; rintro e w' ⟨rfl, rfl⟩) | (go_at_call 36; refine (isDigest_any _ _ hd).mono ?_; rintro e w2 ⟨rfl, hB⟩; have HB := Lib.hid hB; have hBB := (bcell hB).1; clear hB))
  all_goals go_ret
  all_goals refine ⟨retI ?_, ?_⟩
  all_goals first
    | exact HB1.out _
    | exact (HB1.out _).trans (HB.out.mono (by simp))
    | (unfold msgCode; simp_all; done)
    | (unfold msgCode; by_cases hmm : 0 < many <;> simp_all <;> omega)
set_option maxHeartbeats 4000000 in
theorem checkMessageR_any (k f s : Int) (d : ByteArray) (A : Option Addr) (n c : Nat) (w : World) (hd : d.size ≤ 140737488355328) :
    Calls Tryd.prog 43 #[.agg #[.int .i64 k, .string d, .int .i64 f, .int .i64 s, .slice A n c]] w fun e w' => e = .returned (.int .i64 (msgCode k d f s n)) ∧ Below w.heap.size w w' := by
  have hb1 : ∀ o1, Below w.heap.size w (w.alloc o1) := fun o1 => (Below.refl _ _).alloc (Nat.le_refl _) _
  have HB1 := Lib.hid hb1
  clear hb1
  go_enter Tryd.func43, Tryd.ntmps43
  go_wp2_with (first | (go_at_call 33; refine (withinR_any _ _ _ _).mono ?_; rintro e w' ⟨rfl, rfl⟩) | (go_at_call 32; refine (isDigestR_any _ _ hd).mono ?_; rintro e w2 ⟨rfl, hB⟩; have HB := Lib.hid hB; have hBB := (bcell hB).1; clear hB) | (go_at_call 51; refine (hasFrom_any _ _).mono ?_; rintro e w' ⟨rfl, rfl⟩))
  all_goals go_ret
  all_goals refine ⟨retI ?_, ?_⟩
  all_goals first
    | exact HB1.out _
    | exact (HB1.out _).trans (HB.out.mono (by simp))
    | (unfold msgCode; simp_all; done)
    | (unfold msgCode; by_cases hmm : 0 < n <;> simp_all <;> omega)

theorem shl_or (N x : Nat) (hN : N < 16777216) (hx : x < 256) : bits BinOp.or IntKind.i64 ((N : Int) * 256) (x : Int) = ((N * 256 + x : Nat) : Int) := by
  have e0 : (N : Int) * 256 = ((N * 256 : Nat) : Int) := by omega
  have e1 : ∀ m : Nat, m < 18446744073709551616 → (BitVec.ofInt IntKind.i64.bits (m : Int)).toNat = m := by
    intro m hm
    show (BitVec.ofInt 64 (m : Int)).toNat = m
    rw [BitVec.toNat_ofInt]
    omega
  have e2 : N * 256 ||| x = N * 256 + x := by
    have := Nat.two_pow_add_eq_or_of_lt (i := 8) (b := x) (show x < 2 ^ 8 from by omega) N
    rw [show (2 : Nat) ^ 8 * N = N * 256 by omega] at this
    exact this.symm
  unfold bits
  simp only []
  rw [e0, BitVec.toNat_or, e1 _ (by omega), e1 _ (by omega), e2]
  exact IntWalk.i64_in _ (by omega)
def numOf (l : List UInt8) : Nat := l.foldl (fun n c => n * 256 + c.toNat) 0
theorem numOf_lt (l : List UInt8) : numOf l < 256 ^ l.length := by
  unfold numOf
  have : ∀ (l : List UInt8) (a m : Nat), a < 256 ^ m → l.foldl (fun n c => n * 256 + c.toNat) a < 256 ^ (m + l.length) := by
    intro l
    induction l with
    | nil => intro a m h; simpa using h
    | cons c r ih =>
      intro a m h
      have hc := c.toNat_lt
      have := ih (a * 256 + c.toNat) (m + 1) (by rw [Nat.pow_succ]; omega)
      simpa [Nat.add_assoc, Nat.add_comm 1] using this
  simpa using this l 0 0 (by simp)
theorem numOf_snoc (l : List UInt8) (c : UInt8) : numOf (l ++ [c]) = numOf l * 256 + c.toNat := by simp [numOf]
theorem take_snoc' {α : Type} {l : List α} {k : Nat} {x : α} (h : l[k]? = some x) : l.take (k + 1) = l.take k ++ [x] := by rw [List.take_add_one, h]; rfl
set_option maxHeartbeats 1000000 in
theorem number_any (A : Option Addr) (n c B : Nat) (l : List UInt8) (w : World) (h : rBytes w B l [.slice A n c]) (hn : n ≤ 4) :
    Calls Tryd.prog 49 #[.slice A n c] w fun e w' => e = .returned (.int .i64 (numOf l : Nat)) ∧ w = w' := by
  have hln := h.len
  obtain ⟨hm1', hm1, _⟩ := h.le
  have H := Lib.hid h
  have HL := Lib.hid hln
  clear h hln
  go_enter Tryd.func49, Tryd.ntmps49
  go_wp2_with fail
  go_loop [3, 8] (fun v i => ∃ k : Nat, k ≤ n ∧ i = .int .i64 k ∧ v = .int .i64 (numOf (l.take k) : Nat)) (fun _ i => n - (intOf i).toNat)
  case atStart => exact ⟨0, by omega, rfl, rfl⟩
  case round =>
    obtain ⟨k, hk, rfl, rfl⟩ := hrel
    by_cases hlt : k < n
    · obtain ⟨b, o, x, rfl, hb, hx, hc, hc1, hc2⟩ := rBytes_at H.out hlt
      have HX := Lib.hid (take_snoc' hx)
      have hv : numOf (l.take k) < 16777216 := by
        have := numOf_lt (l.take k)
        have h2 : (l.take k).length ≤ 3 := by rw [List.length_take]; omega
        exact Nat.lt_of_lt_of_le this (Nat.le_trans (Nat.pow_le_pow_right (by decide) h2) (by decide))
      generalize hN : numOf (l.take k) = N at hv ⊢
      have HN := Lib.hid hN
      clear hN hx
      go_wp2_with fail
      go_round
      case rel => exact ⟨k + 1, by omega, by go_num, by rw [shl_or N x.toNat hv (by omega), HX.out, numOf_snoc, HN.out]⟩
      case measure => simp [intOf]; omega
    · obtain rfl : k = n := by omega
      have HT : Hid (l.take k = l) := List.take_of_length_le (by rw [HL.out]; exact Nat.le_refl _)
      go_wp2_with fail
      go_ret
      rw [HT.out]
      exact ⟨rfl, rfl⟩
set_option maxHeartbeats 1000000 in
theorem valueOf_any (A : Option Addr) (n c B : Nat) (l : List UInt8) (w : World) (h : rBytes w B l [.slice A n c]) (hn : n ≤ 4) :
    Calls Tryd.prog 50 #[.slice A n c] w fun e w' => e = .returned (.int .i64 (numOf l : Nat)) ∧ w = w' := by
  have hln := h.len
  obtain ⟨hm1', hm1, _⟩ := h.le
  have H := Lib.hid h
  have HL := Lib.hid hln
  clear h hln
  go_enter Tryd.func50, Tryd.ntmps50
  go_wp2_with fail
  go_loop [3, 8] (fun v i => ∃ k : Nat, k ≤ n ∧ i = .int .i64 k ∧ v = .int .i64 (numOf (l.take k) : Nat)) (fun _ i => n - (intOf i).toNat)
  case atStart => exact ⟨0, by omega, rfl, rfl⟩
  case round =>
    obtain ⟨k, hk, rfl, rfl⟩ := hrel
    by_cases hlt : k < n
    · obtain ⟨b, o, x, rfl, hb, hx, hc, hc1, hc2⟩ := rBytes_at H.out hlt
      have HX := Lib.hid (take_snoc' hx)
      have hv : numOf (l.take k) < 16777216 := by
        have := numOf_lt (l.take k)
        have h2 : (l.take k).length ≤ 3 := by rw [List.length_take]; omega
        exact Nat.lt_of_lt_of_le this (Nat.le_trans (Nat.pow_le_pow_right (by decide) h2) (by decide))
      generalize hN : numOf (l.take k) = N at hv ⊢
      have HN := Lib.hid hN
      clear hN hx
      go_wp2_with fail
      go_round
      case rel => exact ⟨k + 1, by omega, by go_num, by rw [shl_or N x.toNat hv (by omega), HX.out, numOf_snoc, HN.out]⟩
      case measure => simp [intOf]; omega
    · obtain rfl : k = n := by omega
      have HT : Hid (l.take k = l) := List.take_of_length_le (by rw [HL.out]; exact Nat.le_refl _)
      go_wp2_with fail
      go_ret
      rw [HT.out]
      exact ⟨rfl, rfl⟩

def headOfL (l : List UInt8) : Msg × Nat :=
  let k : Int := (l.headD 0).toNat
  let n := numOf ((l.drop 17).take 4)
  ((k, ⟨((l.drop 1).take 16).toArray⟩, if k = 1 then 0 else (n : Int), if k = 1 then (n : Int) else 0, []), numOf ((l.drop 21).take 3))
theorem convB {w : World} {B n c : Nat} {A : Option Addr} {l : List UInt8} (h : rBytes w B l [.slice A n c]) : (convert 32 9 (.slice A n c)).run Tryd.prog w = .ok (.string ⟨l.toArray⟩) w :=
  run_convert_rBytes Tryd.underlying32 Tryd.underlying5 Tryd.underlying9 h
theorem rBytes.cut1 {w : World} {B n c k m : Nat} {A : Option Addr} {l : List UInt8} (h : rBytes w B l [.slice A n c]) (hk : k ≤ m) (hm : m ≤ n) :
    rBytes w B ((l.drop k).take (m - k)) [.slice (if c = k then A else A.map (·.add k)) (m - k) (c - k)] := by
  have := rSl.cut h hk hm
  rw [Nat.mul_one] at this; exact this
end Go.Proofs.YteoojplgchlhcaaDoor
