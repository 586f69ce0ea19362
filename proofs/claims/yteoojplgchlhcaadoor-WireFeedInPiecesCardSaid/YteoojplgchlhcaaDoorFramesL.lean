/-
  The walk of the law WireFramesMatchSpec.
-/
import Derived.Test.YteoojplgchlhcaaDoorStream
namespace Go.Proofs.YteoojplgchlhcaaDoor
open Go.RowKit
set_option linter.unusedVariables false
set_option linter.unusedSimpArgs false

theorem frames_ok {l : List Msg} (h : (frames l).2 = 0) : l.length ≤ 20000 ∧ framesGo l = 0 ∧ frames l = (l.flatMap frameOf, 0) := by
  unfold frames at h ⊢
  by_cases h1 : l.length > 20000
  · rw [if_pos h1] at h; cases h
  · rw [if_neg h1] at h ⊢
    by_cases h2 : framesGo l = 0
    · exact ⟨by omega, h2, by rw [if_neg (by simp [h2])]⟩
    · rw [if_pos h2] at h
      exact absurd h h2

set_option maxHeartbeats 2000000 in
set_option maxRecDepth 100000 in
theorem framesMatch_any (A : Option Addr) (n c : Nat) (l : List Msg) (w : World) (hR : rMsgs w w.heap.size l [.slice A n c]) :
    Calls Tryd.prog 7 #[.slice A n c] w fun e w' => e = .returned (.bool true) ∧ Below w.heap.size w w' := by
  have hln := hR.len
  have HR := Lib.hid hR
  have HL := Lib.hid hln
  clear hR hln
  by_cases h0 : (frames l).2 = 0
  rotate_left
  · have h0' : ((frames l).2 != 0) = true := by simpa using h0
    have e1 : ((frames l).2 != (frames l).2) = false := bne_self_eq_false _
    have e2 : decide ((frames l).1 = (frames l).1) = true := by simp
    clear h0
    go_enter Tryd.func7, Tryd.ntmps7
    go_wp2_with fail
    refine (frames_any _ _ _ _ _ HR.out).mono ?_
    rintro e w1 ⟨v1, rfl, hb1, A1, c1, rfl, r1⟩
    have R1 := Lib.hid r1
    clear r1
    go_wp2_with fail
    refine (framesR_any _ _ _ _ _ (rSl.keep HR.out hb1 hb1.size)).mono ?_
    rintro e w2 ⟨v2, rfl, hb2, A2, c2, rfl, r2⟩
    have R2 := Lib.hid r2
    have hb12 := hb1.trans (hb2.mono hb1.size)
    clear r2
    generalize frames l = p at R1 R2 e1 e2 h0' ⊢
    go_wp2_with fail
    refine (equalBytes_any _ _ _ _ _ _ _ _ _ _ (rSl.keep R1.out hb2 hb2.size) R2.out).mono ?_
    rintro e w3 ⟨rfl, q, rfl⟩
    go_wp2_with (go_at_call 10; refine (awake_any _).mono ?_; rintro e w7 ⟨rfl, hb7⟩)
    go_ret
    exact ⟨rfl, (drewN_below hb12 q).trans (hb7.mono hb12.size)⟩
  obtain ⟨k1, k2, k3⟩ := frames_ok h0
  obtain ⟨S, hS⟩ : ∃ S, l.flatMap frameOf = S := ⟨_, rfl⟩
  rw [hS] at k3
  have HS := Lib.hid hS
  have HF := Lib.hid k3
  have hfe : feed [] S = if S.length ≤ 2000000 then (l, [], 0, 0) else ([], [], 0, 2) := by
    rw [← hS]
    by_cases h : (l.flatMap frameOf).length ≤ 2000000
    · rw [if_pos h, feed_frames k1 k2 h]
    · rw [if_neg h]; unfold feed; rw [if_neg (by simp), if_pos (by omega)]
  have HFE := Lib.hid hfe
  clear hfe k1 k2 k3 h0 hS
  go_enter Tryd.func7, Tryd.ntmps7
  go_wp2_with fail
  refine (frames_any _ _ _ _ _ HR.out).mono ?_
  rw [HF.out]
  rintro e w1 ⟨v1, rfl, hb1, A1, c1, rfl, r1⟩
  simp only at r1 ⊢
  have R1 := Lib.hid r1
  clear r1
  go_wp2_with fail
  refine (framesR_any _ _ _ _ _ (rSl.keep HR.out hb1 hb1.size)).mono ?_
  rw [HF.out]
  rintro e w2 ⟨v2, rfl, hb2, A2, c2, rfl, r2⟩
  simp only at r2 ⊢
  have R2 := Lib.hid r2
  have hb12 := hb1.trans (hb2.mono hb1.size)
  clear r2
  have e2 : decide (S = S) = true := by simp
  go_wp2_with fail
  refine (equalBytes_any _ _ _ _ _ _ _ _ _ _ (rSl.keep R1.out hb2 hb2.size) R2.out).mono ?_
  rintro e w3 ⟨rfl, q, rfl⟩
  go_wp2_with fail
  refine (awake_any _).mono ?_
  rintro e w4 ⟨rfl, hb4⟩
  have hb23 := (drewN_below hb2 q).trans (hb4.mono hb2.size)
  have hb14 := hb1.trans (hb23.mono hb1.size)
  go_wp2_with fail
  have hf := HFE.out
  by_cases hbig : S.length ≤ 2000000
  · rw [if_pos hbig] at hf
    have HFD := Lib.hid hf
    clear hf
    refine (feed_any none A1 0 0 S.length c1 [] S _ rSl.nil_ (rSl.keep R1.out hb23 hb23.size)).mono ?_
    rw [HFD.out]
    rintro e w5 ⟨v5, rfl, hb5, hp⟩
    obtain ⟨A5, c5, A6, c6, rfl, r5, r6⟩ := hp.read
    simp only at r5 r6 ⊢
    have hb15 := hb14.trans (hb5.mono hb14.size)
    rw [HL.out] at r5 ⊢
    have R5 := Lib.hid r5
    clear r5 r6 hp
    go_wp2_with fail
    refine (sameMessages_same _ _ _ _ _ _ _ (rSl.keep HR.out hb15 hb15.size) R5.out).mono ?_
    rintro e w6 ⟨rfl, hb6⟩
    go_wp2_with fail
    go_ret
    exact ⟨rfl, hb15.trans (hb6.mono hb15.size)⟩
  · rw [if_neg hbig] at hf
    have HFD := Lib.hid hf
    clear hf
    refine (feed_any none A1 0 0 S.length c1 [] S _ rSl.nil_ (rSl.keep R1.out hb23 hb23.size)).mono ?_
    rw [HFD.out]
    rintro e w5 ⟨v5, rfl, hb5, hp⟩
    obtain ⟨A5, c5, A6, c6, rfl, r5, r6⟩ := hp.read
    simp only at r5 r6 ⊢
    have hb15 := hb14.trans (hb5.mono hb14.size)
    clear r5 r6 hp
    have hm2 : decide ((S.length : Int) > 2000000) = true := by simp; omega
    go_wp2_with fail
    go_ret
    exact ⟨rfl, hb15⟩
end Go.Proofs.YteoojplgchlhcaaDoor
