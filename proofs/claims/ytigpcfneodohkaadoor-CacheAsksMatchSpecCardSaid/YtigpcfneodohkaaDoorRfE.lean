/-
  The reference's Fits, Shrunk, Swept. No statement of the seat is proved here; no conditions.
-/
import Derived.Test.YtigpcfneodohkaaDoorRfD
namespace Go.Proofs.YtigpcfneodohkaaDoor
open Go.RowKit Go.Shelf
set_option linter.unusedVariables false
set_option linter.unusedSimpArgs false
set_option maxRecDepth 100000

def fitsErr (c : Cache) (n at_ : Int) : Int := if atE c at_ ≠ 0 then atE c at_ else if inRg n 0 100000000 = true then 0 else 1
def fitsV (c : Cache) (n at_ : Int) : Bool := if fitsErr c n at_ = 0 then decide (stayTo c.2.2.1 at_ c.2.2.1.length ≤ c.1 - n) else false
/-- What is known of right caches, for walks. -/
structure CFacts (c : Cache) : Prop where
  b3 : c.2.2.1.length ≤ 3000
  e3 : c.2.2.2.length ≤ 1000
  rise : RiseB c.2.2.1
  refs : ∀ e ∈ c.2.2.2, e.2.1.length ≤ 200
  sz : ∀ b ∈ c.2.2.1, 0 ≤ b.2.1 ∧ b.2.1 ≤ 100000000
  room : 0 ≤ c.1 ∧ c.1 ≤ 1000000000
  lease : 0 ≤ c.2.1 ∧ c.2.1 ≤ 1000000
theorem cfacts {c : Cache} (h : ckCache c = 0) : CFacts c := by
  have hO := cok_of h
  have hR := right_iff.1 h
  refine ⟨hO.blen, hO.elen, riseB_of hO.rb, hO.refs, fun b hb => ?_, by have := hR.room; simpa [inRg] using this, by have := hR.lease; simpa [inRg] using this⟩
  obtain ⟨m, hm⟩ := List.mem_iff_getElem?.1 hb
  exact (blobErr_zero hm (hO.berr m (List.getElem?_eq_some_iff.1 hm).1)).2
set_option maxHeartbeats 1000000 in
theorem FitsR_f (c : Cache) (n at_ : Int) (hb : SBound c) : FRet Tryd.prog 15 [aCache c, .f (.int .i64 n), .f (.int .i64 at_)] [.c (.v (.bool (fitsV c n at_))), .c (.v (.int .i64 (fitsErr c n at_)))] := by
  have hok := fun h : ckCache c = 0 => cfacts h
  have hck := CheckCacheR_f c hb
  have hw := withinR_f at_ 0 1000000000
  have hw2 := withinR_f n 0 100000000
  have hE1 : ckCache c ≠ 0 → fitsErr c n at_ = ckCache c := fun h => by unfold fitsErr atE; rw [if_pos h, if_pos h]
  have hE2 : ckCache c = 0 → inRg at_ 0 1000000000 = false → fitsErr c n at_ = 1 := fun h h2 => by simp [fitsErr, atE, h, h2]
  have hE3 : ckCache c = 0 → inRg at_ 0 1000000000 = true → fitsErr c n at_ = if inRg n 0 100000000 = true then 0 else 1 := fun h h2 => by simp [fitsErr, atE, h, h2]
  unfold fitsV
  generalize fitsErr c n at_ = er at hE1 hE2 hE3 ⊢
  obtain ⟨room, lease, bl, en⟩ := c
  simp only at hok ⊢
  refine FCall.of_ax low_ref7_Fits ?_
  dsimp only [l_ref7_Fits, aCache] at hck ⊢
  refine srun_sound 300 _ _ _ _ ?_
  by_cases h0 : ckCache (room, lease, bl, en) = 0
  case neg =>
    have hd : decide (ckCache (room, lease, bl, en) = 0) = false := by simpa using h0
    obtain rfl := hE1 h0
    rw [if_neg h0]
    clear hok h0 hE1 hE2 hE3
    generalize ckCache (room, lease, bl, en) = e at *
    repeat' (first
      | (simp -implicitDefEqProofs only [*, zr, Nat.reduceAdd, Nat.reduceSub, Nat.reduceMul, Nat.reduceLT, Nat.reduceLeDiff, Nat.reduceEqDiff, Nat.reduceBEq, reduceIte, reduceCtorEq, Int.reduceLE, Int.reduceLT, Int.reduceToNat, Int.reduceEq, Int.reduceNe])
      | ((first | apply zk0 | apply zk1 | apply zk2 | apply zk3 | apply zk4 | apply zk5 | apply zk6 | apply zk7 | apply zk8 | apply zk9) <;> intro hc)
      | (refine callP0 rfl ?_)
      | (refine callD0 rfl ?_)
      | (refine cP (hck) ?_)
      | (refine cD (hck) ?_)
      | (refine cF (hck) ?_)
      | (refine cO (hck) ?_)
      | fail)
    exact ret_vv
  have hO := hok h0
  rw [h0] at hck
  replace hE2 := hE2 h0
  replace hE3 := hE3 h0
  clear hok h0 hE1
  cases h1 : inRg at_ 0 1000000000
  · rw [h1] at hw
    obtain rfl := hE2 h1
    rw [if_neg (by decide)]
    clear hO h1 hw2 hE2 hE3
    repeat' (first
      | (simp -implicitDefEqProofs only [*, zr, Nat.reduceAdd, Nat.reduceSub, Nat.reduceMul, Nat.reduceLT, Nat.reduceLeDiff, Nat.reduceEqDiff, Nat.reduceBEq, reduceIte, reduceCtorEq, Int.reduceLE, Int.reduceLT, Int.reduceToNat, Int.reduceEq, Int.reduceNe])
      | ((first | apply zk0 | apply zk1 | apply zk2 | apply zk3 | apply zk4 | apply zk5 | apply zk6 | apply zk7 | apply zk8 | apply zk9) <;> intro hc)
      | (refine callP0 rfl ?_)
      | (refine callD0 rfl ?_)
      | (refine cP (hck) ?_)
      | (refine cD (hck) ?_)
      | (refine cF (hck) ?_)
      | (refine cO (hck) ?_)
      | (refine cP (hw) ?_)
      | (refine cD (hw) ?_)
      | (refine cF (hw) ?_)
      | (refine cO (hw) ?_)
      | fail)
    exact ret_vv
  rw [h1] at hw
  have hE := hE3 h1
  clear hE2 hE3
  cases h2 : inRg n 0 100000000
  · rw [h2] at hw2 hE
    rw [if_neg (by decide)] at hE
    subst hE
    rw [if_neg (by decide)]
    clear hO h1 h2
    repeat' (first
      | (simp -implicitDefEqProofs only [*, zr, Nat.reduceAdd, Nat.reduceSub, Nat.reduceMul, Nat.reduceLT, Nat.reduceLeDiff, Nat.reduceEqDiff, Nat.reduceBEq, reduceIte, reduceCtorEq, Int.reduceLE, Int.reduceLT, Int.reduceToNat, Int.reduceEq, Int.reduceNe])
      | ((first | apply zk0 | apply zk1 | apply zk2 | apply zk3 | apply zk4 | apply zk5 | apply zk6 | apply zk7 | apply zk8 | apply zk9) <;> intro hc)
      | (refine callP0 rfl ?_)
      | (refine callD0 rfl ?_)
      | (refine cP (hck) ?_)
      | (refine cD (hck) ?_)
      | (refine cF (hck) ?_)
      | (refine cO (hck) ?_)
      | (refine cP (hw) ?_)
      | (refine cD (hw) ?_)
      | (refine cF (hw) ?_)
      | (refine cO (hw) ?_)
      | (refine cP (hw2) ?_)
      | (refine cD (hw2) ?_)
      | (refine cF (hw2) ?_)
      | (refine cO (hw2) ?_)
      | fail)
    exact ret_vv
  rw [h2] at hw2 hE
  rw [if_pos rfl] at hE
  subst hE
  rw [if_pos rfl]
  have hst := rise_take_sum hO.sz at_ bl.length (by have : bl.length ≤ 3000 := hO.b3; show bl.length ≤ 100000; omega)
  have hn : 0 ≤ n ∧ n ≤ 100000000 := by simpa [inRg] using h2
  have hrm := hO.room
  simp only at hrm hst
  by_cases h3 : room < n
  · have d0 : decide (n > room) = true := dcT h3
    have d1 : decide (room < n) = true := dcT h3
    rw [show decide (stayTo bl at_ bl.length ≤ room - n) = false from dcF (by omega)]
    clear hO h1 h2 h3 hst hn hrm
    repeat' (first
      | (simp -implicitDefEqProofs only [*, zr, Nat.reduceAdd, Nat.reduceSub, Nat.reduceMul, Nat.reduceLT, Nat.reduceLeDiff, Nat.reduceEqDiff, Nat.reduceBEq, reduceIte, reduceCtorEq, Int.reduceLE, Int.reduceLT, Int.reduceToNat, Int.reduceEq, Int.reduceNe])
      | ((first | apply zk0 | apply zk1 | apply zk2 | apply zk3 | apply zk4 | apply zk5 | apply zk6 | apply zk7 | apply zk8 | apply zk9) <;> intro hc)
      | (refine callP0 rfl ?_)
      | (refine callD0 rfl ?_)
      | (refine cP (hck) ?_)
      | (refine cD (hck) ?_)
      | (refine cF (hck) ?_)
      | (refine cO (hck) ?_)
      | (refine cP (hw) ?_)
      | (refine cD (hw) ?_)
      | (refine cF (hw) ?_)
      | (refine cO (hw) ?_)
      | (refine cP (hw2) ?_)
      | (refine cD (hw2) ?_)
      | (refine cF (hw2) ?_)
      | (refine cO (hw2) ?_)
      | fail)
    exact ret_vv
  have d0 : decide (n > room) = false := dcF (by omega)
  have d1 : decide (room < n) = false := dcF (by omega)
  have hcp := copied_f (room, lease, bl, en) (by have := hO.b3; simp only at this ⊢; omega) (by have := hO.e3; simp only at this ⊢; omega) (fun e he => by have := hO.refs e he; omega)
  have hsub : IntKind.i64.wrap (room - n) = room - n := by rw [wrap64] <;> omega
  have hb5 : bl.length ≤ 100000 := by have := hO.b3; simp only at this; omega
  by_cases h4 : stayTo bl at_ bl.length ≤ room - n
  · rw [show decide (stayTo bl at_ bl.length ≤ room - n) = true from dcT h4]
    have hsp := spaceR_yes room lease bl en (room - n) at_ hb5 hO.sz hO.rise h4
    generalize clrGone bl at_ (sumSz bl - (room - n)) = gone at hsp
    generalize keepL (fun b : Blob => hasS b.1 gone) bl = kp at hsp
    clear hO h1 h2 h3 hst hn hrm h4
    repeat' (first
      | (simp -implicitDefEqProofs only [*, frBlobs, frEntries, zr, Nat.reduceAdd, Nat.reduceSub, Nat.reduceMul, Nat.reduceLT, Nat.reduceLeDiff, Nat.reduceEqDiff, Nat.reduceBEq, reduceIte, reduceCtorEq, Int.reduceLE, Int.reduceLT, Int.reduceToNat, Int.reduceEq, Int.reduceNe])
      | ((first | apply zk0 | apply zk1 | apply zk2 | apply zk3 | apply zk4 | apply zk5 | apply zk6 | apply zk7 | apply zk8 | apply zk9) <;> intro hc)
      | (refine callP0 rfl ?_)
      | (refine callD0 rfl ?_)
      | (refine cP (hck) ?_)
      | (refine cD (hck) ?_)
      | (refine cF (hck) ?_)
      | (refine cO (hck) ?_)
      | (refine cP (hw) ?_)
      | (refine cD (hw) ?_)
      | (refine cF (hw) ?_)
      | (refine cO (hw) ?_)
      | (refine cP (hw2) ?_)
      | (refine cD (hw2) ?_)
      | (refine cF (hw2) ?_)
      | (refine cO (hw2) ?_)
      | fail)
    refine callDN rfl hcp rfl (LeL.refl _) rfl (by first | exact free_mk rfl | exact free_mk (by simp) | (repeat (first | exact free_0 | exact free_mk rfl | exact free_mk (by simp) | refine free_upd rfl ?_ | refine free_kill ?_))) rfl ?_
    repeat' (first
      | (simp -implicitDefEqProofs only [*, addFp_wr, wrL_3, nextCs, nextC, zr, Nat.reduceAdd, Nat.reduceSub, Nat.reduceMul, Nat.reduceLT, Nat.reduceLeDiff, Nat.reduceEqDiff, Nat.reduceBEq, reduceIte, reduceCtorEq, Int.reduceLE, Int.reduceLT, Int.reduceToNat, Int.reduceEq, Int.reduceNe])
      | ((first | apply zk0 | apply zk1 | apply zk2 | apply zk3 | apply zk4 | apply zk5 | apply zk6 | apply zk7 | apply zk8 | apply zk9) <;> intro hc)
      | (refine callP0 rfl ?_)
      | (refine callD0 rfl ?_)
      | fail)
    refine callDPm rfl hsp rfl 2030 1 [.f (.int .i64 room), .f (.int .i64 lease), .sl 30 1 5 0 bl.length, .sl 1030 1 3 0 en.length] [] [.f (.int .i64 (room - n)), .f (.int .i64 at_)] rfl rfl ⟨rfl, rfl, .inr ⟨_, _, rfl, rfl, by rw [row_len (sz := 5) (fun _ => rfl)]; exact Nat.le_refl _⟩, .inr ⟨_, _, rfl, rfl, by rw [row_len (sz := 3) (fun _ => rfl)]; exact Nat.le_refl _⟩, rfl⟩ rfl (by simp [idsC, idsS]) (by simp [idsC, idsS]) (LeL.refl _) rfl (by first | exact free_mk rfl | exact free_mk (by simp) | (repeat (first | exact free_0 | exact free_mk rfl | exact free_mk (by simp) | refine free_upd rfl ?_ | refine free_kill ?_))) rfl ?_
    repeat' (first
      | (simp -implicitDefEqProofs only [*, addFp_wr, wrL_3, wrL_2, nextCs, nextC, idsC, idsS, zr, Nat.reduceAdd, Nat.reduceSub, Nat.reduceMul, Nat.reduceLT, Nat.reduceLeDiff, Nat.reduceEqDiff, Nat.reduceBEq, reduceIte, reduceCtorEq, Int.reduceLE, Int.reduceLT, Int.reduceToNat, Int.reduceEq, Int.reduceNe])
      | ((first | apply zk0 | apply zk1 | apply zk2 | apply zk3 | apply zk4 | apply zk5 | apply zk6 | apply zk7 | apply zk8 | apply zk9) <;> intro hc)
      | (refine callP0 rfl ?_)
      | (refine callD0 rfl ?_)
      | fail)
    exact ret_vv
  · rw [show decide (stayTo bl at_ bl.length ≤ room - n) = false from dcF h4]
    have hsp := spaceR_no room lease bl en (room - n) at_ hb5 hO.sz (by omega)
    clear hO h1 h2 h3 hst hn hrm h4
    repeat' (first
      | (simp -implicitDefEqProofs only [*, frBlobs, frEntries, zr, Nat.reduceAdd, Nat.reduceSub, Nat.reduceMul, Nat.reduceLT, Nat.reduceLeDiff, Nat.reduceEqDiff, Nat.reduceBEq, reduceIte, reduceCtorEq, Int.reduceLE, Int.reduceLT, Int.reduceToNat, Int.reduceEq, Int.reduceNe])
      | ((first | apply zk0 | apply zk1 | apply zk2 | apply zk3 | apply zk4 | apply zk5 | apply zk6 | apply zk7 | apply zk8 | apply zk9) <;> intro hc)
      | (refine callP0 rfl ?_)
      | (refine callD0 rfl ?_)
      | (refine cP (hck) ?_)
      | (refine cD (hck) ?_)
      | (refine cF (hck) ?_)
      | (refine cO (hck) ?_)
      | (refine cP (hw) ?_)
      | (refine cD (hw) ?_)
      | (refine cF (hw) ?_)
      | (refine cO (hw) ?_)
      | (refine cP (hw2) ?_)
      | (refine cD (hw2) ?_)
      | (refine cF (hw2) ?_)
      | (refine cO (hw2) ?_)
      | fail)
    refine callDN rfl hcp rfl (LeL.refl _) rfl (by first | exact free_mk rfl | exact free_mk (by simp) | (repeat (first | exact free_0 | exact free_mk rfl | exact free_mk (by simp) | refine free_upd rfl ?_ | refine free_kill ?_))) rfl ?_
    repeat' (first
      | (simp -implicitDefEqProofs only [*, addFp_wr, wrL_3, nextCs, nextC, zr, Nat.reduceAdd, Nat.reduceSub, Nat.reduceMul, Nat.reduceLT, Nat.reduceLeDiff, Nat.reduceEqDiff, Nat.reduceBEq, reduceIte, reduceCtorEq, Int.reduceLE, Int.reduceLT, Int.reduceToNat, Int.reduceEq, Int.reduceNe])
      | ((first | apply zk0 | apply zk1 | apply zk2 | apply zk3 | apply zk4 | apply zk5 | apply zk6 | apply zk7 | apply zk8 | apply zk9) <;> intro hc)
      | (refine callP0 rfl ?_)
      | (refine callD0 rfl ?_)
      | fail)
    refine callDPm rfl hsp rfl 2030 1 [.f (.int .i64 room), .f (.int .i64 lease), .sl 30 1 5 0 bl.length, .sl 1030 1 3 0 en.length] [] [.f (.int .i64 (room - n)), .f (.int .i64 at_)] rfl rfl ⟨rfl, rfl, .inr ⟨_, _, rfl, rfl, by rw [row_len (sz := 5) (fun _ => rfl)]; exact Nat.le_refl _⟩, .inr ⟨_, _, rfl, rfl, by rw [row_len (sz := 3) (fun _ => rfl)]; exact Nat.le_refl _⟩, rfl⟩ rfl (by simp [idsC, idsS]) (by simp [idsC, idsS]) (LeL.refl _) rfl (by first | exact free_mk rfl | exact free_mk (by simp) | (repeat (first | exact free_0 | exact free_mk rfl | exact free_mk (by simp) | refine free_upd rfl ?_ | refine free_kill ?_))) rfl ?_
    repeat' (first
      | (simp -implicitDefEqProofs only [*, addFp_wr, wrL_3, wrL_2, nextCs, nextC, idsC, idsS, zr, Nat.reduceAdd, Nat.reduceSub, Nat.reduceMul, Nat.reduceLT, Nat.reduceLeDiff, Nat.reduceEqDiff, Nat.reduceBEq, reduceIte, reduceCtorEq, Int.reduceLE, Int.reduceLT, Int.reduceToNat, Int.reduceEq, Int.reduceNe])
      | ((first | apply zk0 | apply zk1 | apply zk2 | apply zk3 | apply zk4 | apply zk5 | apply zk6 | apply zk7 | apply zk8 | apply zk9) <;> intro hc)
      | (refine callP0 rfl ?_)
      | (refine callD0 rfl ?_)
      | fail)
    exact ret_vv
end Go.Proofs.YtigpcfneodohkaaDoor
