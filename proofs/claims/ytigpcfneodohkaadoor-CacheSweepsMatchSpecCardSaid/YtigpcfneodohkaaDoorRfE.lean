/-
  The reference's Fits, Shrunk, Swept. No statement of the seat is proved here; no conditions.
-/
import Derived.Test.YtigpcfneodohkaaDoorRfD
namespace Go.Proofs.YtigpcfneodohkaaDoor
open Go.RowKit Go.Shelf
set_option linter.unusedVariables false
set_option linter.unusedSimpArgs false
set_option maxRecDepth 100000

/-- What is known of right caches, for walks. -/
structure CFacts (c : Cache) : Prop where
  b3 : c.2.2.1.length ≤ 3000
  e3 : c.2.2.2.length ≤ 1000
  rise : RiseB c.2.2.1
  refs : ∀ e ∈ c.2.2.2, e.2.1.length ≤ 200
  sz : ∀ b ∈ c.2.2.1, 0 ≤ b.2.1 ∧ b.2.1 ≤ 100000000
  room : 0 ≤ c.1 ∧ c.1 ≤ 1000000000
  lease : 0 ≤ c.2.1 ∧ c.2.1 ≤ 1000000
theorem cfacts {c : Cache} (h : ckCache c = 0) : CFacts c := by
  have hO := cok_of h
  have hR := right_iff.1 h
  refine ⟨hO.blen, hO.elen, riseB_of hO.rb, hO.refs, fun b hb => ?_, by have := hR.room; simpa [inRg] using this, by have := hR.lease; simpa [inRg] using this⟩
  obtain ⟨m, hm⟩ := List.mem_iff_getElem?.1 hb
  exact (blobErr_zero hm (hO.berr m (List.getElem?_eq_some_iff.1 hm).1)).2
theorem shrErr_cases (c : Cache) (room2 at_ : Int) : (ckCache c ≠ 0 → shrErr c room2 at_ = ckCache c) ∧ (ckCache c = 0 → inRg at_ 0 1000000000 = false → shrErr c room2 at_ = 1) ∧ (ckCache c = 0 → inRg at_ 0 1000000000 = true → inRg room2 0 1000000000 = false → shrErr c room2 at_ = 1) ∧
    (ckCache c = 0 → inRg at_ 0 1000000000 = true → inRg room2 0 1000000000 = true → shrErr c room2 at_ = if sumSz (leavV c.2.2.1 at_) < shrOver c room2 then 16 else 0) := by
  refine ⟨fun h => ?_, fun h h2 => ?_, fun h h2 h3 => ?_, fun h h2 h3 => ?_⟩
  · unfold shrErr atE; rw [if_pos h, if_pos h]
  · simp [shrErr, atE, h, h2]
  · simp [shrErr, atE, h, h2, h3]
  · simp [shrErr, atE, h, h2, h3]
def shrRn (c : Cache) (room2 at_ : Int) : List RS :=
  if shrErr c room2 at_ ≠ 0 then [.agg (rcOwn emptyC [] []), .c (.own 1 0 []), .c (.v (.int .i64 (shrErr c room2 at_)))]
  else [.agg (rcOwn (shrunk c room2 at_) [] []), .c (.own 1 (shrGone c room2 at_).length ((shrGone c room2 at_).map .str)), .c (.v (.int .i64 0))]
theorem retw_errn {e : FV} {H : Heap} : RetsW [.agg (rcOwn emptyC [] []), .c (.own 1 0 []), .c (.v e)] (.tup [.agg [.f (.int .i64 0), .f (.int .i64 0), .f .nil, .f .nil], .f .nil, .f e]) H :=
  ⟨_, [.agg [.f (.int .i64 0), .f (.int .i64 0), .f .nil, .f .nil], .f .nil, .f e], rfl, .refl _, ⟨⟨rfl, rfl, .inl ⟨rfl, rfl, rfl⟩, .inl ⟨rfl, rfl, rfl⟩, rfl⟩, .inl ⟨rfl, rfl, rfl⟩, rfl, rfl⟩, by simp [idsS, idsC]⟩
set_option maxHeartbeats 1000000 in
theorem ShrunkR_f (c : Cache) (room2 at_ : Int) (hb : SBound c) : FRet Tryd.prog 19 [aCache c, .f (.int .i64 room2), .f (.int .i64 at_)] (shrRn c room2 at_) := by
  refine fret_w (FCall.of_ax low_ref7_Shrunk ?_)
  have hok := fun h : ckCache c = 0 => cfacts h
  have hck := CheckCacheR_f c hb
  have hw := withinR_f at_ 0 1000000000
  have hw2 := withinR_f room2 0 1000000000
  obtain ⟨hE1, hE2, hE3, hE4⟩ := shrErr_cases c room2 at_
  unfold shrRn
  generalize shrErr c room2 at_ = er at hE1 hE2 hE3 hE4 ⊢
  obtain ⟨room, lease, bl, en⟩ := c
  simp only at hok hE4 ⊢
  dsimp only [l_ref7_Shrunk, aCache] at hck ⊢
  refine srun_sound 300 _ _ _ _ ?_
  by_cases h0 : ckCache (room, lease, bl, en) = 0
  case neg =>
    have hd : decide (ckCache (room, lease, bl, en) = 0) = false := by simpa using h0
    obtain rfl := hE1 h0
    rw [if_pos h0]
    clear hok h0 hE1 hE2 hE3 hE4
    generalize ckCache (room, lease, bl, en) = e at *
    repeat' (first
      | (simp -implicitDefEqProofs only [*, frBlobs, frEntries, zr, Nat.reduceAdd, Nat.reduceSub, Nat.reduceMul, Nat.reduceLT, Nat.reduceLeDiff, Nat.reduceEqDiff, Nat.reduceBEq, reduceIte, reduceCtorEq, Int.reduceLE, Int.reduceLT, Int.reduceToNat, Int.reduceEq, Int.reduceNe])
      | ((first | apply condS_splitN | apply condS_split | apply guardS_splitTN | apply guardS_splitFN | apply guardD_splitTN | apply guardD_splitFN | apply guardS_splitT | apply guardS_splitF | apply guardD_splitT | apply guardD_splitF) <;> intro hc)
      | (refine callP0 rfl ?_)
      | (refine callD0 rfl ?_)
      | (refine cP (hck) ?_)
      | (refine cD (hck) ?_)
      | (refine cF (hck) ?_)
      | (refine cO (hck) ?_)
      | fail)
    exact retw_errn
  have hO := hok h0
  rw [h0] at hck
  replace hE2 := hE2 h0
  replace hE3 := hE3 h0
  replace hE4 := hE4 h0
  clear hok h0 hE1
  cases h1 : inRg room2 0 1000000000
  · rw [h1] at hw2
    have he : er = 1 := by
      cases h2 : inRg at_ 0 1000000000
      · exact hE2 h2
      · exact hE3 h2 h1
    subst he
    rw [if_pos (by decide)]
    clear hO h1 hE2 hE3 hE4 hw
    repeat' (first
      | (simp -implicitDefEqProofs only [*, frBlobs, frEntries, zr, Nat.reduceAdd, Nat.reduceSub, Nat.reduceMul, Nat.reduceLT, Nat.reduceLeDiff, Nat.reduceEqDiff, Nat.reduceBEq, reduceIte, reduceCtorEq, Int.reduceLE, Int.reduceLT, Int.reduceToNat, Int.reduceEq, Int.reduceNe])
      | ((first | apply condS_splitN | apply condS_split | apply guardS_splitTN | apply guardS_splitFN | apply guardD_splitTN | apply guardD_splitFN | apply guardS_splitT | apply guardS_splitF | apply guardD_splitT | apply guardD_splitF) <;> intro hc)
      | (refine callP0 rfl ?_)
      | (refine callD0 rfl ?_)
      | (refine cP (hck) ?_)
      | (refine cD (hck) ?_)
      | (refine cF (hck) ?_)
      | (refine cO (hck) ?_)
      | (refine cP (hw2) ?_)
      | (refine cD (hw2) ?_)
      | (refine cF (hw2) ?_)
      | (refine cO (hw2) ?_)
      | fail)
    exact retw_errn
  rw [h1] at hw2
  cases h2 : inRg at_ 0 1000000000
  · rw [h2] at hw
    obtain rfl := hE2 h2
    rw [if_pos (by decide)]
    clear hO h1 h2 hE2 hE3 hE4
    repeat' (first
      | (simp -implicitDefEqProofs only [*, frBlobs, frEntries, zr, Nat.reduceAdd, Nat.reduceSub, Nat.reduceMul, Nat.reduceLT, Nat.reduceLeDiff, Nat.reduceEqDiff, Nat.reduceBEq, reduceIte, reduceCtorEq, Int.reduceLE, Int.reduceLT, Int.reduceToNat, Int.reduceEq, Int.reduceNe])
      | ((first | apply condS_splitN | apply condS_split | apply guardS_splitTN | apply guardS_splitFN | apply guardD_splitTN | apply guardD_splitFN | apply guardS_splitT | apply guardS_splitF | apply guardD_splitT | apply guardD_splitF) <;> intro hc)
      | (refine callP0 rfl ?_)
      | (refine callD0 rfl ?_)
      | (refine cP (hck) ?_)
      | (refine cD (hck) ?_)
      | (refine cF (hck) ?_)
      | (refine cO (hck) ?_)
      | (refine cP (hw2) ?_)
      | (refine cD (hw2) ?_)
      | (refine cF (hw2) ?_)
      | (refine cO (hw2) ?_)
      | (refine cP (hw) ?_)
      | (refine cD (hw) ?_)
      | (refine cF (hw) ?_)
      | (refine cO (hw) ?_)
      | fail)
    exact retw_errn
  rw [h2] at hw
  have hE := hE4 h2 h1
  clear hE2 hE3 hE4
  have hcp := copied_f (room, lease, bl, en) (by have := hO.b3; simp only at this ⊢; omega) (by have := hO.e3; simp only at this ⊢; omega) (fun e he => by have := hO.refs e he; omega)
  have hb5 : bl.length ≤ 100000 := by have := hO.b3; simp only at this; omega
  have hsl := stay_leav (bl := bl) (at_ := at_)
  by_cases h4 : sumSz (leavV bl at_) < shrOver (room, lease, bl, en) room2
  · rw [if_pos h4] at hE
    subst hE
    rw [if_pos (by decide)]
    have hsp := spaceR_no room lease bl en room2 at_ hb5 hO.sz (by unfold shrOver at h4; simp only at h4; omega)
    clear hO h1 h2 h4 hsl
    repeat' (first
      | (simp -implicitDefEqProofs only [*, frBlobs, frEntries, zr, Nat.reduceAdd, Nat.reduceSub, Nat.reduceMul, Nat.reduceLT, Nat.reduceLeDiff, Nat.reduceEqDiff, Nat.reduceBEq, reduceIte, reduceCtorEq, Int.reduceLE, Int.reduceLT, Int.reduceToNat, Int.reduceEq, Int.reduceNe])
      | ((first | apply condS_splitN | apply condS_split | apply guardS_splitTN | apply guardS_splitFN | apply guardD_splitTN | apply guardD_splitFN | apply guardS_splitT | apply guardS_splitF | apply guardD_splitT | apply guardD_splitF) <;> intro hc)
      | (refine callP0 rfl ?_)
      | (refine callD0 rfl ?_)
      | (refine cP (hck) ?_)
      | (refine cD (hck) ?_)
      | (refine cF (hck) ?_)
      | (refine cO (hck) ?_)
      | (refine cP (hw2) ?_)
      | (refine cD (hw2) ?_)
      | (refine cF (hw2) ?_)
      | (refine cO (hw2) ?_)
      | (refine cP (hw) ?_)
      | (refine cD (hw) ?_)
      | (refine cF (hw) ?_)
      | (refine cO (hw) ?_)
      | fail)
    refine callN rfl hcp rfl (LeL.refl _) rfl (by first | exact free_mk rfl | exact free_mk (by simp) | (repeat (first | exact free_0 | exact free_mk rfl | exact free_mk (by simp) | refine free_upd rfl ?_ | refine free_kill ?_))) ?_
    repeat' (first
      | (simp -implicitDefEqProofs only [*, nextCs, nextC, zr, Nat.reduceAdd, Nat.reduceSub, Nat.reduceMul, Nat.reduceLT, Nat.reduceLeDiff, Nat.reduceEqDiff, Nat.reduceBEq, reduceIte, reduceCtorEq, Int.reduceLE, Int.reduceLT, Int.reduceToNat, Int.reduceEq, Int.reduceNe])
      | ((first | apply condS_splitN | apply condS_split | apply guardS_splitTN | apply guardS_splitFN | apply guardD_splitTN | apply guardD_splitFN | apply guardS_splitT | apply guardS_splitF | apply guardD_splitT | apply guardD_splitF) <;> intro hc)
      | (refine callP0 rfl ?_)
      | (refine callD0 rfl ?_)
      | fail)
    refine callPm rfl hsp rfl 2029 1 [.f (.int .i64 room), .f (.int .i64 lease), .sl 29 1 5 0 bl.length, .sl 1029 1 3 0 en.length] [] [.f (.int .i64 room2), .f (.int .i64 at_)] rfl rfl ⟨rfl, rfl, .inr ⟨_, _, rfl, rfl, by rw [row_len (sz := 5) (fun _ => rfl)]; exact Nat.le_refl _⟩, .inr ⟨_, _, rfl, rfl, by rw [row_len (sz := 3) (fun _ => rfl)]; exact Nat.le_refl _⟩, rfl⟩ rfl (by simp [idsC, idsS]) (by simp [idsC, idsS]) (LeL.refl _) rfl (by first | exact free_mk rfl | exact free_mk (by simp) | (repeat (first | exact free_0 | exact free_mk rfl | exact free_mk (by simp) | refine free_upd rfl ?_ | refine free_kill ?_))) ?_
    repeat' (first
      | (simp -implicitDefEqProofs only [*, zr, Nat.reduceAdd, Nat.reduceSub, Nat.reduceMul, Nat.reduceLT, Nat.reduceLeDiff, Nat.reduceEqDiff, Nat.reduceBEq, reduceIte, reduceCtorEq, Int.reduceLE, Int.reduceLT, Int.reduceToNat, Int.reduceEq, Int.reduceNe])
      | ((first | apply condS_splitN | apply condS_split | apply guardS_splitTN | apply guardS_splitFN | apply guardD_splitTN | apply guardD_splitFN | apply guardS_splitT | apply guardS_splitF | apply guardD_splitT | apply guardD_splitF) <;> intro hc)
      | (refine callP0 rfl ?_)
      | (refine callD0 rfl ?_)
      | fail)
    exact retw_errn
  · rw [if_neg h4] at hE
    subst hE
    rw [if_neg (by decide)]
    have hsp := spaceR_yes room lease bl en room2 at_ hb5 hO.sz hO.rise (by unfold shrOver at h4; simp only at h4; omega)
    have hgo : shrGone (room, lease, bl, en) room2 at_ = clrGone bl at_ (sumSz bl - room2) := rfl
    have hsh : shrunk (room, lease, bl, en) room2 at_ = (room2, lease, keepL (fun b : Blob => hasS b.1 (clrGone bl at_ (sumSz bl - room2))) bl, en) := rfl
    rw [hgo, hsh]
    clear hO h1 h2 h4 hsl hgo hsh
    generalize clrGone bl at_ (sumSz bl - room2) = gone at *
    generalize keepL (fun b : Blob => hasS b.1 gone) bl = kp at *
    repeat' (first
      | (simp -implicitDefEqProofs only [*, frBlobs, frEntries, zr, Nat.reduceAdd, Nat.reduceSub, Nat.reduceMul, Nat.reduceLT, Nat.reduceLeDiff, Nat.reduceEqDiff, Nat.reduceBEq, reduceIte, reduceCtorEq, Int.reduceLE, Int.reduceLT, Int.reduceToNat, Int.reduceEq, Int.reduceNe])
      | ((first | apply condS_splitN | apply condS_split | apply guardS_splitTN | apply guardS_splitFN | apply guardD_splitTN | apply guardD_splitFN | apply guardS_splitT | apply guardS_splitF | apply guardD_splitT | apply guardD_splitF) <;> intro hc)
      | (refine callP0 rfl ?_)
      | (refine callD0 rfl ?_)
      | (refine cP (hck) ?_)
      | (refine cD (hck) ?_)
      | (refine cF (hck) ?_)
      | (refine cO (hck) ?_)
      | (refine cP (hw2) ?_)
      | (refine cD (hw2) ?_)
      | (refine cF (hw2) ?_)
      | (refine cO (hw2) ?_)
      | (refine cP (hw) ?_)
      | (refine cD (hw) ?_)
      | (refine cF (hw) ?_)
      | (refine cO (hw) ?_)
      | fail)
    refine callN rfl hcp rfl (LeL.refl _) rfl (by first | exact free_mk rfl | exact free_mk (by simp) | (repeat (first | exact free_0 | exact free_mk rfl | exact free_mk (by simp) | refine free_upd rfl ?_ | refine free_kill ?_))) ?_
    repeat' (first
      | (simp -implicitDefEqProofs only [*, nextCs, nextC, zr, Nat.reduceAdd, Nat.reduceSub, Nat.reduceMul, Nat.reduceLT, Nat.reduceLeDiff, Nat.reduceEqDiff, Nat.reduceBEq, reduceIte, reduceCtorEq, Int.reduceLE, Int.reduceLT, Int.reduceToNat, Int.reduceEq, Int.reduceNe])
      | ((first | apply condS_splitN | apply condS_split | apply guardS_splitTN | apply guardS_splitFN | apply guardD_splitTN | apply guardD_splitFN | apply guardS_splitT | apply guardS_splitF | apply guardD_splitT | apply guardD_splitF) <;> intro hc)
      | (refine callP0 rfl ?_)
      | (refine callD0 rfl ?_)
      | fail)
    refine callPm rfl hsp rfl 2029 1 [.f (.int .i64 room), .f (.int .i64 lease), .sl 29 1 5 0 bl.length, .sl 1029 1 3 0 en.length] [] [.f (.int .i64 room2), .f (.int .i64 at_)] rfl rfl ⟨rfl, rfl, .inr ⟨_, _, rfl, rfl, by rw [row_len (sz := 5) (fun _ => rfl)]; exact Nat.le_refl _⟩, .inr ⟨_, _, rfl, rfl, by rw [row_len (sz := 3) (fun _ => rfl)]; exact Nat.le_refl _⟩, rfl⟩ rfl (by simp [idsC, idsS]) (by simp [idsC, idsS]) (LeL.refl _) rfl (by first | exact free_mk rfl | exact free_mk (by simp) | (repeat (first | exact free_0 | exact free_mk rfl | exact free_mk (by simp) | refine free_upd rfl ?_ | refine free_kill ?_))) ?_
    repeat' (first
      | (simp -implicitDefEqProofs only [*, zr, Nat.reduceAdd, Nat.reduceSub, Nat.reduceMul, Nat.reduceLT, Nat.reduceLeDiff, Nat.reduceEqDiff, Nat.reduceBEq, reduceIte, reduceCtorEq, Int.reduceLE, Int.reduceLT, Int.reduceToNat, Int.reduceEq, Int.reduceNe])
      | ((first | apply condS_splitN | apply condS_split | apply guardS_splitTN | apply guardS_splitFN | apply guardD_splitTN | apply guardD_splitFN | apply guardS_splitT | apply guardS_splitF | apply guardD_splitT | apply guardD_splitF) <;> intro hc)
      | (refine callP0 rfl ?_)
      | (refine callD0 rfl ?_)
      | fail)
    exact ⟨_, [.agg [.f (.int .i64 room2), .f (.int .i64 lease), .sl 34 1 5 0 kp.length, .sl 1034 1 3 0 en.length], .sl 2034 1 1 0 gone.length, .f (.int .i64 0)], rfl, .refl _, ⟨⟨rfl, rfl, .inr ⟨34, 1, rfl, (by rw [List.append_nil]; rfl), by rw [List.append_nil, row_len (sz := 5) (fun _ => rfl)]; exact Nat.le_refl _⟩, .inr ⟨1034, 1, rfl, (by rw [List.append_nil]; rfl), by rw [List.append_nil, row_len (sz := 3) (fun _ => rfl)]; exact Nat.le_refl _⟩, rfl⟩, .inr ⟨2034, 1, rfl, rfl, by simp⟩, rfl, rfl⟩, by simp [idsS, idsC]⟩
end Go.Proofs.YtigpcfneodohkaaDoor
