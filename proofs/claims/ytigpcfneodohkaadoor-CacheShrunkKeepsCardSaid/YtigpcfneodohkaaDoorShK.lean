/-
  What is shrunk: plain law; the law's walk. No statement of the seat is proved here; no conditions.
-/
import Derived.Test.YtigpcfneodohkaaDoorShr
import Derived.Test.YtigpcfneodohkaaDoorCaX
import Derived.Test.YtigpcfneodohkaaDoorFrz2
import Derived.Test.YtigpcfneodohkaaDoorLvF
import Derived.Test.YtigpcfneodohkaaDoorLowA
namespace Go.Proofs.YtigpcfneodohkaaDoor
open Go.RowKit Go.Shelf
set_option linter.unusedVariables false
set_option linter.unusedSimpArgs false
set_option maxRecDepth 100000

theorem sum_perm {l m : List Blob} (h : l.Perm m) : sumSz l = sumSz m := by
  induction h with
  | nil => rfl
  | cons x _ ih => simp only [sumSz, ih]
  | swap x y l => simp only [sumSz]; omega
  | trans _ _ h1 h2 => exact h1.trans h2
/-- What is taken away is as much as it has, if it stands in the list. -/
theorem sum_split (p : Blob → Bool) : ∀ l : List Blob, sumSz (keepL p l) + sumSz (l.filter p) = sumSz l
  | [] => rfl
  | b :: l => by
    have ih := sum_split p l
    unfold keepL at ih ⊢
    cases hb : p b <;> simp [hb, sumSz] <;> omega
/-- Those of a list whose digests stand in a part of it, are the part. -/
theorem gone_perm {bl T : List Blob} (hr : RiseB bl) (hn : T.Nodup) (hs : ∀ b ∈ T, b ∈ bl) : (bl.filter fun b => hasS b.1 (digsB T)).Perm T := by
  refine (List.perm_ext_iff_of_nodup ?_ hn).2 fun b => ?_
  · refine List.Nodup.sublist List.filter_sublist ?_
    exact hr.imp fun h e => by subst e; rw [strLt_irrefl] at h; cases h
  · rw [List.mem_filter, hasS_iff]
    constructor
    · rintro ⟨h1, h2⟩
      unfold digsB at h2
      obtain ⟨d, h3, h4⟩ := List.mem_map.1 h2
      rw [← hr.inj (hs d h3) h1 h4]; exact h3
    · intro h
      exact ⟨hs b h, List.mem_map.2 ⟨b, h, rfl⟩⟩
theorem cut_le : ∀ (l : List Blob) (over : Int), cutN over l ≤ l.length
  | [], _ => Nat.le_refl _
  | b :: l, over => by
    unfold cutN
    split
    · exact Nat.zero_le _
    · have := cut_le l (over - b.2.1); simp only [List.length_cons]; omega
theorem cut_sum : ∀ (l : List Blob) (over : Int), over ≤ sumSz l → over ≤ sumSz (l.take (cutN over l))
  | [], over, h => by simpa [sumSz] using h
  | b :: l, over, h => by
    unfold cutN
    split
    · simp only [List.take_zero, sumSz]; assumption
    · simp only [List.take_succ_cons, sumSz] at h ⊢
      have := cut_sum l (over - b.2.1) (by omega)
      omega
theorem cut_zero {l : List Blob} {over : Int} (h : over ≤ 0) : cutN over l = 0 := by
  cases l with
  | nil => rfl
  | cons b l => rw [cutN, if_pos h]
theorem leav_nodup {bl : List Blob} {at_ : Int} (hr : RiseB bl) : (leavV bl at_).Nodup := by
  unfold leavV
  rw [(sortT_perm ltB _).nodup_iff]
  exact (ordB (keepL_rise hr)).nd
/-- The sum of what stays. -/
theorem clr_sum {bl : List Blob} {at_ over : Int} (hr : RiseB bl) (h : over ≤ sumSz (leavV bl at_)) : sumSz (keepL (fun b : Blob => hasS b.1 (clrGone bl at_ over)) bl) ≤ sumSz bl - over := by
  have h1 := sum_split (fun b : Blob => hasS b.1 (clrGone bl at_ over)) bl
  have h2 : (bl.filter fun b : Blob => hasS b.1 (clrGone bl at_ over)).Perm ((leavV bl at_).take (cutN over (leavV bl at_))) :=
    gone_perm hr ((leav_nodup hr).sublist (List.take_sublist _ _)) fun b hb => (leav_mem.1 (List.mem_of_mem_take hb)).1
  have h3 := sum_perm h2
  have h4 := cut_sum (leavV bl at_) over h
  omega
theorem shrErr_zero {c : Cache} {room at_ : Int} (h : shrErr c room at_ = 0) : atE c at_ = 0 ∧ inRg room 0 1000000000 = true ∧ shrOver c room ≤ sumSz (leavV c.2.2.1 at_) := by
  unfold shrErr at h
  by_cases h0 : atE c at_ = 0
  · rw [if_neg (fun h => h h0)] at h
    cases h1 : inRg room 0 1000000000
    · rw [h1] at h; cases h
    · rw [h1, if_pos rfl] at h
      by_cases h2 : sumSz (leavV c.2.2.1 at_) < shrOver c room
      · rw [if_pos h2] at h; cases h
      · exact ⟨h0, rfl, by omega⟩
  · rw [if_pos h0] at h; exact absurd h h0
theorem shrunk_right {c : Cache} {room at_ : Int} (h : CRight c) (h0 : shrErr c room at_ = 0) : CRight (shrunk c room at_) := by
  obtain ⟨h1, h2, h3⟩ := shrErr_zero h0
  refine ⟨h2, h.lease, Nat.le_trans (keep_le _ _) h.blen, fun b hb => h.bok b (mem_of_keep hb), rising_keep _ h.brise, ?_, h.elen, h.eok, h.erise⟩
  have := clr_sum (riseB_of h.brise) h3
  unfold shrOver at this
  show sumSz (keepL (fun b : Blob => hasS b.1 (clrGone c.2.2.1 at_ (shrOver c room))) c.2.2.1) ≤ room
  unfold shrOver
  omega
/-- .. with frozen results. -/
def shrRz (c : Cache) (room at_ : Int) : List RS :=
  if shrErr c room at_ ≠ 0 then [.agg (rcCache emptyC), .c (.v (frStrs [])), .c (.v (.int .i64 (shrErr c room at_)))]
  else [.agg (rcCache (shrunk c room at_)), .c (.v (frStrs (shrGone c room at_))), .c (.v (.int .i64 0))]
theorem rcOwn_fz (c : Cache) (x y : List FV) : RcsFz (rcOwn c x y) (rcCache c) :=
  ⟨rfl, rfl, rcF_row (enc := fBlob) (fun _ => rfl), rcF_row (enc := fEntry) (fun _ => rfl), trivial⟩
theorem Shrunk_z (c : Cache) (room at_ : Int) (hb : CBound c) : FRet Tryd.prog 8 [aCache c, .f (.int .i64 room), .f (.int .i64 at_)] (shrRz c room at_) := by
  refine (Shrunk_f c room at_ hb).frz2 ?_
  unfold shrRs shrRz
  split
  · exact ⟨rcOwn_fz _ _ _, rfl, rfl, trivial⟩
  · exact ⟨rcOwn_fz _ _ _, rfl, rfl, trivial⟩
theorem next_z (c : Cache) (at_ : Int) (hb : CBound c) (h : atE c at_ = 0) : FRet Tryd.prog 9 [aCache c, .f (.int .i64 at_)] [.c (.v (frStrs (digsB (leavV c.2.2.1 at_)))), .c (.v (.int .i64 0))] := by
  have hc := cok_of (atE_cache h)
  refine (next_ok c at_ hb (by have := hc.blen; omega) (riseB_of hc.rb) h).frz2 ⟨?_, rfl, trivial⟩
  have := rcF_row0 (enc := encS) (l := digsB (leavV c.2.2.1 at_)) (fun _ => rfl)
  have e1 : (digsB (leavV c.2.2.1 at_)).length = (leavV c.2.2.1 at_).length := by unfold digsB; exact List.length_map _
  have e2 : rowF encS (digsB (leavV c.2.2.1 at_)) = (digsB (leavV c.2.2.1 at_)).map .str := by
    unfold rowF encS
    generalize digsB (leavV c.2.2.1 at_) = l
    induction l with
    | nil => rfl
    | cons a l ih => simp only [List.map_cons, List.flatten_cons, ih]; rfl
  rw [e1, e2] at this
  exact this
/-- What goes in the room that is used: nothing. -/
theorem shrGone_same {c : Cache} {at_ : Int} : shrGone c (sumSz c.2.2.1) at_ = [] := by
  unfold shrGone clrGone shrOver
  rw [cut_zero (by omega)]; rfl
theorem shrGone_take {c : Cache} {room at_ : Int} : shrGone c room at_ = (digsB (leavV c.2.2.1 at_)).take (shrGone c room at_).length := by
  unfold shrGone clrGone
  have := cut_le (leavV c.2.2.1 at_) (shrOver c room)
  generalize cutN (shrOver c room) (leavV c.2.2.1 at_) = k at *
  unfold digsB
  rw [List.length_map, List.length_take, Nat.min_eq_left this, List.map_take]
set_option maxHeartbeats 2000000 in
theorem shrunkKeeps_law (c : Cache) (room at_ : Int) (hb : SBound c) : FRet Tryd.prog 3 [aCache c, .f (.int .i64 room), .f (.int .i64 at_)] [.c (.v (.bool true))] := by
  have kU := Used_f c hb.1
  have k2 := Shrunk_z c room at_ hb.1
  unfold shrRz at k2
  by_cases h0 : ckCache c = 0
  case neg =>
    rw [if_neg h0] at kU
    have hd : decide (ckCache c = 0) = false := dcF h0
    generalize ckCache c = e at *
    clear h0 k2
    obtain ⟨r0, lease, bl, en⟩ := c
    refine FCall.of_ax low_law7_CacheShrunkKeeps ?_
    dsimp only [l_law7_CacheShrunkKeeps, aCache] at kU ⊢
    refine srun_sound 300 _ _ _ _ ?_
    repeat' (first
      | (simp -implicitDefEqProofs only [*, zr, Nat.reduceAdd, Nat.reduceSub, Nat.reduceMul, Nat.reduceLT, Nat.reduceLeDiff, Nat.reduceEqDiff, Nat.reduceBEq, reduceIte, reduceCtorEq, Int.reduceLE, Int.reduceLT, Int.reduceToNat, Int.reduceEq, Int.reduceNe])
      | ((first | apply condS_splitN | apply condS_split | apply guardS_splitTN | apply guardS_splitFN | apply guardD_splitTN | apply guardD_splitFN | apply guardS_splitT | apply guardS_splitF | apply guardD_splitT | apply guardD_splitF) <;> intro hc)
      | (refine callP0 rfl ?_)
      | (refine callD0 rfl ?_)
      | (refine cP (kU) ?_)
      | (refine cD (kU) ?_)
      | (refine cF (kU) ?_)
      | (refine cP (awake_f) ?_)
      | (refine cD (awake_f) ?_)
      | (refine cF (awake_f) ?_)
      | fail)
    exact ret_v
  rw [if_pos h0, h0] at kU
  have hR := right_iff.1 h0
  have k1 := Shrunk_z c (sumSz c.2.2.1) at_ hb.1
  have hg1 : ∃ x l e, FRet Tryd.prog 8 [aCache c, .f (.int .i64 (sumSz c.2.2.1)), .f (.int .i64 at_)] [.agg (rcCache x), .c (.v (frStrs l)), .c (.v (.int .i64 e))] ∧ l = [] := by
    unfold shrRz at k1
    split at k1
    · exact ⟨_, _, _, k1, rfl⟩
    · exact ⟨_, _, _, k1, shrGone_same⟩
  clear k1
  obtain ⟨x1, l1, e1, k1, rfl⟩ := hg1
  obtain ⟨xr, xl, xb, xe⟩ := x1
  by_cases h1 : shrErr c room at_ = 0
  case neg =>
    rw [if_pos h1] at k2
    have hd : decide (shrErr c room at_ = 0) = false := dcF h1
    generalize shrErr c room at_ = e2 at *
    generalize sumSz c.2.2.1 = n at *
    clear h0 h1 hR
    obtain ⟨r0, lease, bl, en⟩ := c
    refine FCall.of_ax low_law7_CacheShrunkKeeps ?_
    dsimp only [l_law7_CacheShrunkKeeps, aCache, emptyC] at kU k1 k2 ⊢
    refine srun_sound 300 _ _ _ _ ?_
    have hz : decide (((0 : Nat) : Int) = 0) = true := rfl
    have hz2 : decide ((0 : Int) < ((0 : Nat) : Int)) = false := rfl
    replace kU := hide kU
    replace k1 := hide k1
    replace k2 := hide k2
    repeat' (first
      | (simp -implicitDefEqProofs only [*, frBlobs, frEntries, frStrs, rcCache, List.map_nil, List.length_nil, zr, Nat.reduceAdd, Nat.reduceSub, Nat.reduceMul, Nat.reduceLT, Nat.reduceLeDiff, Nat.reduceEqDiff, Nat.reduceBEq, reduceIte, reduceCtorEq, Int.reduceLE, Int.reduceLT, Int.reduceToNat, Int.reduceEq, Int.reduceNe])
      | ((first | apply condS_splitN | apply condS_split | apply guardS_splitTN | apply guardS_splitFN | apply guardD_splitTN | apply guardD_splitFN | apply guardS_splitT | apply guardS_splitF | apply guardD_splitT | apply guardD_splitF) <;> intro hc)
      | (refine callP0 rfl ?_)
      | (refine callD0 rfl ?_)
      | (refine cP (kU.out) ?_)
      | (refine cD (kU.out) ?_)
      | (refine cF (kU.out) ?_)
      | (refine cP (k1.out) ?_)
      | (refine cD (k1.out) ?_)
      | (refine cF (k1.out) ?_)
      | (refine cP (k2.out) ?_)
      | (refine cD (k2.out) ?_)
      | (refine cF (k2.out) ?_)
      | (refine cP (awake_f) ?_)
      | (refine cD (awake_f) ?_)
      | (refine cF (awake_f) ?_)
      | fail)
    all_goals exact ret_v
  rw [if_neg (fun h => h h1)] at k2
  have hR2 := shrunk_right hR h1
  have hok2 : ckCache (shrunk c room at_) = 0 := right_iff.2 hR2
  obtain ⟨hat, -, -⟩ := shrErr_zero h1
  have kN := next_z c at_ hb.1 hat
  have hb2 : CBound (shrunk c room at_) := by
    refine ⟨?_, ?_, fun e he => hb.1.2.2 e he⟩
    · have := hR2.blen; omega
    · have := hR2.elen; omega
  have kV := Used_f (shrunk c room at_) hb2
  rw [if_pos hok2, hok2] at kV
  have hsum : decide (sumSz (shrunk c room at_).2.2.1 ≤ room) = true := by
    have h2 : sumSz (shrunk c room at_).2.2.1 ≤ (shrunk c room at_).1 := hR2.bsum
    exact decide_eq_true h2
  have hpre := shrGone_take (c := c) (room := room) (at_ := at_)
  have hroom : (shrunk c room at_).1 = room := rfl
  have hLl : (digsB (leavV c.2.2.1 at_)).length ≤ 1000000 := by
    unfold digsB; rw [List.length_map]; exact leav_len (by have := hR.blen; omega)
  generalize shrGone c room at_ = gone at *
  generalize digsB (leavV c.2.2.1 at_) = L at *
  generalize shrunk c room at_ = s at *
  generalize sumSz c.2.2.1 = n at *
  have hle : gone.length ≤ L.length := by
    have := congrArg List.length hpre
    rw [List.length_take] at this; omega
  have hle2 : decide ((gone.length : Int) ≤ (L.length : Int)) = true := decide_eq_true (by omega)
  have kE := equalS_f gone gone (by omega)
  rw [show decide (gone = gone) = true by simp] at kE
  have hq : List.take gone.length (List.map (fun s => [FV.str s]) L) = List.map (fun s => [FV.str s]) gone := by
    conv => rhs; rw [hpre]
    rw [List.map_take]
  have hle3 : ((gone.length : Int) ≤ (L.length : Int)) = True := by rw [eq_iff_iff, iff_true]; omega
  clear hpre hLl hle hle2
  obtain ⟨sr, sl, sb, se⟩ := s
  obtain ⟨r0, lease, bl, en⟩ := c
  simp only at hroom hsum
  subst hroom
  clear h0 h1 hR hR2 hok2 hat hb2
  refine FCall.of_ax low_law7_CacheShrunkKeeps ?_
  dsimp only [l_law7_CacheShrunkKeeps, aCache] at kU k1 k2 kV kN ⊢
  refine srun_sound 300 _ _ _ _ ?_
  have hz : decide (((0 : Nat) : Int) = 0) = true := rfl
  have hz2 : decide ((0 : Int) < ((0 : Nat) : Int)) = false := rfl
  replace kU := hide kU
  replace k1 := hide k1
  replace k2 := hide k2
  replace kV := hide kV
  replace kN := hide kN
  replace kE := hide kE
  repeat' (first
    | (simp -implicitDefEqProofs only [*, frBlobs, frEntries, frStrs, rcCache, List.map_nil, List.length_nil, decide_true, List.drop_zero, zr, Nat.reduceAdd, Nat.reduceSub, Nat.reduceMul, Nat.reduceLT, Nat.reduceLeDiff, Nat.reduceEqDiff, Nat.reduceBEq, reduceIte, reduceCtorEq, Int.reduceLE, Int.reduceLT, Int.reduceToNat, Int.reduceEq, Int.reduceNe])
    | ((first | apply condS_splitN | apply condS_split | apply guardS_splitTN | apply guardS_splitFN | apply guardD_splitTN | apply guardD_splitFN | apply guardS_splitT | apply guardS_splitF | apply guardD_splitT | apply guardD_splitF) <;> intro hc)
    | (refine callP0 rfl ?_)
    | (refine callD0 rfl ?_)
    | (refine cP (kU.out) ?_)
    | (refine cD (kU.out) ?_)
    | (refine cF (kU.out) ?_)
    | (refine cP (k1.out) ?_)
    | (refine cD (k1.out) ?_)
    | (refine cF (k1.out) ?_)
    | (refine cP (k2.out) ?_)
    | (refine cD (k2.out) ?_)
    | (refine cF (k2.out) ?_)
    | (refine cP (kV.out) ?_)
    | (refine cD (kV.out) ?_)
    | (refine cF (kV.out) ?_)
    | (refine cP (kN.out) ?_)
    | (refine cD (kN.out) ?_)
    | (refine cF (kN.out) ?_)
    | (refine cP (kE.out) ?_)
    | (refine cD (kE.out) ?_)
    | (refine cF (kE.out) ?_)
    | (refine cP (awake_f) ?_)
    | (refine cD (awake_f) ?_)
    | (refine cF (awake_f) ?_)
    | fail)
  all_goals exact ret_v
theorem shrunkKeeps_any (cs : List Value) (c : Cache) (room at_ : Int) (W : World) (h : rCache W W.heap.size c cs) : Calls Tryd.prog 3 #[.agg cs.toArray, .int .i64 room, .int .i64 at_] W fun e w' => e = .returned (.bool true) ∧ Below W.heap.size W w' :=
  (shrunkKeeps_law c room at_ (cache_bound h)).callsA rfl (args3 (fz_cache.agg len_cache h) (.f (.int _ _)) (.f (.int _ _)))
end Go.Proofs.YtigpcfneodohkaaDoor
