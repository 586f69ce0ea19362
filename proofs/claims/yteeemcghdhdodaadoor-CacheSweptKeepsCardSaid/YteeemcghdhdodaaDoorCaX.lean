/-
  Right caches, told by their parts; what is swept is right. No statement of the seat is proved here; no conditions.
-/
import Derived.Test.YteeemcghdhdodaaDoorCaP
import Derived.Test.YteeemcghdhdodaaDoorCaQ
import Derived.Test.YteeemcghdhdodaaDoorCaL
namespace Go.Proofs.YteeemcghdhdodaaDoor
open Go.RowKit Go.Shelf
set_option linter.unusedVariables false
set_option linter.unusedSimpArgs false
set_option maxRecDepth 100000

theorem leS_of_lt {a b : ByteArray} (h : strLt a b = true) : leS b a = false := by
  unfold leS
  rw [strLt_asymm h, Bool.false_or, decide_eq_false_iff_not]
  exact fun e => strLt_ne h e.symm
theorem prevV_ok {α : Type} {key : α → ByteArray} {l : List α} {m : Nat} {b : α} (hr : Rising key l) (hb : l[m]? = some b) : prevV l m (fun e => if leS (key b) (key e) = true then (8 : Int) else 0) = 0 := by
  unfold prevV
  split
  · rfl
  · rename_i h
    split
    · rename_i e he
      show (if leS (key b) (key e) = true then (8 : Int) else 0) = 0
      rw [leS_of_lt (hr (m - 1) m e b (by omega) he hb)]; rfl
    · rfl
theorem rising_prev {α : Type} {key : α → ByteArray} {l : List α} (h : ∀ (m : Nat) b, l[m]? = some b → prevV l m (fun e => if leS (key b) (key e) = true then (8 : Int) else 0) = 0) : Rising key l := rising_of fun i x y hx hy =>
  leS_false (prevV_zero (p := fun e => leS (key y) (key e)) hx (by decide) (h (i + 1) y hy))
def blobOk (b : Blob) : Bool := isDig b.1 && (inRg b.2.1 0 100000000 && inRg b.2.2.1 0 1000000000 && inRg b.2.2.2.1 0 1001000000 && inRg b.2.2.2.2 0 3000)
theorem blobErr_iff {l : List Blob} {m : Nat} {b : Blob} (hb : l[m]? = some b) : blobErr l m = 0 ↔ blobOk b = true ∧ prevV l m (fun e => if leS b.1 e.1 = true then (8 : Int) else 0) = 0 := by
  rw [blobErr_of hb, blobOk]
  generalize isDig b.1 = a
  generalize (inRg b.2.1 0 100000000 && inRg b.2.2.1 0 1000000000 && inRg b.2.2.2.1 0 1001000000 && inRg b.2.2.2.2 0 3000) = r
  cases a <;> cases r <;> simp
theorem blobs_iff {l : List Blob} : (∀ m, m < l.length → blobErr l m = 0) ↔ (∀ b ∈ l, blobOk b = true) ∧ Rising (fun b : Blob => b.1) l := by
  constructor
  · intro h
    refine ⟨fun b hb => ?_, rising_prev fun m b hb => ((blobErr_iff hb).1 (h m (List.getElem?_eq_some_iff.1 hb).1)).2⟩
    obtain ⟨m, hm⟩ := List.mem_iff_getElem?.1 hb
    exact ((blobErr_iff hm).1 (h m (List.getElem?_eq_some_iff.1 hm).1)).1
  · rintro ⟨h1, h2⟩ m hm
    obtain ⟨b, hb⟩ := get_some hm
    exact (blobErr_iff hb).2 ⟨h1 b (List.mem_of_getElem? hb), prevV_ok h2 hb⟩
def entOk (e : Entry) : Bool := isDig e.1 && (decide (ckDigsM e.2.1 200 = 0) && inRg e.2.2 0 1000000000)
theorem entErr_iff {l : List Entry} {m : Nat} {b : Entry} (hb : l[m]? = some b) : entErr l m = 0 ↔ entOk b = true ∧ prevV l m (fun e => if leS b.1 e.1 = true then (8 : Int) else 0) = 0 := by
  rw [entErr_of hb, entOk]
  generalize isDig b.1 = a
  generalize ckDigsM b.2.1 200 = k
  generalize inRg b.2.2 0 1000000000 = r
  by_cases hk : k = 0
  · cases a <;> cases r <;> simp [hk]
  · cases a <;> cases r <;> simp [hk]
theorem ents_iff {l : List Entry} : (∀ m, m < l.length → entErr l m = 0) ↔ (∀ b ∈ l, entOk b = true) ∧ Rising (fun b : Entry => b.1) l := by
  constructor
  · intro h
    refine ⟨fun b hb => ?_, rising_prev fun m b hb => ((entErr_iff hb).1 (h m (List.getElem?_eq_some_iff.1 hb).1)).2⟩
    obtain ⟨m, hm⟩ := List.mem_iff_getElem?.1 hb
    exact ((entErr_iff hm).1 (h m (List.getElem?_eq_some_iff.1 hm).1)).1
  · rintro ⟨h1, h2⟩ m hm
    obtain ⟨b, hb⟩ := get_some hm
    exact (entErr_iff hb).2 ⟨h1 b (List.mem_of_getElem? hb), prevV_ok h2 hb⟩
/-- A right cache, by its parts. -/
structure CRight (c : Cache) : Prop where
  room : inRg c.1 0 1000000000 = true
  lease : inRg c.2.1 0 1000000 = true
  blen : c.2.2.1.length ≤ 3000
  bok : ∀ b ∈ c.2.2.1, blobOk b = true
  brise : Rising (fun b : Blob => b.1) c.2.2.1
  bsum : sumSz c.2.2.1 ≤ c.1
  elen : c.2.2.2.length ≤ 1000
  eok : ∀ e ∈ c.2.2.2, entOk e = true
  erise : Rising (fun b : Entry => b.1) c.2.2.2
theorem right_iff {c : Cache} : ckCache c = 0 ↔ CRight c := by
  constructor
  · intro h
    have ho := cok_of h
    obtain ⟨b1, b2⟩ := blobs_iff.1 ho.berr
    obtain ⟨e1, e2⟩ := ents_iff.1 ho.eerr
    have hr := ho.room
    have hl := ho.lease
    exact ⟨by simp [inRg]; omega, by simp [inRg]; omega, ho.blen, b1, b2, ho.bsum, ho.elen, e1, e2⟩
  · intro h
    have hb := fe_none (blobs_iff.2 ⟨h.bok, h.brise⟩)
    have he := fe_none (ents_iff.2 ⟨h.eok, h.erise⟩)
    have h1 : ckBlobs c.2.2.1 c.1 = 0 := by
      unfold ckBlobs
      have := h.blen
      have := h.bsum
      rw [if_neg (by omega), hb, if_neg (by simp), if_neg (by omega)]
    unfold ckCache
    have := h.elen
    rw [h.room, h.lease, if_pos (by rfl), h1, if_neg (by simp), if_neg (by omega), he]
theorem mem_of_keep {α : Type} {p : α → Bool} {l : List α} {x : α} (h : x ∈ keepL p l) : x ∈ l := (mem_keep.1 h).1
theorem keep_le {α : Type} (p : α → Bool) (l : List α) : (keepL p l).length ≤ l.length := List.length_filter_le _ _
theorem blobOk_size {b : Blob} (h : blobOk b = true) : 0 ≤ b.2.1 := by
  simp [blobOk, inRg] at h; omega
theorem swept_right {c : Cache} (roots : List ByteArray) (at_ : Int) (h : CRight c) : CRight (swept c roots at_) :=
  ⟨h.room, h.lease, Nat.le_trans (keep_le _ _) h.blen, fun b hb => h.bok b (mem_of_keep hb), rising_keep _ h.brise,
    Int.le_trans (sum_keep _ _ fun b hb => blobOk_size (h.bok b hb)) h.bsum, Nat.le_trans (keep_le _ _) h.elen, fun b hb => h.eok b (mem_of_keep hb), rising_keep _ h.erise⟩
theorem wholeV_iff {c : Cache} {key : ByteArray} (hr : Rising (fun b : Entry => b.1) c.2.2.2) : wholeV c key = true ↔ ∃ e ∈ c.2.2.2, e.1 = key ∧ (missingOf c.2.2.1 e.2.1).length = 0 := by
  unfold wholeV
  cases hh : hasE c.2.2.2 key
  · constructor
    · intro h; split at h <;> simp at h
    · rintro ⟨e, h1, h2, _⟩
      have : hasE c.2.2.2 key = true := by
        unfold hasE hasK; rw [List.any_eq_true]; exact ⟨e, h1, by simpa using h2⟩
      rw [hh] at this; cases this
  · obtain ⟨e, hx, hek⟩ := hasE_at hr hh
    simp only [hx, Bool.true_and, decide_eq_true_eq]
    constructor
    · intro h; exact ⟨e, List.mem_of_getElem? hx, hek, h⟩
    · rintro ⟨e', h1, h2, h3⟩
      have := rising_inj hr e (List.mem_of_getElem? hx) e' h1 (by rw [hek, h2])
      rw [this]; exact h3
theorem whole_swept {c : Cache} {roots : List ByteArray} {at_ : Int} (h : CRight c) {key : ByteArray} (hk : key ∈ roots) : wholeV (swept c roots at_) key = wholeV c key := by
  have hu := rising_inj h.brise
  rw [Bool.eq_iff_iff, wholeV_iff h.erise, wholeV_iff (swept_right roots at_ h).erise]
  constructor
  · rintro ⟨e, h1, h2, h3⟩
    have he : e ∈ c.2.2.2 := mem_of_keep h1
    exact ⟨e, he, h2, (whole_again hu he (h2 ▸ hk)).1 h3⟩
  · rintro ⟨e, h1, h2, h3⟩
    refine ⟨e, ?_, h2, (whole_again hu h1 (h2 ▸ hk)).2 h3⟩
    show e ∈ keepL _ _
    rw [mem_keep]
    exact ⟨h1, by rw [hasS_iff.2 (h2 ▸ hk)]; rfl⟩
theorem digs_at {l : List ByteArray} (h : ckDigsM l 3000 = 0) : ∀ d ∈ l, isDig d = true := fun d hd => by
  unfold ckDigsM at h
  split at h
  · cases h
  · obtain ⟨m, hm⟩ := List.mem_iff_getElem?.1 hd
    have h1 := fe_zero h m (List.getElem?_eq_some_iff.1 hm).1
    rw [digErr_of hm] at h1
    split at h1
    · assumption
    · cases h1

open Go.RowKit Go.Shelf
set_option linter.unusedVariables false
set_option linter.unusedSimpArgs false
set_option maxRecDepth 100000

theorem wholeErr_zero {c : Cache} {key : ByteArray} (h : ckCache c = 0) (hk : isDig key = true) : wholeErr c key = 0 := by
  unfold wholeErr; rw [if_neg (by simpa using h), if_pos hk]
theorem sbound_swept {c : Cache} (roots : List ByteArray) (at_ : Int) (h : SBound c) : SBound (swept c roots at_) := by
  obtain ⟨⟨h1, h2, h3⟩, h4, h5⟩ := h
  have k1 := keep_le (fun b : Blob => hasS b.1 (goneOf c roots at_)) c.2.2.1
  have k2 := keep_le (fun e : Entry => !hasS e.1 roots) c.2.2.2
  refine ⟨⟨?_, ?_, fun e he => h3 e (mem_of_keep he)⟩, fun b hb => h4 b (mem_of_keep hb), fun e he => h5 e (mem_of_keep he)⟩
  · show ((keepL _ _).length : Int) ≤ _; omega
  · show ((keepL _ _).length : Int) ≤ _; omega
set_option maxHeartbeats 2000000 in
theorem sweptKeeps_law (c : Cache) (roots : List ByteArray) (at_ : Int) (hb : SBound c) (hrl : (roots.length : Int) ≤ 9223372036854775807) : FRet Tryd.prog 4 [aCache c, .f (frStrs roots), .f (.int .i64 at_)] [.c (.v (.bool true))] := by
  have kS := Swept_f c roots at_ hb.1 hrl
  unfold sweptRs at kS
  by_cases h0 : ckAt c at_ = 0
  case neg =>
    rw [if_pos h0] at kS
    have hd : decide (ckAt c at_ = 0) = false := by simpa using h0
    generalize ckAt c at_ = er at *
    replace kS := hide kS
    obtain ⟨room, lease, bl, en⟩ := c
    refine FCall.of_ax low_law7_CacheSweptKeeps ?_
    dsimp only [l_law7_CacheSweptKeeps, aCache]
    refine srun_sound 300 _ _ _ _ ?_
    have hz : decide (((0 : Nat) : Int) = 0) = true := rfl
    repeat' (first
      | (simp -implicitDefEqProofs only [*, frBlobs, frEntries, frStrs, rcOwn, emptyC, row_nil, zr1, zr2, zr3, zr4, zr5, zr6, zr7, effEqS, eqL, eqV, effIsNil, effMark, onesA, effBytesStr, effStrBytes, effCopy, effClear, effMapUpd, effLookup, lookV, AV.plainVal, copyN, copyS, copyR, idsS, idsC, effNil, effPick, effBox, effBuild, effBuildS, effLoad, effStore, fvX, effBin, effUn, effConvInt, effConvStr, effClo, effMake, boundsV, effSlice, effSlice0, effSliceS, effFieldAddr, effField, effIndex, effIndexS, effExtract, effLen, effMax, effMin, effAppend, binF, unF, FV.isOne, AV.isOne, AV.cellsN, splice, fillA, srcF, bornA, growA, resA, argsE, argsF, Nat.reduceAdd, Nat.reduceSub, Nat.reduceMul, Nat.reduceLT, Nat.reduceLeDiff, Nat.reduceEqDiff, Nat.reduceBEq, reduceIte, reduceCtorEq, Int.reduceLE, Int.reduceLT, Int.reduceToNat, Int.reduceEq, Int.reduceNe])
      | ((first | apply condS_splitN | apply condS_split | apply guardS_splitTN | apply guardS_splitFN | apply guardD_splitTN | apply guardD_splitFN | apply guardS_splitT | apply guardS_splitF | apply guardD_splitT | apply guardD_splitF) <;> intro hc)
      | (refine callP0 rfl ?_)
      | (refine callD0 rfl ?_)
      | (refine callP rfl (kS.out) rfl (by first | exact LeL.refl _ | ((repeat (first | exact LeL.refl _ | exact LeA.refl _ | exact LeA.nil _ | refine LeL.cons ?_ ?_ | refine LeA.agg ?_)); first | done | fail)) rfl (by first | exact free_0 | exact free_mk rfl | (repeat (first | exact free_0 | exact free_mk rfl | exact free_mk (by simp) | refine free_upd rfl ?_))) ?_)
      | (refine callD rfl (kS.out) rfl (by first | exact LeL.refl _ | ((repeat (first | exact LeL.refl _ | exact LeA.refl _ | exact LeA.nil _ | refine LeL.cons ?_ ?_ | refine LeA.agg ?_)); first | done | fail)) rfl rfl ?_)
      | (refine callP rfl (awake_f) rfl (by first | exact LeL.refl _ | ((repeat (first | exact LeL.refl _ | exact LeA.refl _ | exact LeA.nil _ | refine LeL.cons ?_ ?_ | refine LeA.agg ?_)); first | done | fail)) rfl (by first | exact free_0 | exact free_mk rfl | (repeat (first | exact free_0 | exact free_mk rfl | exact free_mk (by simp) | refine free_upd rfl ?_))) ?_)
      | (refine callD rfl (awake_f) rfl (by first | exact LeL.refl _ | ((repeat (first | exact LeL.refl _ | exact LeA.refl _ | exact LeA.nil _ | refine LeL.cons ?_ ?_ | refine LeA.agg ?_)); first | done | fail)) rfl rfl ?_))
    exact ret_v
  rw [if_neg (fun h => h h0)] at kS
  by_cases h1 : ckDigsM roots 3000 = 0
  case neg =>
    rw [if_pos h1] at kS
    have hd : decide (ckDigsM roots 3000 = 0) = false := by simpa using h1
    generalize ckDigsM roots 3000 = er at *
    replace kS := hide kS
    obtain ⟨room, lease, bl, en⟩ := c
    refine FCall.of_ax low_law7_CacheSweptKeeps ?_
    dsimp only [l_law7_CacheSweptKeeps, aCache]
    refine srun_sound 300 _ _ _ _ ?_
    have hz : decide (((0 : Nat) : Int) = 0) = true := rfl
    repeat' (first
      | (simp -implicitDefEqProofs only [*, frBlobs, frEntries, frStrs, rcOwn, emptyC, row_nil, zr1, zr2, zr3, zr4, zr5, zr6, zr7, effEqS, eqL, eqV, effIsNil, effMark, onesA, effBytesStr, effStrBytes, effCopy, effClear, effMapUpd, effLookup, lookV, AV.plainVal, copyN, copyS, copyR, idsS, idsC, effNil, effPick, effBox, effBuild, effBuildS, effLoad, effStore, fvX, effBin, effUn, effConvInt, effConvStr, effClo, effMake, boundsV, effSlice, effSlice0, effSliceS, effFieldAddr, effField, effIndex, effIndexS, effExtract, effLen, effMax, effMin, effAppend, binF, unF, FV.isOne, AV.isOne, AV.cellsN, splice, fillA, srcF, bornA, growA, resA, argsE, argsF, Nat.reduceAdd, Nat.reduceSub, Nat.reduceMul, Nat.reduceLT, Nat.reduceLeDiff, Nat.reduceEqDiff, Nat.reduceBEq, reduceIte, reduceCtorEq, Int.reduceLE, Int.reduceLT, Int.reduceToNat, Int.reduceEq, Int.reduceNe])
      | ((first | apply condS_splitN | apply condS_split | apply guardS_splitTN | apply guardS_splitFN | apply guardD_splitTN | apply guardD_splitFN | apply guardS_splitT | apply guardS_splitF | apply guardD_splitT | apply guardD_splitF) <;> intro hc)
      | (refine callP0 rfl ?_)
      | (refine callD0 rfl ?_)
      | (refine callP rfl (kS.out) rfl (by first | exact LeL.refl _ | ((repeat (first | exact LeL.refl _ | exact LeA.refl _ | exact LeA.nil _ | refine LeL.cons ?_ ?_ | refine LeA.agg ?_)); first | done | fail)) rfl (by first | exact free_0 | exact free_mk rfl | (repeat (first | exact free_0 | exact free_mk rfl | exact free_mk (by simp) | refine free_upd rfl ?_))) ?_)
      | (refine callD rfl (kS.out) rfl (by first | exact LeL.refl _ | ((repeat (first | exact LeL.refl _ | exact LeA.refl _ | exact LeA.nil _ | refine LeL.cons ?_ ?_ | refine LeA.agg ?_)); first | done | fail)) rfl rfl ?_)
      | (refine callP rfl (awake_f) rfl (by first | exact LeL.refl _ | ((repeat (first | exact LeL.refl _ | exact LeA.refl _ | exact LeA.nil _ | refine LeL.cons ?_ ?_ | refine LeA.agg ?_)); first | done | fail)) rfl (by first | exact free_0 | exact free_mk rfl | (repeat (first | exact free_0 | exact free_mk rfl | exact free_mk (by simp) | refine free_upd rfl ?_))) ?_)
      | (refine callD rfl (awake_f) rfl (by first | exact LeL.refl _ | ((repeat (first | exact LeL.refl _ | exact LeA.refl _ | exact LeA.nil _ | refine LeL.cons ?_ ?_ | refine LeA.agg ?_)); first | done | fail)) rfl rfl ?_))
    exact ret_v
  rw [if_neg (fun h => h h1)] at kS
  have hc0 := ckAt_cache h0
  have hR := right_iff.1 hc0
  have hR2 := swept_right roots at_ hR
  have hs0 := right_iff.2 hR2
  have hu := rising_inj hR.brise
  have hs1 : ckAt (swept c roots at_) at_ = 0 := by
    unfold ckAt at h0 ⊢
    rw [if_neg (by simpa using hc0)] at h0
    rw [if_neg (by simpa using hs0)]; exact h0
  have hb2 := sbound_swept roots at_ hb
  have kT := Swept_f (swept c roots at_) roots at_ hb2.1 hrl
  unfold sweptRs at kT
  obtain ⟨ha1, ha2⟩ := swept_again (roots := roots) (at_ := at_) hu
  rw [if_neg (fun h => h hs1), if_neg (fun h => h h1), ha1, ha2] at kT
  have hlen := gone_len (roots := roots) (at_ := at_) hu
  have kW1 : ∀ key ∈ roots, FRet Tryd.prog 19 [aCache c, .f (.str key)] [.c (.v (.bool (wholeV c key))), .c (.v (.int .i64 0))] := fun key hk => by
    have h := Whole_f c key hb.1
    rw [wholeErr_zero hc0 (digs_at h1 key hk), if_pos rfl] at h
    exact h
  have kW2 : ∀ key ∈ roots, FRet Tryd.prog 19 [aCache (swept c roots at_), .f (.str key)] [.c (.v (.bool (wholeV c key))), .c (.v (.int .i64 0))] := fun key hk => by
    have h := Whole_f (swept c roots at_) key hb2.1
    rw [wholeErr_zero hs0 (digs_at h1 key hk), if_pos rfl, whole_swept hR hk] at h
    exact h
  have kM := Same_f (swept c roots at_) (swept c roots at_) hb2
  rw [show decide (swept c roots at_ = swept c roots at_) = true by simp] at kM
  have hbl := hR.blen
  have hrn : roots.length ≤ 3000 := by
    unfold ckDigsM at h1
    by_cases h : (3000 : Int) < roots.length
    · rw [if_pos h] at h1; cases h1
    · omega
  generalize (fun key => wholeV c key) = W at *
  generalize goneOf c roots at_ = gone at *
  have e1 : (swept c roots at_).1 = c.1 := rfl
  have e2 : (swept c roots at_).2.1 = c.2.1 := rfl
  generalize swept c roots at_ = s at *
  obtain ⟨room, lease, bl, en⟩ := c
  obtain ⟨room', lease', sb, se⟩ := s
  simp only at e1 e2 hlen hbl
  subst e1 e2
  replace kS := hide kS
  replace kT := hide kT
  replace kM := hide kM
  replace kW1 := hide kW1
  replace kW2 := hide kW2
  have hw : IntKind.i64.wrap ((sb.length : Int) + (gone.length : Int)) = (bl.length : Int) := by rw [wrap64] <;> omega
  clear h0 h1 hc0 hR hR2 hs0 hu hs1 hb2 ha1 ha2 hlen hbl
  refine FCall.of_ax low_law7_CacheSweptKeeps ?_
  dsimp only [l_law7_CacheSweptKeeps, aCache]
  refine srun_sound 300 _ _ _ _ ?_
  repeat' (first
    | (simp -implicitDefEqProofs only [*, frBlobs, frEntries, frStrs, rcOwn, zr1, zr2, zr3, zr4, zr5, zr6, zr7, effEqS, eqL, eqV, effIsNil, effMark, onesA, effBytesStr, effStrBytes, effCopy, effClear, effMapUpd, effLookup, lookV, AV.plainVal, copyN, copyS, copyR, idsS, idsC, effNil, effPick, effBox, effBuild, effBuildS, effLoad, effStore, fvX, effBin, effUn, effConvInt, effConvStr, effClo, effMake, boundsV, effSlice, effSlice0, effSliceS, effFieldAddr, effField, effIndex, effIndexS, effExtract, effLen, effMax, effMin, effAppend, binF, unF, FV.isOne, AV.isOne, AV.cellsN, splice, fillA, srcF, bornA, growA, resA, argsE, argsF, Nat.reduceAdd, Nat.reduceSub, Nat.reduceMul, Nat.reduceLT, Nat.reduceLeDiff, Nat.reduceEqDiff, Nat.reduceBEq, reduceIte, reduceCtorEq, Int.reduceLE, Int.reduceLT, Int.reduceToNat, Int.reduceEq, Int.reduceNe])
    | ((first | apply condS_splitN | apply condS_split | apply guardS_splitTN | apply guardS_splitFN | apply guardD_splitTN | apply guardD_splitFN | apply guardS_splitT | apply guardS_splitF | apply guardD_splitT | apply guardD_splitF) <;> intro hc)
    | (refine callP0 rfl ?_)
    | (refine callD0 rfl ?_)
    | (refine callP rfl (kS.out) rfl (by first | exact LeL.refl _ | ((repeat (first | exact LeL.refl _ | exact LeA.refl _ | exact LeA.nil _ | refine LeL.cons ?_ ?_ | refine LeA.agg ?_)); first | done | fail)) rfl (by first | exact free_0 | exact free_mk rfl | (repeat (first | exact free_0 | exact free_mk rfl | exact free_mk (by simp) | refine free_upd rfl ?_))) ?_)
    | (refine callD rfl (kS.out) rfl (by first | exact LeL.refl _ | ((repeat (first | exact LeL.refl _ | exact LeA.refl _ | exact LeA.nil _ | refine LeL.cons ?_ ?_ | refine LeA.agg ?_)); first | done | fail)) rfl rfl ?_))
  refine ax_weakA [] (nw := []) (n := 108) (el := [(1, .f (frStrs roots)), (2, .f (.int .i64 at_)), (3, .ptr 3 1 0), (7, .ptr 7 1 0), (8, .f (frStrs gone)), (40, .agg [.f (.int .i64 room'), .f (.int .i64 lease'), .f (frBlobs sb), .f (frEntries se)]), (41, .f (frStrs roots)), (42, .f (.int .i64 at_))]) (hl := [(3, 1, .cells [.f (.int .i64 room'), .f (.int .i64 lease'), .f (frBlobs bl), .f (frEntries en)]), (7, 1, .cells [.f (.int .i64 room'), .f (.int .i64 lease'), .f (frBlobs sb), .f (frEntries se)])]) rfl ?_ ?_
  · refine ⟨rfl, (by first | exact small_0 | exact small_mk rfl | (repeat (first | exact small_0 | exact small_mk rfl | refine small_upd rfl ?_ | refine small_sw rfl rfl ?_))), rfl, rfl, (by rfl), ?_, ?_⟩ <;> simp only [so_mf, mapOfH_some, so_ptf, so_cc, so_ff', cellsOf_some, List.drop_zero, List.take_succ_cons, List.take_zero, Nat.zero_add, frBlobs, frEntries, frStrs, zw1, zw2, swN, ElOk, HlOk, Nat.reduceEqDiff, Nat.reduceBEq, Nat.reduceLT, Nat.reduceLeDiff, reduceIte, reduceCtorEq, H0, AObj.cells.injEq]
    all_goals exact ⟨so_row (enc := fBlob) (sz := 5) (fun _ => rfl) rfl rfl rfl, so_row (enc := fEntry) (sz := 3) (fun _ => rfl) rfl rfl rfl⟩
  have hz : decide ((0 : Int) < ((0 : Nat) : Int)) = false := rfl
  repeat' (first
    | (simp -implicitDefEqProofs only [*, frBlobs, frEntries, frStrs, rcOwn, zr1, zr2, zr3, zr4, zr5, zr6, zr7, effEqS, eqL, eqV, effIsNil, effMark, onesA, effBytesStr, effStrBytes, effCopy, effClear, effMapUpd, effLookup, lookV, AV.plainVal, copyN, copyS, copyR, idsS, idsC, effNil, effPick, effBox, effBuild, effBuildS, effLoad, effStore, fvX, effBin, effUn, effConvInt, effConvStr, effClo, effMake, boundsV, effSlice, effSlice0, effSliceS, effFieldAddr, effField, effIndex, effIndexS, effExtract, effLen, effMax, effMin, effAppend, binF, unF, FV.isOne, AV.isOne, AV.cellsN, splice, fillA, srcF, bornA, growA, resA, argsE, argsF, Nat.reduceAdd, Nat.reduceSub, Nat.reduceMul, Nat.reduceLT, Nat.reduceLeDiff, Nat.reduceEqDiff, Nat.reduceBEq, reduceIte, reduceCtorEq, Int.reduceLE, Int.reduceLT, Int.reduceToNat, Int.reduceEq, Int.reduceNe])
    | ((first | apply condS_splitN | apply condS_split | apply guardS_splitTN | apply guardS_splitFN | apply guardD_splitTN | apply guardD_splitFN | apply guardS_splitT | apply guardS_splitF | apply guardD_splitT | apply guardD_splitF) <;> intro hc)
    | (refine callP0 rfl ?_)
    | (refine callD0 rfl ?_)
    | (refine callP rfl (kT.out) rfl (by first | exact LeL.refl _ | ((repeat (first | exact LeL.refl _ | exact LeA.refl _ | exact LeA.nil _ | refine LeL.cons ?_ ?_ | refine LeA.agg ?_)); first | done | fail)) rfl (by first | exact free_0 | exact free_mk rfl | (repeat (first | exact free_0 | exact free_mk rfl | exact free_mk (by simp) | refine free_upd rfl ?_))) ?_)
    | (refine callD rfl (kT.out) rfl (by first | exact LeL.refl _ | ((repeat (first | exact LeL.refl _ | exact LeA.refl _ | exact LeA.nil _ | refine LeL.cons ?_ ?_ | refine LeA.agg ?_)); first | done | fail)) rfl rfl ?_))
  refine callF rfl kM.out rfl ?_ (by simp [RS.all, RC.all, FV.plain]) (by first | exact free_mk rfl | exact free_mk (by simp) | (repeat (first | exact free_mk rfl | exact free_mk (by simp) | refine free_upd rfl ?_))) ?_
  · show SlotsOk _ _ _ [.agg [.f (.int .i64 room'), .f (.int .i64 lease'), .f (.fr 5 (sb.map fBlob)), .f (.fr 3 (se.map fEntry))], .agg [.f (.int .i64 room'), .f (.int .i64 lease'), .sl 43 1 5 0 sb.length, .sl 1043 1 3 0 se.length]] [aCache (room', lease', sb, se), aCache (room', lease', sb, se)]
    unfold aCache
    rw [so_cons, so_cons, so_nil, so_aa, so_aa]
    simp only [so_cons, so_nil]
    exact ⟨⟨so_f, so_f, so_f, so_f, trivial⟩, ⟨so_f, so_f, so_row (enc := fBlob) (sz := 5) (fun _ => rfl) rfl rfl rfl, so_row (enc := fEntry) (sz := 3) (fun _ => rfl) rfl rfl rfl, trivial⟩, trivial⟩
  repeat' (first
    | (simp -implicitDefEqProofs only [*, zr1, zr2, zr3, zr4, zr5, zr6, zr7, effEqS, eqL, eqV, effIsNil, effMark, onesA, effBytesStr, effStrBytes, effCopy, effClear, effMapUpd, effLookup, lookV, AV.plainVal, copyN, copyS, copyR, idsS, idsC, effNil, effPick, effBox, effBuild, effBuildS, effLoad, effStore, fvX, effBin, effUn, effConvInt, effConvStr, effClo, effMake, boundsV, effSlice, effSlice0, effSliceS, effFieldAddr, effField, effIndex, effIndexS, effExtract, effLen, effMax, effMin, effAppend, binF, unF, FV.isOne, AV.isOne, AV.cellsN, splice, fillA, srcF, bornA, growA, resA, argsE, argsF, Nat.reduceAdd, Nat.reduceSub, Nat.reduceMul, Nat.reduceLT, Nat.reduceLeDiff, Nat.reduceEqDiff, Nat.reduceBEq, reduceIte, reduceCtorEq, Int.reduceLE, Int.reduceLT, Int.reduceToNat, Int.reduceEq, Int.reduceNe])
    | ((first | apply condS_splitN | apply condS_split | apply guardS_splitTN | apply guardS_splitFN | apply guardD_splitTN | apply guardD_splitFN | apply guardS_splitT | apply guardS_splitF | apply guardD_splitT | apply guardD_splitF) <;> intro hc)
    | (refine callP0 rfl ?_)
    | (refine callD0 rfl ?_))
  refine ax_loopU (S := Nat) 108 [1, 3, 7] [3, 7] (fun s => [(12, .f (.int .i64 s))]) (fun s => []) (fun s => s ≤ roots.length) (fun s => roots.length - s) (0) [] ?_ ?_ fun s hs => ?_
  · exact Nat.zero_le _
  · refine ⟨rfl, (by first | exact small_0 | exact small_mk rfl | (repeat (first | exact small_0 | exact small_mk rfl | refine small_upd rfl ?_ | refine small_sw rfl rfl ?_))), rfl, rfl, (by rfl), ?_, ?_⟩ <;> simp only [zw1, zw2, swN, ElOk, HlOk, Nat.reduceEqDiff, Nat.reduceBEq, Nat.reduceLT, Nat.reduceLeDiff, reduceIte, reduceCtorEq, H0, AObj.cells.injEq]
  refine srun_sound 300 _ _ _ _ ?_
  rcases Nat.lt_or_ge s roots.length with hlt | hge
  · obtain ⟨x, hx⟩ := get_some hlt
    have h4 := inc64 hlt hrl
    have h2 := lt_t hlt
    have q1 := kW1.out x (List.mem_of_getElem? hx)
    have q2 := kW2.out x (List.mem_of_getElem? hx)
    generalize wholeV (room', lease', bl, en) x = v at q1 q2
    replace q1 := hide q1
    replace q2 := hide q2
    repeat' (first
      | (simp -implicitDefEqProofs only [*, List.getElem?_map, Option.map_some, zr1, zr2, zr3, zr4, zr5, zr6, zr7, effEqS, eqL, eqV, effIsNil, effMark, onesA, effBytesStr, effStrBytes, effCopy, effClear, effMapUpd, effLookup, lookV, AV.plainVal, copyN, copyS, copyR, idsS, idsC, effNil, effPick, effBox, effBuild, effBuildS, effLoad, effStore, fvX, effBin, effUn, effConvInt, effConvStr, effClo, effMake, boundsV, effSlice, effSlice0, effSliceS, effFieldAddr, effField, effIndex, effIndexS, effExtract, effLen, effMax, effMin, effAppend, binF, unF, FV.isOne, AV.isOne, AV.cellsN, splice, fillA, srcF, bornA, growA, resA, argsE, argsF, Nat.reduceAdd, Nat.reduceSub, Nat.reduceMul, Nat.reduceLT, Nat.reduceLeDiff, Nat.reduceEqDiff, Nat.reduceBEq, reduceIte, reduceCtorEq, Int.reduceLE, Int.reduceLT, Int.reduceToNat, Int.reduceEq, Int.reduceNe])
      | ((first | apply condS_splitN | apply condS_split | apply guardS_splitTN | apply guardS_splitFN | apply guardD_splitTN | apply guardD_splitFN | apply guardS_splitT | apply guardS_splitF | apply guardD_splitT | apply guardD_splitF) <;> intro hc)
      | (refine callP0 rfl ?_)
      | (refine callD0 rfl ?_)
      | (refine callP rfl (q1.out) rfl (by first | exact LeL.refl _ | ((repeat (first | exact LeL.refl _ | exact LeA.refl _ | exact LeA.nil _ | refine LeL.cons ?_ ?_ | refine LeA.agg ?_)); first | done | fail)) rfl (by first | exact free_0 | exact free_mk rfl | (repeat (first | exact free_0 | exact free_mk rfl | exact free_mk (by simp) | refine free_upd rfl ?_))) ?_)
      | (refine callD rfl (q1.out) rfl (by first | exact LeL.refl _ | ((repeat (first | exact LeL.refl _ | exact LeA.refl _ | exact LeA.nil _ | refine LeL.cons ?_ ?_ | refine LeA.agg ?_)); first | done | fail)) rfl rfl ?_)
      | (refine callP rfl (q2.out) rfl (by first | exact LeL.refl _ | ((repeat (first | exact LeL.refl _ | exact LeA.refl _ | exact LeA.nil _ | refine LeL.cons ?_ ?_ | refine LeA.agg ?_)); first | done | fail)) rfl (by first | exact free_0 | exact free_mk rfl | (repeat (first | exact free_0 | exact free_mk rfl | exact free_mk (by simp) | refine free_upd rfl ?_))) ?_)
      | (refine callD rfl (q2.out) rfl (by first | exact LeL.refl _ | ((repeat (first | exact LeL.refl _ | exact LeA.refl _ | exact LeA.nil _ | refine LeL.cons ?_ ?_ | refine LeA.agg ?_)); first | done | fail)) rfl rfl ?_))
    refine ⟨s + 1, hlt, by omega, ?_⟩
    refine ⟨rfl, (by first | exact small_0 | exact small_mk rfl | (repeat (first | exact small_0 | exact small_mk rfl | refine small_upd rfl ?_ | refine small_sw rfl rfl ?_))), rfl, rfl, (by rfl), ?_, ?_⟩ <;> simp only [zw1, zw2, swN, ElOk, HlOk, Nat.reduceEqDiff, Nat.reduceBEq, Nat.reduceLT, Nat.reduceLeDiff, reduceIte, reduceCtorEq, H0, AObj.cells.injEq]
  · obtain rfl : s = roots.length := by omega
    have h2 := lt_f hge
    repeat' (first
      | (simp -implicitDefEqProofs only [*, zr1, zr2, zr3, zr4, zr5, zr6, zr7, effEqS, eqL, eqV, effIsNil, effMark, onesA, effBytesStr, effStrBytes, effCopy, effClear, effMapUpd, effLookup, lookV, AV.plainVal, copyN, copyS, copyR, idsS, idsC, effNil, effPick, effBox, effBuild, effBuildS, effLoad, effStore, fvX, effBin, effUn, effConvInt, effConvStr, effClo, effMake, boundsV, effSlice, effSlice0, effSliceS, effFieldAddr, effField, effIndex, effIndexS, effExtract, effLen, effMax, effMin, effAppend, binF, unF, FV.isOne, AV.isOne, AV.cellsN, splice, fillA, srcF, bornA, growA, resA, argsE, argsF, Nat.reduceAdd, Nat.reduceSub, Nat.reduceMul, Nat.reduceLT, Nat.reduceLeDiff, Nat.reduceEqDiff, Nat.reduceBEq, reduceIte, reduceCtorEq, Int.reduceLE, Int.reduceLT, Int.reduceToNat, Int.reduceEq, Int.reduceNe])
      | ((first | apply condS_splitN | apply condS_split | apply guardS_splitTN | apply guardS_splitFN | apply guardD_splitTN | apply guardD_splitFN | apply guardS_splitT | apply guardS_splitF | apply guardD_splitT | apply guardD_splitF) <;> intro hc)
      | (refine callP0 rfl ?_)
      | (refine callD0 rfl ?_)
      | (refine callP rfl (awake_f) rfl (by first | exact LeL.refl _ | ((repeat (first | exact LeL.refl _ | exact LeA.refl _ | exact LeA.nil _ | refine LeL.cons ?_ ?_ | refine LeA.agg ?_)); first | done | fail)) rfl (by first | exact free_0 | exact free_mk rfl | (repeat (first | exact free_0 | exact free_mk rfl | exact free_mk (by simp) | refine free_upd rfl ?_))) ?_)
      | (refine callD rfl (awake_f) rfl (by first | exact LeL.refl _ | ((repeat (first | exact LeL.refl _ | exact LeA.refl _ | exact LeA.nil _ | refine LeL.cons ?_ ?_ | refine LeA.agg ?_)); first | done | fail)) rfl rfl ?_))
    exact ret_v

open Go.RowKit
set_option linter.unusedVariables false
set_option linter.unusedSimpArgs false

theorem args3 {G : Ghost} {Z : Nat → Prop} {w : World} {a b c : AV} {u v x : Value} (h1 : RepA G Z w a u) (h2 : RepA G Z w b v) (h3 : RepA G Z w c x) : ∀ (j : Nat) (y : AV) (z : Value), [a, b, c][j]? = some y → (#[u, v, x] : Array Value)[j]? = some z → RepA G Z w y z := by
  intro j y z hy hz
  rcases j with _ | _ | _ | j
  · obtain rfl := Option.some.inj hy; simp at hz; subst hz; exact h1
  · obtain rfl := Option.some.inj hy; simp at hz; subst hz; exact h2
  · obtain rfl := Option.some.inj hy; simp at hz; subst hz; exact h3
  · simp at hy
theorem sweptKeeps_any (cs : List Value) (c : Cache) (A : Option Addr) (n k : Nat) (roots : List ByteArray) (at_ : Int) (W : World) (h : rCache W W.heap.size c cs) (hr : rSl 1 16 rStr W W.heap.size roots [.slice A n k]) : Calls Tryd.prog 4 #[.agg cs.toArray, .slice A n k, .int .i64 at_] W fun e w' => e = .returned (.bool true) ∧ Below W.heap.size W w' :=
  (sweptKeeps_law c roots at_ (cache_bound h) hr.all.1).callsA rfl (args3 (fz_cache.agg len_cache h) (.f (fz_strs.one (a := frStrs) hr)) (.f (.int _ _)))
end Go.Proofs.YteeemcghdhdodaaDoor
