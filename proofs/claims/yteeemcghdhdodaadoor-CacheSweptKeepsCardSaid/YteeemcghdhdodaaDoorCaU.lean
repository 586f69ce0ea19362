/-
  The cache's own, digestsOf, checkAt, held, drop, Swept on the machine. No statement of the seat is proved here; no conditions.
-/
import Derived.Test.YteeemcghdhdodaaDoorCaS
import Derived.Test.YteeemcghdhdodaaDoorSet
namespace Go.Proofs.YteeemcghdhdodaaDoor
open Go.RowKit Go.Shelf
set_option linter.unusedVariables false
set_option linter.unusedSimpArgs false
set_option maxRecDepth 100000

theorem checkAt_f (c : Cache) (at_ : Int) (hb : CBound c) : FRet Tryd.prog 36 [aCache c, .f (.int .i64 at_)] [.c (.v (.int .i64 (if ckCache c ≠ 0 then ckCache c else if inRg at_ 0 1000000000 = true then 0 else 1)))] := by
  refine FCall.of_ax low_cache_checkAt ?_
  dsimp only [l_cache_checkAt, aCache]
  refine srun_sound 300 _ _ _ _ ?_
  obtain ⟨room, lease, bl, en⟩ := c
  repeat' (first
    | (simp -implicitDefEqProofs only [*, frBlobs, frEntries, zr1, zr2, zr3, zr4, zr5, zr6, zr7, effEqS, eqL, eqV, effIsNil, effMark, onesA, effBytesStr, effStrBytes, effCopy, effClear, effMapUpd, effLookup, lookV, AV.plainVal, copyN, copyS, copyR, idsS, idsC, effNil, effPick, effBox, effBuild, effBuildS, effLoad, effStore, fvX, effBin, effUn, effConvInt, effConvStr, effClo, effMake, boundsV, effSlice, effSlice0, effSliceS, effFieldAddr, effField, effIndex, effIndexS, effExtract, effLen, effMax, effMin, effAppend, binF, unF, FV.isOne, AV.isOne, AV.cellsN, splice, fillA, srcF, bornA, growA, resA, argsE, argsF, Nat.reduceAdd, Nat.reduceSub, Nat.reduceMul, Nat.reduceLT, Nat.reduceLeDiff, Nat.reduceEqDiff, Nat.reduceBEq, reduceIte, reduceCtorEq, Int.reduceLE, Int.reduceLT, Int.reduceToNat, Int.reduceEq, Int.reduceNe])
    | ((first | apply condS_splitN | apply condS_split | apply guardS_splitTN | apply guardS_splitFN | apply guardD_splitTN | apply guardD_splitFN | apply guardS_splitT | apply guardS_splitF | apply guardD_splitT | apply guardD_splitF) <;> intro hc)
    | (refine callP0 rfl ?_)
    | (refine callD0 rfl ?_)
    | (refine callP rfl (CheckCache_f isDigest_f (room, lease, bl, en) hb) rfl (by first | exact LeL.refl _ | ((repeat (first | exact LeL.refl _ | exact LeA.refl _ | exact LeA.nil _ | refine LeL.cons ?_ ?_ | refine LeA.agg ?_)); first | done | fail)) rfl (by first | exact free_0 | exact free_mk rfl | (repeat (first | exact free_0 | exact free_mk rfl | exact free_mk (by simp) | refine free_upd rfl ?_))) ?_)
    | (refine callD rfl (CheckCache_f isDigest_f (room, lease, bl, en) hb) rfl (by first | exact LeL.refl _ | ((repeat (first | exact LeL.refl _ | exact LeA.refl _ | exact LeA.nil _ | refine LeL.cons ?_ ?_ | refine LeA.agg ?_)); first | done | fail)) rfl rfl ?_)
    | (refine callDO rfl (CheckCache_f isDigest_f (room, lease, bl, en) hb) rfl (by first | exact LeL.refl _ | ((repeat (first | exact LeL.refl _ | exact LeA.refl _ | exact LeA.nil _ | refine LeL.cons ?_ ?_ | refine LeA.agg ?_)); first | done | fail)) rfl (by first | exact free_0 | exact free_mk rfl | (repeat (first | exact free_0 | exact free_mk rfl | exact free_mk (by simp) | refine free_upd rfl ?_))) rfl ?_)
    | (refine callP rfl (isMoment_f at_) rfl (by first | exact LeL.refl _ | ((repeat (first | exact LeL.refl _ | exact LeA.refl _ | exact LeA.nil _ | refine LeL.cons ?_ ?_ | refine LeA.agg ?_)); first | done | fail)) rfl (by first | exact free_0 | exact free_mk rfl | (repeat (first | exact free_0 | exact free_mk rfl | exact free_mk (by simp) | refine free_upd rfl ?_))) ?_)
    | (refine callD rfl (isMoment_f at_) rfl (by first | exact LeL.refl _ | ((repeat (first | exact LeL.refl _ | exact LeA.refl _ | exact LeA.nil _ | refine LeL.cons ?_ ?_ | refine LeA.agg ?_)); first | done | fail)) rfl rfl ?_)
    | (refine callDO rfl (isMoment_f at_) rfl (by first | exact LeL.refl _ | ((repeat (first | exact LeL.refl _ | exact LeA.refl _ | exact LeA.nil _ | refine LeL.cons ?_ ?_ | refine LeA.agg ?_)); first | done | fail)) rfl (by first | exact free_0 | exact free_mk rfl | (repeat (first | exact free_0 | exact free_mk rfl | exact free_mk (by simp) | refine free_upd rfl ?_))) rfl ?_))
  all_goals try simp only [decide_eq_true_eq, decide_eq_false_iff_not] at *
  all_goals (refine ret_ve ?_; simp only [*, Int.reduceEq, Int.reduceNe, if_true, if_false, ne_eq, not_true_eq_false, not_false_eq_true, reduceIte, Bool.false_eq_true, Bool.true_and, Bool.and_true, Bool.false_and, Bool.and_false, Bool.not_true, Bool.not_false, Bool.true_or, Bool.or_true, Bool.false_or, Bool.or_false, decide_true, decide_false, reduceCtorEq])
def heldB (b : Blob) (at_ : Int) : Bool := decide (0 < b.2.2.2.2) || decide (at_ < b.2.2.2.1)
theorem held_f (b : Blob) (at_ : Int) : FRet Tryd.prog 42 [.agg ((fBlob b).map .f), .f (.int .i64 at_)] [.c (.v (.bool (heldB b at_)))] := by
  refine FCall.of_ax low_cache_held ?_
  dsimp only [l_cache_held, fBlob]
  refine srun_sound 300 _ _ _ _ ?_
  unfold heldB
  repeat' (first
    | (simp -implicitDefEqProofs only [*, zr1, zr2, zr3, zr4, zr5, zr6, zr7, effEqS, eqL, eqV, effIsNil, effMark, onesA, effBytesStr, effStrBytes, effCopy, effClear, effMapUpd, effLookup, lookV, AV.plainVal, copyN, copyS, copyR, idsS, idsC, effNil, effPick, effBox, effBuild, effBuildS, effLoad, effStore, fvX, effBin, effUn, effConvInt, effConvStr, effClo, effMake, boundsV, effSlice, effSlice0, effSliceS, effFieldAddr, effField, effIndex, effIndexS, effExtract, effLen, effMax, effMin, effAppend, binF, unF, FV.isOne, AV.isOne, AV.cellsN, splice, fillA, srcF, bornA, growA, resA, argsE, argsF, Nat.reduceAdd, Nat.reduceSub, Nat.reduceMul, Nat.reduceLT, Nat.reduceLeDiff, Nat.reduceEqDiff, Nat.reduceBEq, reduceIte, reduceCtorEq, Int.reduceLE, Int.reduceLT, Int.reduceToNat, Int.reduceEq, Int.reduceNe])
    | ((first | apply condS_splitN | apply condS_split | apply guardS_splitTN | apply guardS_splitFN | apply guardD_splitTN | apply guardD_splitFN | apply guardS_splitT | apply guardS_splitF | apply guardD_splitT | apply guardD_splitF) <;> intro hc)
    | (refine callP0 rfl ?_)
    | (refine callD0 rfl ?_))
  all_goals exact ret_ve (by simp [*])
theorem look_setL (s : ByteArray) (l : List ByteArray) : lookV (.bool false) false (mGet s (setL l)) = .f (.bool (hasS s l)) := by
  rw [mGet_setL]
  cases h : hasS s l <;> simp [lookV, FV.ofValue]
theorem dropC_f (b : Blob) (l : List ByteArray) : FRet Tryd.prog 56 ([.agg ((fBlob b).map .f)] ++ [.f (.fp [.fm (setL l)])]) [.c (.v (.bool (hasS b.1 l)))] := by
  refine FCall.of_ax low_cache_drop_c1 ?_
  dsimp only [l_cache_drop_c1, fBlob]
  refine srun_sound 300 _ _ _ _ ?_
  cases hh : hasS b.1 l
  · have h := mGet_f hh
    repeat' (first
      | (simp -implicitDefEqProofs only [*, zr1, zr2, zr3, zr4, zr5, zr6, zr7, effEqS, eqL, eqV, effIsNil, effMark, onesA, effBytesStr, effStrBytes, effCopy, effClear, effMapUpd, effLookup, lookV, AV.plainVal, copyN, copyS, copyR, idsS, idsC, effNil, effPick, effBox, effBuild, effBuildS, effLoad, effStore, fvX, effBin, effUn, effConvInt, effConvStr, effClo, effMake, boundsV, effSlice, effSlice0, effSliceS, effFieldAddr, effField, effIndex, effIndexS, effExtract, effLen, effMax, effMin, effAppend, binF, unF, FV.isOne, AV.isOne, AV.cellsN, splice, fillA, srcF, bornA, growA, resA, argsE, argsF, Nat.reduceAdd, Nat.reduceSub, Nat.reduceMul, Nat.reduceLT, Nat.reduceLeDiff, Nat.reduceEqDiff, Nat.reduceBEq, reduceIte, reduceCtorEq, Int.reduceLE, Int.reduceLT, Int.reduceToNat, Int.reduceEq, Int.reduceNe])
      | ((first | apply condS_splitN | apply condS_split | apply guardS_splitTN | apply guardS_splitFN | apply guardD_splitTN | apply guardD_splitFN | apply guardS_splitT | apply guardS_splitF | apply guardD_splitT | apply guardD_splitF) <;> intro hc)
      | (refine callP0 rfl ?_)
      | (refine callD0 rfl ?_))
    exact ret_ve rfl
  · have h := mGet_t hh
    repeat' (first
      | (simp -implicitDefEqProofs only [*, zr1, zr2, zr3, zr4, zr5, zr6, zr7, effEqS, eqL, eqV, effIsNil, effMark, onesA, effBytesStr, effStrBytes, effCopy, effClear, effMapUpd, effLookup, lookV, AV.plainVal, copyN, copyS, copyR, idsS, idsC, effNil, effPick, effBox, effBuild, effBuildS, effLoad, effStore, fvX, effBin, effUn, effConvInt, effConvStr, effClo, effMake, boundsV, effSlice, effSlice0, effSliceS, effFieldAddr, effField, effIndex, effIndexS, effExtract, effLen, effMax, effMin, effAppend, binF, unF, FV.isOne, AV.isOne, AV.cellsN, splice, fillA, srcF, bornA, growA, resA, argsE, argsF, Nat.reduceAdd, Nat.reduceSub, Nat.reduceMul, Nat.reduceLT, Nat.reduceLeDiff, Nat.reduceEqDiff, Nat.reduceBEq, reduceIte, reduceCtorEq, Int.reduceLE, Int.reduceLT, Int.reduceToNat, Int.reduceEq, Int.reduceNe])
      | ((first | apply condS_splitN | apply condS_split | apply guardS_splitTN | apply guardS_splitFN | apply guardD_splitTN | apply guardD_splitFN | apply guardS_splitT | apply guardS_splitF | apply guardD_splitT | apply guardD_splitF) <;> intro hc)
      | (refine callP0 rfl ?_)
      | (refine callD0 rfl ?_))
    exact ret_ve rfl
theorem sweptC1_f (b : Blob) (at_ : Int) (l : List ByteArray) : FRet Tryd.prog 41 ([.agg ((fBlob b).map .f)] ++ [.f (.fp [.int .i64 at_]), .f (.fp [.fm (setL l)])]) [.c (.v (.bool (heldB b at_ || hasS b.1 l)))] := by
  refine FCall.of_ax low_cache_Swept_c1 ?_
  dsimp only [l_cache_Swept_c1, fBlob]
  refine srun_sound 300 _ _ _ _ ?_
  cases hh : hasS b.1 l
  · have h := mGet_f hh
    cases hb : heldB b at_
    · repeat' (first
        | (simp -implicitDefEqProofs only [*, fBlob, zr1, zr2, zr3, zr4, zr5, zr6, zr7, effEqS, eqL, eqV, effIsNil, effMark, onesA, effBytesStr, effStrBytes, effCopy, effClear, effMapUpd, effLookup, lookV, AV.plainVal, copyN, copyS, copyR, idsS, idsC, effNil, effPick, effBox, effBuild, effBuildS, effLoad, effStore, fvX, effBin, effUn, effConvInt, effConvStr, effClo, effMake, boundsV, effSlice, effSlice0, effSliceS, effFieldAddr, effField, effIndex, effIndexS, effExtract, effLen, effMax, effMin, effAppend, binF, unF, FV.isOne, AV.isOne, AV.cellsN, splice, fillA, srcF, bornA, growA, resA, argsE, argsF, Nat.reduceAdd, Nat.reduceSub, Nat.reduceMul, Nat.reduceLT, Nat.reduceLeDiff, Nat.reduceEqDiff, Nat.reduceBEq, reduceIte, reduceCtorEq, Int.reduceLE, Int.reduceLT, Int.reduceToNat, Int.reduceEq, Int.reduceNe])
        | ((first | apply condS_splitN | apply condS_split | apply guardS_splitTN | apply guardS_splitFN | apply guardD_splitTN | apply guardD_splitFN | apply guardS_splitT | apply guardS_splitF | apply guardD_splitT | apply guardD_splitF) <;> intro hc)
        | (refine callP0 rfl ?_)
        | (refine callD0 rfl ?_)
        | (refine callP rfl (held_f b at_) rfl (by first | exact LeL.refl _ | ((repeat (first | exact LeL.refl _ | exact LeA.refl _ | exact LeA.nil _ | refine LeL.cons ?_ ?_ | refine LeA.agg ?_)); first | done | fail)) rfl (by first | exact free_0 | exact free_mk rfl | (repeat (first | exact free_0 | exact free_mk rfl | exact free_mk (by simp) | refine free_upd rfl ?_))) ?_)
        | (refine callD rfl (held_f b at_) rfl (by first | exact LeL.refl _ | ((repeat (first | exact LeL.refl _ | exact LeA.refl _ | exact LeA.nil _ | refine LeL.cons ?_ ?_ | refine LeA.agg ?_)); first | done | fail)) rfl rfl ?_)
        | (refine callDO rfl (held_f b at_) rfl (by first | exact LeL.refl _ | ((repeat (first | exact LeL.refl _ | exact LeA.refl _ | exact LeA.nil _ | refine LeL.cons ?_ ?_ | refine LeA.agg ?_)); first | done | fail)) rfl (by first | exact free_0 | exact free_mk rfl | (repeat (first | exact free_0 | exact free_mk rfl | exact free_mk (by simp) | refine free_upd rfl ?_))) rfl ?_))
      exact ret_ve rfl
    · repeat' (first
        | (simp -implicitDefEqProofs only [*, fBlob, zr1, zr2, zr3, zr4, zr5, zr6, zr7, effEqS, eqL, eqV, effIsNil, effMark, onesA, effBytesStr, effStrBytes, effCopy, effClear, effMapUpd, effLookup, lookV, AV.plainVal, copyN, copyS, copyR, idsS, idsC, effNil, effPick, effBox, effBuild, effBuildS, effLoad, effStore, fvX, effBin, effUn, effConvInt, effConvStr, effClo, effMake, boundsV, effSlice, effSlice0, effSliceS, effFieldAddr, effField, effIndex, effIndexS, effExtract, effLen, effMax, effMin, effAppend, binF, unF, FV.isOne, AV.isOne, AV.cellsN, splice, fillA, srcF, bornA, growA, resA, argsE, argsF, Nat.reduceAdd, Nat.reduceSub, Nat.reduceMul, Nat.reduceLT, Nat.reduceLeDiff, Nat.reduceEqDiff, Nat.reduceBEq, reduceIte, reduceCtorEq, Int.reduceLE, Int.reduceLT, Int.reduceToNat, Int.reduceEq, Int.reduceNe])
        | ((first | apply condS_splitN | apply condS_split | apply guardS_splitTN | apply guardS_splitFN | apply guardD_splitTN | apply guardD_splitFN | apply guardS_splitT | apply guardS_splitF | apply guardD_splitT | apply guardD_splitF) <;> intro hc)
        | (refine callP0 rfl ?_)
        | (refine callD0 rfl ?_)
        | (refine callP rfl (held_f b at_) rfl (by first | exact LeL.refl _ | ((repeat (first | exact LeL.refl _ | exact LeA.refl _ | exact LeA.nil _ | refine LeL.cons ?_ ?_ | refine LeA.agg ?_)); first | done | fail)) rfl (by first | exact free_0 | exact free_mk rfl | (repeat (first | exact free_0 | exact free_mk rfl | exact free_mk (by simp) | refine free_upd rfl ?_))) ?_)
        | (refine callD rfl (held_f b at_) rfl (by first | exact LeL.refl _ | ((repeat (first | exact LeL.refl _ | exact LeA.refl _ | exact LeA.nil _ | refine LeL.cons ?_ ?_ | refine LeA.agg ?_)); first | done | fail)) rfl rfl ?_)
        | (refine callDO rfl (held_f b at_) rfl (by first | exact LeL.refl _ | ((repeat (first | exact LeL.refl _ | exact LeA.refl _ | exact LeA.nil _ | refine LeL.cons ?_ ?_ | refine LeA.agg ?_)); first | done | fail)) rfl (by first | exact free_0 | exact free_mk rfl | (repeat (first | exact free_0 | exact free_mk rfl | exact free_mk (by simp) | refine free_upd rfl ?_))) rfl ?_))
      exact ret_ve rfl
  · have h := mGet_t hh
    cases hb : heldB b at_
    · repeat' (first
        | (simp -implicitDefEqProofs only [*, fBlob, zr1, zr2, zr3, zr4, zr5, zr6, zr7, effEqS, eqL, eqV, effIsNil, effMark, onesA, effBytesStr, effStrBytes, effCopy, effClear, effMapUpd, effLookup, lookV, AV.plainVal, copyN, copyS, copyR, idsS, idsC, effNil, effPick, effBox, effBuild, effBuildS, effLoad, effStore, fvX, effBin, effUn, effConvInt, effConvStr, effClo, effMake, boundsV, effSlice, effSlice0, effSliceS, effFieldAddr, effField, effIndex, effIndexS, effExtract, effLen, effMax, effMin, effAppend, binF, unF, FV.isOne, AV.isOne, AV.cellsN, splice, fillA, srcF, bornA, growA, resA, argsE, argsF, Nat.reduceAdd, Nat.reduceSub, Nat.reduceMul, Nat.reduceLT, Nat.reduceLeDiff, Nat.reduceEqDiff, Nat.reduceBEq, reduceIte, reduceCtorEq, Int.reduceLE, Int.reduceLT, Int.reduceToNat, Int.reduceEq, Int.reduceNe])
        | ((first | apply condS_splitN | apply condS_split | apply guardS_splitTN | apply guardS_splitFN | apply guardD_splitTN | apply guardD_splitFN | apply guardS_splitT | apply guardS_splitF | apply guardD_splitT | apply guardD_splitF) <;> intro hc)
        | (refine callP0 rfl ?_)
        | (refine callD0 rfl ?_)
        | (refine callP rfl (held_f b at_) rfl (by first | exact LeL.refl _ | ((repeat (first | exact LeL.refl _ | exact LeA.refl _ | exact LeA.nil _ | refine LeL.cons ?_ ?_ | refine LeA.agg ?_)); first | done | fail)) rfl (by first | exact free_0 | exact free_mk rfl | (repeat (first | exact free_0 | exact free_mk rfl | exact free_mk (by simp) | refine free_upd rfl ?_))) ?_)
        | (refine callD rfl (held_f b at_) rfl (by first | exact LeL.refl _ | ((repeat (first | exact LeL.refl _ | exact LeA.refl _ | exact LeA.nil _ | refine LeL.cons ?_ ?_ | refine LeA.agg ?_)); first | done | fail)) rfl rfl ?_)
        | (refine callDO rfl (held_f b at_) rfl (by first | exact LeL.refl _ | ((repeat (first | exact LeL.refl _ | exact LeA.refl _ | exact LeA.nil _ | refine LeL.cons ?_ ?_ | refine LeA.agg ?_)); first | done | fail)) rfl (by first | exact free_0 | exact free_mk rfl | (repeat (first | exact free_0 | exact free_mk rfl | exact free_mk (by simp) | refine free_upd rfl ?_))) rfl ?_))
      exact ret_ve rfl
    · repeat' (first
        | (simp -implicitDefEqProofs only [*, fBlob, zr1, zr2, zr3, zr4, zr5, zr6, zr7, effEqS, eqL, eqV, effIsNil, effMark, onesA, effBytesStr, effStrBytes, effCopy, effClear, effMapUpd, effLookup, lookV, AV.plainVal, copyN, copyS, copyR, idsS, idsC, effNil, effPick, effBox, effBuild, effBuildS, effLoad, effStore, fvX, effBin, effUn, effConvInt, effConvStr, effClo, effMake, boundsV, effSlice, effSlice0, effSliceS, effFieldAddr, effField, effIndex, effIndexS, effExtract, effLen, effMax, effMin, effAppend, binF, unF, FV.isOne, AV.isOne, AV.cellsN, splice, fillA, srcF, bornA, growA, resA, argsE, argsF, Nat.reduceAdd, Nat.reduceSub, Nat.reduceMul, Nat.reduceLT, Nat.reduceLeDiff, Nat.reduceEqDiff, Nat.reduceBEq, reduceIte, reduceCtorEq, Int.reduceLE, Int.reduceLT, Int.reduceToNat, Int.reduceEq, Int.reduceNe])
        | ((first | apply condS_splitN | apply condS_split | apply guardS_splitTN | apply guardS_splitFN | apply guardD_splitTN | apply guardD_splitFN | apply guardS_splitT | apply guardS_splitF | apply guardD_splitT | apply guardD_splitF) <;> intro hc)
        | (refine callP0 rfl ?_)
        | (refine callD0 rfl ?_)
        | (refine callP rfl (held_f b at_) rfl (by first | exact LeL.refl _ | ((repeat (first | exact LeL.refl _ | exact LeA.refl _ | exact LeA.nil _ | refine LeL.cons ?_ ?_ | refine LeA.agg ?_)); first | done | fail)) rfl (by first | exact free_0 | exact free_mk rfl | (repeat (first | exact free_0 | exact free_mk rfl | exact free_mk (by simp) | refine free_upd rfl ?_))) ?_)
        | (refine callD rfl (held_f b at_) rfl (by first | exact LeL.refl _ | ((repeat (first | exact LeL.refl _ | exact LeA.refl _ | exact LeA.nil _ | refine LeL.cons ?_ ?_ | refine LeA.agg ?_)); first | done | fail)) rfl rfl ?_)
        | (refine callDO rfl (held_f b at_) rfl (by first | exact LeL.refl _ | ((repeat (first | exact LeL.refl _ | exact LeA.refl _ | exact LeA.nil _ | refine LeL.cons ?_ ?_ | refine LeA.agg ?_)); first | done | fail)) rfl (by first | exact free_0 | exact free_mk rfl | (repeat (first | exact free_0 | exact free_mk rfl | exact free_mk (by simp) | refine free_upd rfl ?_))) rfl ?_))
      exact ret_ve rfl
theorem sweptC2_f (b : Entry) (l : List ByteArray) : FRet Tryd.prog 45 ([.agg ((fEntry b).map .f)] ++ [.f (.fp [.fm (setL l)])]) [.c (.v (.bool (!hasS b.1 l)))] := by
  refine FCall.of_ax low_cache_Swept_c2 ?_
  dsimp only [l_cache_Swept_c2, fEntry]
  refine srun_sound 300 _ _ _ _ ?_
  cases hh : hasS b.1 l
  · have h := mGet_f hh
    repeat' (first
      | (simp -implicitDefEqProofs only [*, zr1, zr2, zr3, zr4, zr5, zr6, zr7, effEqS, eqL, eqV, effIsNil, effMark, onesA, effBytesStr, effStrBytes, effCopy, effClear, effMapUpd, effLookup, lookV, AV.plainVal, copyN, copyS, copyR, idsS, idsC, effNil, effPick, effBox, effBuild, effBuildS, effLoad, effStore, fvX, effBin, effUn, effConvInt, effConvStr, effClo, effMake, boundsV, effSlice, effSlice0, effSliceS, effFieldAddr, effField, effIndex, effIndexS, effExtract, effLen, effMax, effMin, effAppend, binF, unF, FV.isOne, AV.isOne, AV.cellsN, splice, fillA, srcF, bornA, growA, resA, argsE, argsF, Nat.reduceAdd, Nat.reduceSub, Nat.reduceMul, Nat.reduceLT, Nat.reduceLeDiff, Nat.reduceEqDiff, Nat.reduceBEq, reduceIte, reduceCtorEq, Int.reduceLE, Int.reduceLT, Int.reduceToNat, Int.reduceEq, Int.reduceNe])
      | ((first | apply condS_splitN | apply condS_split | apply guardS_splitTN | apply guardS_splitFN | apply guardD_splitTN | apply guardD_splitFN | apply guardS_splitT | apply guardS_splitF | apply guardD_splitT | apply guardD_splitF) <;> intro hc)
      | (refine callP0 rfl ?_)
      | (refine callD0 rfl ?_))
    exact ret_ve rfl
  · have h := mGet_t hh
    repeat' (first
      | (simp -implicitDefEqProofs only [*, zr1, zr2, zr3, zr4, zr5, zr6, zr7, effEqS, eqL, eqV, effIsNil, effMark, onesA, effBytesStr, effStrBytes, effCopy, effClear, effMapUpd, effLookup, lookV, AV.plainVal, copyN, copyS, copyR, idsS, idsC, effNil, effPick, effBox, effBuild, effBuildS, effLoad, effStore, fvX, effBin, effUn, effConvInt, effConvStr, effClo, effMake, boundsV, effSlice, effSlice0, effSliceS, effFieldAddr, effField, effIndex, effIndexS, effExtract, effLen, effMax, effMin, effAppend, binF, unF, FV.isOne, AV.isOne, AV.cellsN, splice, fillA, srcF, bornA, growA, resA, argsE, argsF, Nat.reduceAdd, Nat.reduceSub, Nat.reduceMul, Nat.reduceLT, Nat.reduceLeDiff, Nat.reduceEqDiff, Nat.reduceBEq, reduceIte, reduceCtorEq, Int.reduceLE, Int.reduceLT, Int.reduceToNat, Int.reduceEq, Int.reduceNe])
      | ((first | apply condS_splitN | apply condS_split | apply guardS_splitTN | apply guardS_splitFN | apply guardD_splitTN | apply guardD_splitFN | apply guardS_splitT | apply guardS_splitF | apply guardD_splitT | apply guardD_splitF) <;> intro hc)
      | (refine callP0 rfl ?_)
      | (refine callD0 rfl ?_))
    exact ret_ve rfl
theorem ret_own5 {room lease : FV} {n m : Nat} {cs ds : List FV} {i v j u : Nat} {H : Heap} (h1 : cellsOf v (H i) = some (cs.map .f)) (h2 : cellsOf u (H j) = some (ds.map .f)) (h3 : n * 5 ≤ cs.length) (h4 : m * 3 ≤ ds.length) (hij : decide (i = j) = false := by rfl) : Rets [.agg [.v room, .v lease, .own 5 n cs, .own 3 m ds]] (.agg [.f room, .f lease, .sl i v 5 0 n, .sl j u 3 0 m]) H :=
  ⟨[_], rfl, ⟨⟨rfl, rfl, .inr ⟨_, _, rfl, h1, h3⟩, .inr ⟨_, _, rfl, h2, h4⟩, rfl⟩, rfl⟩, by
    have := of_decide_eq_false hij
    simp [idsS, idsC, this]⟩
/-- own: the rows are one's own, the references within entries are copied and frozen. -/
theorem own_f (c : Cache) (hb : c.2.2.1.length ≤ 1000000) (he : c.2.2.2.length ≤ 1000000) (hr : ∀ e ∈ c.2.2.2, e.2.1.length ≤ 1000000) :
    FRet Tryd.prog 37 [aCache c] [.agg [.v (.int .i64 c.1), .v (.int .i64 c.2.1), .own 5 c.2.2.1.length (rowF fBlob c.2.2.1), .own 3 c.2.2.2.length (rowF fEntry c.2.2.2)]] := by
  obtain ⟨room, lease, bl, en⟩ := c
  simp only at hb he hr ⊢
  have hR := hide hr
  clear hr
  refine FCall.of_ax low_cache_own ?_
  dsimp only [l_cache_own, aCache]
  refine srun_sound 300 _ _ _ _ ?_
  repeat' (first
    | (simp -implicitDefEqProofs only [*, frBlobs, frEntries, addFp_wr, zr1, zr2, zr3, zr4, zr5, zr6, zr7, effEqS, eqL, eqV, effIsNil, effMark, onesA, effBytesStr, effStrBytes, effCopy, effClear, effMapUpd, effLookup, lookV, AV.plainVal, copyN, copyS, copyR, idsS, idsC, effNil, effPick, effBox, effBuild, effBuildS, effLoad, effStore, fvX, effBin, effUn, effConvInt, effConvStr, effClo, effMake, boundsV, effSlice, effSlice0, effSliceS, effFieldAddr, effField, effIndex, effIndexS, effExtract, effLen, effMax, effMin, effAppend, binF, unF, FV.isOne, AV.isOne, AV.cellsN, splice, fillA, srcF, bornA, growA, resA, argsE, argsF, Nat.reduceAdd, Nat.reduceSub, Nat.reduceMul, Nat.reduceLT, Nat.reduceLeDiff, Nat.reduceEqDiff, Nat.reduceBEq, reduceIte, reduceCtorEq, Int.reduceLE, Int.reduceLT, Int.reduceToNat, Int.reduceEq, Int.reduceNe])
    | ((first | apply condS_splitN | apply condS_split | apply guardS_splitTN | apply guardS_splitFN | apply guardD_splitTN | apply guardD_splitFN | apply guardS_splitT | apply guardS_splitF | apply guardD_splitT | apply guardD_splitF) <;> intro hc)
    | (refine callP0 rfl ?_)
    | (refine callD0 rfl ?_)
    | (refine callP rfl (cloneB_f bl hb) rfl (by first | exact LeL.refl _ | ((repeat (first | exact LeL.refl _ | exact LeA.refl _ | exact LeA.nil _ | refine LeL.cons ?_ ?_ | refine LeA.agg ?_)); first | done | fail)) rfl (by first | exact free_0 | exact free_mk rfl | (repeat (first | exact free_0 | exact free_mk rfl | exact free_mk (by simp) | refine free_upd rfl ?_))) ?_)
    | (refine callD rfl (cloneB_f bl hb) rfl (by first | exact LeL.refl _ | ((repeat (first | exact LeL.refl _ | exact LeA.refl _ | exact LeA.nil _ | refine LeL.cons ?_ ?_ | refine LeA.agg ?_)); first | done | fail)) rfl rfl ?_)
    | (refine callDO rfl (cloneB_f bl hb) rfl (by first | exact LeL.refl _ | ((repeat (first | exact LeL.refl _ | exact LeA.refl _ | exact LeA.nil _ | refine LeL.cons ?_ ?_ | refine LeA.agg ?_)); first | done | fail)) rfl (by first | exact free_0 | exact free_mk rfl | (repeat (first | exact free_0 | exact free_mk rfl | exact free_mk (by simp) | refine free_upd rfl ?_))) rfl ?_)
    | (refine callP rfl (cloneE_f en he) rfl (by first | exact LeL.refl _ | ((repeat (first | exact LeL.refl _ | exact LeA.refl _ | exact LeA.nil _ | refine LeL.cons ?_ ?_ | refine LeA.agg ?_)); first | done | fail)) rfl (by first | exact free_0 | exact free_mk rfl | (repeat (first | exact free_0 | exact free_mk rfl | exact free_mk (by simp) | refine free_upd rfl ?_))) ?_)
    | (refine callD rfl (cloneE_f en he) rfl (by first | exact LeL.refl _ | ((repeat (first | exact LeL.refl _ | exact LeA.refl _ | exact LeA.nil _ | refine LeL.cons ?_ ?_ | refine LeA.agg ?_)); first | done | fail)) rfl rfl ?_)
    | (refine callDO rfl (cloneE_f en he) rfl (by first | exact LeL.refl _ | ((repeat (first | exact LeL.refl _ | exact LeA.refl _ | exact LeA.nil _ | refine LeL.cons ?_ ?_ | refine LeA.agg ?_)); first | done | fail)) rfl (by first | exact free_0 | exact free_mk rfl | (repeat (first | exact free_0 | exact free_mk rfl | exact free_mk (by simp) | refine free_upd rfl ?_))) rfl ?_))
  refine ax_loopU (S := Nat) 32 [1, 2, 14] [1, 2, 6] (fun s => [(15, .f (.int .i64 s))]) (fun s => [(9, 1, (rowF fEntry en).map AV.f)]) (fun s => s ≤ en.length) (fun s => en.length - s) (0) [] ?_ ?_ fun s hs => ?_
  · exact Nat.zero_le _
  · refine ⟨rfl, (by first | exact small_0 | exact small_mk rfl | (repeat (first | exact small_0 | exact small_mk rfl | refine small_upd rfl ?_ | refine small_sw rfl rfl ?_))), rfl, rfl, (by rfl), ?_, ?_⟩ <;> simp only [zw1, zw2, swN, ElOk, HlOk, Nat.reduceEqDiff, Nat.reduceBEq, Nat.reduceLT, Nat.reduceLeDiff, reduceIte, reduceCtorEq, H0, AObj.cells.injEq]
  refine srun_sound 300 _ _ _ _ ?_
  rcases Nat.lt_or_ge s en.length with hlt | hge
  · obtain ⟨x, hx⟩ := get_some hlt
    have h4 := inc64 hlt (by omega)
    have h2 := lt_t hlt
    have hxr := hR.out x (List.mem_of_getElem? hx)
    have hcell := row_cell (enc := fEntry) (sz := 3) (j := 1) (fun _ => rfl) hx (show _ = some (frStrs x.2.1) from rfl)
    have hin : (s * 3 + 1 + 1 ≤ (rowF fEntry en).length) = True := by
      have := row_in (enc := fEntry) (sz := 3) (l := en) (fun _ => rfl) hlt
      rw [eq_iff_iff, iff_true, List.length_map] at this
      rw [eq_iff_iff, iff_true]; omega
    have hX := hide hx
    clear hx
    repeat' (first
      | (simp -implicitDefEqProofs only [*, frStrs, addFp_wr, zr1, zr2, zr3, zr4, zr5, zr6, zr7, effEqS, eqL, eqV, effIsNil, effMark, onesA, effBytesStr, effStrBytes, effCopy, effClear, effMapUpd, effLookup, lookV, AV.plainVal, copyN, copyS, copyR, idsS, idsC, effNil, effPick, effBox, effBuild, effBuildS, effLoad, effStore, fvX, effBin, effUn, effConvInt, effConvStr, effClo, effMake, boundsV, effSlice, effSlice0, effSliceS, effFieldAddr, effField, effIndex, effIndexS, effExtract, effLen, effMax, effMin, effAppend, binF, unF, FV.isOne, AV.isOne, AV.cellsN, splice, fillA, srcF, bornA, growA, resA, argsE, argsF, Nat.reduceAdd, Nat.reduceSub, Nat.reduceMul, Nat.reduceLT, Nat.reduceLeDiff, Nat.reduceEqDiff, Nat.reduceBEq, reduceIte, reduceCtorEq, Int.reduceLE, Int.reduceLT, Int.reduceToNat, Int.reduceEq, Int.reduceNe])
      | ((first | apply condS_splitN | apply condS_split | apply guardS_splitTN | apply guardS_splitFN | apply guardD_splitTN | apply guardD_splitFN | apply guardS_splitT | apply guardS_splitF | apply guardD_splitT | apply guardD_splitF) <;> intro hc)
      | (refine callP0 rfl ?_)
      | (refine callD0 rfl ?_)
      | (refine callP rfl (cloneS_f x.2.1 hxr) rfl (by first | exact LeL.refl _ | ((repeat (first | exact LeL.refl _ | exact LeA.refl _ | exact LeA.nil _ | refine LeL.cons ?_ ?_ | refine LeA.agg ?_)); first | done | fail)) rfl (by first | exact free_0 | exact free_mk rfl | (repeat (first | exact free_0 | exact free_mk rfl | exact free_mk (by simp) | refine free_upd rfl ?_))) ?_)
      | (refine callD rfl (cloneS_f x.2.1 hxr) rfl (by first | exact LeL.refl _ | ((repeat (first | exact LeL.refl _ | exact LeA.refl _ | exact LeA.nil _ | refine LeL.cons ?_ ?_ | refine LeA.agg ?_)); first | done | fail)) rfl rfl ?_)
      | (refine callDO rfl (cloneS_f x.2.1 hxr) rfl (by first | exact LeL.refl _ | ((repeat (first | exact LeL.refl _ | exact LeA.refl _ | exact LeA.nil _ | refine LeL.cons ?_ ?_ | refine LeA.agg ?_)); first | done | fail)) rfl (by first | exact free_0 | exact free_mk rfl | (repeat (first | exact free_0 | exact free_mk rfl | exact free_mk (by simp) | refine free_upd rfl ?_))) rfl ?_))
    refine ⟨s + 1, hlt, by omega, ?_⟩
    refine ⟨rfl, (by first | exact small_0 | exact small_mk rfl | (repeat (first | exact small_0 | exact small_mk rfl | refine small_upd rfl ?_ | refine small_sw rfl rfl ?_))), rfl, rfl, (by rfl), ?_, ?_⟩ <;> simp only [zw1, zw2, swN, ElOk, HlOk, Nat.reduceEqDiff, Nat.reduceBEq, Nat.reduceLT, Nat.reduceLeDiff, reduceIte, reduceCtorEq, H0, AObj.cells.injEq]
    refine SlotsOk.set fun y hy => ?_
    rw [List.getElem?_map, hy] at hcell
    have e : y = frStrs x.2.1 := by
      have := Option.some.inj hcell
      exact AV.f.inj this
    subst e
    exact so_row0 (enc := encS) (l := x.2.1) (fun _ => rfl) rfl (by simp [cellsOf, upd_get]) rfl
  · obtain rfl : s = en.length := by omega
    have h2 := lt_f hge
    repeat' (first
      | (simp -implicitDefEqProofs only [*, zr1, zr2, zr3, zr4, zr5, zr6, zr7, effEqS, eqL, eqV, effIsNil, effMark, onesA, effBytesStr, effStrBytes, effCopy, effClear, effMapUpd, effLookup, lookV, AV.plainVal, copyN, copyS, copyR, idsS, idsC, effNil, effPick, effBox, effBuild, effBuildS, effLoad, effStore, fvX, effBin, effUn, effConvInt, effConvStr, effClo, effMake, boundsV, effSlice, effSlice0, effSliceS, effFieldAddr, effField, effIndex, effIndexS, effExtract, effLen, effMax, effMin, effAppend, binF, unF, FV.isOne, AV.isOne, AV.cellsN, splice, fillA, srcF, bornA, growA, resA, argsE, argsF, Nat.reduceAdd, Nat.reduceSub, Nat.reduceMul, Nat.reduceLT, Nat.reduceLeDiff, Nat.reduceEqDiff, Nat.reduceBEq, reduceIte, reduceCtorEq, Int.reduceLE, Int.reduceLT, Int.reduceToNat, Int.reduceEq, Int.reduceNe])
      | ((first | apply condS_splitN | apply condS_split | apply guardS_splitTN | apply guardS_splitFN | apply guardD_splitTN | apply guardD_splitFN | apply guardS_splitT | apply guardS_splitF | apply guardD_splitT | apply guardD_splitF) <;> intro hc)
      | (refine callP0 rfl ?_)
      | (refine callD0 rfl ?_))
    exact ret_own5 rfl rfl (by rw [row_len (sz := 5) (fun _ => rfl)]; exact Nat.le_refl _) (by rw [row_len (sz := 3) (fun _ => rfl)]; exact Nat.le_refl _)
theorem digestsOf_f (l : List Blob) (hl : l.length ≤ 1000000) : FRet Tryd.prog 38 [.f (frBlobs l)] [.c (.own 1 l.length ((l.map fun b => b.1).map .str))] := by
  refine FCall.of_ax low_cache_digestsOf ?_
  dsimp only [l_cache_digestsOf, frBlobs]
  refine srun_sound 300 _ _ _ _ ?_
  repeat' (first
    | (simp -implicitDefEqProofs only [*, zr1, zr2, zr3, zr4, zr5, zr6, zr7, effEqS, eqL, eqV, effIsNil, effMark, onesA, effBytesStr, effStrBytes, effCopy, effClear, effMapUpd, effLookup, lookV, AV.plainVal, copyN, copyS, copyR, idsS, idsC, effNil, effPick, effBox, effBuild, effBuildS, effLoad, effStore, fvX, effBin, effUn, effConvInt, effConvStr, effClo, effMake, boundsV, effSlice, effSlice0, effSliceS, effFieldAddr, effField, effIndex, effIndexS, effExtract, effLen, effMax, effMin, effAppend, binF, unF, FV.isOne, AV.isOne, AV.cellsN, splice, fillA, srcF, bornA, growA, resA, argsE, argsF, Nat.reduceAdd, Nat.reduceSub, Nat.reduceMul, Nat.reduceLT, Nat.reduceLeDiff, Nat.reduceEqDiff, Nat.reduceBEq, reduceIte, reduceCtorEq, Int.reduceLE, Int.reduceLT, Int.reduceToNat, Int.reduceEq, Int.reduceNe])
    | ((first | apply condS_splitN | apply condS_split | apply guardS_splitTN | apply guardS_splitFN | apply guardD_splitTN | apply guardD_splitFN | apply guardS_splitT | apply guardS_splitF | apply guardD_splitT | apply guardD_splitF) <;> intro hc)
    | (refine callP0 rfl ?_)
    | (refine callD0 rfl ?_))
  refine ax_loopU (S := Nat) 19 [6, 7] [] (fun s => [(8, .f (.int .i64 s)), (3, .sl 16 1 1 0 s)]) (fun s => [(16, 1, ((((l.take s).map fun b => b.1)).map FV.str).map AV.f)]) (fun s => s ≤ l.length) (fun s => l.length - s) (0) [16] ?_ ?_ fun s hs => ?_
  · exact Nat.zero_le _
  · refine ⟨rfl, (by first | exact small_0 | exact small_mk rfl | (repeat (first | exact small_0 | exact small_mk rfl | refine small_upd rfl ?_ | refine small_sw rfl rfl ?_))), rfl, rfl, (by rfl), ?_, ?_⟩ <;> simp only [List.take_zero, zw1, zw2, swN, ElOk, HlOk, Nat.reduceEqDiff, Nat.reduceBEq, Nat.reduceLT, Nat.reduceLeDiff, reduceIte, reduceCtorEq, H0, AObj.cells.injEq]
  refine srun_sound 300 _ _ _ _ ?_
  rcases Nat.lt_or_ge s l.length with hlt | hge
  · obtain ⟨x, hx⟩ := get_some hlt
    have h4 := inc64 hlt (by omega)
    have h2 := lt_t hlt
    have hs2 : (l.take (s + 1)).map (fun b => b.1) = (l.take s).map (fun b => b.1) ++ [x.1] := by rw [List.take_add_one, hx, List.map_append]; rfl
    have h8 : ((s + 1) * 16 ≤ 140737488355328) = True := by rw [eq_iff_iff, iff_true]; omega
    have hlen : ((l.take s).map (fun b => b.1)).length = s := by rw [List.length_map, List.length_take]; omega
    generalize hm : (l.take s).map (fun b => b.1) = m at hs2 h8 hlen ⊢
    repeat' (first
      | (simp -implicitDefEqProofs only [*, List.getElem?_map, Option.map_some, fBlob, zr1, zr2, zr3, zr4, zr5, zr6, zr7, effEqS, eqL, eqV, effIsNil, effMark, onesA, effBytesStr, effStrBytes, effCopy, effClear, effMapUpd, effLookup, lookV, AV.plainVal, copyN, copyS, copyR, idsS, idsC, effNil, effPick, effBox, effBuild, effBuildS, effLoad, effStore, fvX, effBin, effUn, effConvInt, effConvStr, effClo, effMake, boundsV, effSlice, effSlice0, effSliceS, effFieldAddr, effField, effIndex, effIndexS, effExtract, effLen, effMax, effMin, effAppend, binF, unF, FV.isOne, AV.isOne, AV.cellsN, splice, fillA, srcF, bornA, growA, resA, argsE, argsF, Nat.reduceAdd, Nat.reduceSub, Nat.reduceMul, Nat.reduceLT, Nat.reduceLeDiff, Nat.reduceEqDiff, Nat.reduceBEq, reduceIte, reduceCtorEq, Int.reduceLE, Int.reduceLT, Int.reduceToNat, Int.reduceEq, Int.reduceNe])
      | ((first | apply condS_splitN | apply condS_split | apply guardS_splitTN | apply guardS_splitFN | apply guardD_splitTN | apply guardD_splitFN | apply guardS_splitT | apply guardS_splitF | apply guardD_splitT | apply guardD_splitF) <;> intro hc)
      | (refine callP0 rfl ?_)
      | (refine callD0 rfl ?_))
    refine ⟨s + 1, hlt, by omega, ?_⟩
    rw [hs2]
    refine ⟨rfl, (by first | exact small_0 | exact small_mk rfl | (repeat (first | exact small_0 | exact small_mk rfl | refine small_upd rfl ?_ | refine small_sw rfl rfl ?_))), rfl, rfl, (by rfl), ?_, ?_⟩ <;> simp only [List.length_append, zw1, zw2, swN, ElOk, HlOk, Nat.reduceEqDiff, Nat.reduceBEq, Nat.reduceLT, Nat.reduceLeDiff, reduceIte, reduceCtorEq, H0, AObj.cells.injEq]
    exact SlotsOk.of_eq (by simp)
  · obtain rfl : s = l.length := by omega
    have h2 := lt_f hge
    have h3 := List.take_length (l := l)
    repeat' (first
      | (simp -implicitDefEqProofs only [*, zr1, zr2, zr3, zr4, zr5, zr6, zr7, effEqS, eqL, eqV, effIsNil, effMark, onesA, effBytesStr, effStrBytes, effCopy, effClear, effMapUpd, effLookup, lookV, AV.plainVal, copyN, copyS, copyR, idsS, idsC, effNil, effPick, effBox, effBuild, effBuildS, effLoad, effStore, fvX, effBin, effUn, effConvInt, effConvStr, effClo, effMake, boundsV, effSlice, effSlice0, effSliceS, effFieldAddr, effField, effIndex, effIndexS, effExtract, effLen, effMax, effMin, effAppend, binF, unF, FV.isOne, AV.isOne, AV.cellsN, splice, fillA, srcF, bornA, growA, resA, argsE, argsF, Nat.reduceAdd, Nat.reduceSub, Nat.reduceMul, Nat.reduceLT, Nat.reduceLeDiff, Nat.reduceEqDiff, Nat.reduceBEq, reduceIte, reduceCtorEq, Int.reduceLE, Int.reduceLT, Int.reduceToNat, Int.reduceEq, Int.reduceNe])
      | ((first | apply condS_splitN | apply condS_split | apply guardS_splitTN | apply guardS_splitFN | apply guardD_splitTN | apply guardD_splitFN | apply guardS_splitT | apply guardS_splitF | apply guardD_splitT | apply guardD_splitF) <;> intro hc)
      | (refine callP0 rfl ?_)
      | (refine callD0 rfl ?_))
    exact ret_o (by simp [cellsOf, mkH, lookH]) (by simp)
theorem drop_f (c : Cache) (k m : Nat) (cs ds : List FV) (hcs : cs = rowF fBlob c.2.2.1) (hk : k = c.2.2.1.length) (l : List ByteArray) (hb : c.2.2.1.length ≤ 1000000) (hl : l.length ≤ 1000000) (hm : m * 3 ≤ ds.length) (room lease : Int) :
    FRetP Tryd.prog 43 [.v (.int .i64 room), .v (.int .i64 lease), .own 5 k cs, .own 3 m ds] [] [.f (frStrs l)]
      [.v (.int .i64 room), .v (.int .i64 lease), .own 5 (keepL (fun b : Blob => hasS b.1 l) c.2.2.1).length (rowF fBlob (keepL (fun b : Blob => hasS b.1 l) c.2.2.1) ++ (List.replicate (c.2.2.1.length - (keepL (fun b : Blob => hasS b.1 l) c.2.2.1).length) [.str ⟨#[]⟩, .int .i64 0, .int .i64 0, .int .i64 0, .int .i64 0]).flatten), .own 3 m ds] [] := by
  subst hcs hk
  refine FCall.of_ax low_cache_drop ?_
  dsimp only [l_cache_drop, frStrs]
  refine srun_sound 300 _ _ _ _ ?_
  repeat' (first
    | (simp -implicitDefEqProofs only [*, zr1, zr2, zr3, zr4, zr5, zr6, zr7, effEqS, eqL, eqV, effIsNil, effMark, onesA, effBytesStr, effStrBytes, effCopy, effClear, effMapUpd, effLookup, lookV, AV.plainVal, copyN, copyS, copyR, idsS, idsC, effNil, effPick, effBox, effBuild, effBuildS, effLoad, effStore, fvX, effBin, effUn, effConvInt, effConvStr, effClo, effMake, boundsV, effSlice, effSlice0, effSliceS, effFieldAddr, effField, effIndex, effIndexS, effExtract, effLen, effMax, effMin, effAppend, binF, unF, FV.isOne, AV.isOne, AV.cellsN, splice, fillA, srcF, bornA, growA, resA, argsE, argsF, Nat.reduceAdd, Nat.reduceSub, Nat.reduceMul, Nat.reduceLT, Nat.reduceLeDiff, Nat.reduceEqDiff, Nat.reduceBEq, reduceIte, reduceCtorEq, Int.reduceLE, Int.reduceLT, Int.reduceToNat, Int.reduceEq, Int.reduceNe])
    | ((first | apply condS_splitN | apply condS_split | apply guardS_splitTN | apply guardS_splitFN | apply guardD_splitTN | apply guardD_splitFN | apply guardS_splitT | apply guardS_splitF | apply guardD_splitT | apply guardD_splitF) <;> intro hc)
    | (refine callP0 rfl ?_)
    | (refine callD0 rfl ?_))
  refine ax_loopU (S := Nat) 26 [0, 4, 8, 9] [4, 80000, 81000, 100001] (fun s => [(10, .f (.int .i64 s))]) (fun s => [(7, 1, AObj.map (setL (l.take s)))]) (fun s => s ≤ l.length) (fun s => l.length - s) (0) [] ?_ ?_ fun s hs => ?_
  · exact Nat.zero_le _
  · refine ⟨rfl, (by first | exact small_0 | exact small_mk rfl | (repeat (first | exact small_0 | exact small_mk rfl | refine small_upd rfl ?_ | refine small_sw rfl rfl ?_))), rfl, rfl, (by rfl), ?_, ?_⟩ <;> simp only [List.take_zero, zw1, zw2, swN, ElOk, HlOk, Nat.reduceEqDiff, Nat.reduceBEq, Nat.reduceLT, Nat.reduceLeDiff, reduceIte, reduceCtorEq, H0, AObj.cells.injEq]
    rfl
  refine srun_sound 300 _ _ _ _ ?_
  rcases Nat.lt_or_ge s l.length with hlt | hge
  · obtain ⟨x, hx⟩ := get_some hlt
    have h4 := inc64 hlt (by omega)
    have h2 := lt_t hlt
    have hs2 : setL (l.take (s + 1)) = mSet x (.bool true) (setL (l.take s)) := by rw [List.take_add_one, hx, setL_snoc]; rfl
    repeat' (first
      | (simp -implicitDefEqProofs only [*, List.getElem?_map, Option.map_some, zr1, zr2, zr3, zr4, zr5, zr6, zr7, effEqS, eqL, eqV, effIsNil, effMark, onesA, effBytesStr, effStrBytes, effCopy, effClear, effMapUpd, effLookup, lookV, AV.plainVal, copyN, copyS, copyR, idsS, idsC, effNil, effPick, effBox, effBuild, effBuildS, effLoad, effStore, fvX, effBin, effUn, effConvInt, effConvStr, effClo, effMake, boundsV, effSlice, effSlice0, effSliceS, effFieldAddr, effField, effIndex, effIndexS, effExtract, effLen, effMax, effMin, effAppend, binF, unF, FV.isOne, AV.isOne, AV.cellsN, splice, fillA, srcF, bornA, growA, resA, argsE, argsF, Nat.reduceAdd, Nat.reduceSub, Nat.reduceMul, Nat.reduceLT, Nat.reduceLeDiff, Nat.reduceEqDiff, Nat.reduceBEq, reduceIte, reduceCtorEq, Int.reduceLE, Int.reduceLT, Int.reduceToNat, Int.reduceEq, Int.reduceNe])
      | ((first | apply condS_splitN | apply condS_split | apply guardS_splitTN | apply guardS_splitFN | apply guardD_splitTN | apply guardD_splitFN | apply guardS_splitT | apply guardS_splitF | apply guardD_splitT | apply guardD_splitF) <;> intro hc)
      | (refine callP0 rfl ?_)
      | (refine callD0 rfl ?_))
    refine ⟨s + 1, hlt, by omega, ?_⟩
    rw [hs2]
    refine ⟨rfl, (by first | exact small_0 | exact small_mk rfl | (repeat (first | exact small_0 | exact small_mk rfl | refine small_upd rfl ?_ | refine small_sw rfl rfl ?_))), rfl, rfl, (by rfl), ?_, ?_⟩ <;> simp only [zw1, zw2, swN, ElOk, HlOk, Nat.reduceEqDiff, Nat.reduceBEq, Nat.reduceLT, Nat.reduceLeDiff, reduceIte, reduceCtorEq, H0, AObj.cells.injEq]
  · obtain rfl : s = l.length := by omega
    have h2 := lt_f hge
    have h3 := List.take_length (l := l)
    repeat' (first
      | (simp -implicitDefEqProofs only [*, zr1, zr2, zr3, zr4, zr5, zr6, zr7, effEqS, eqL, eqV, effIsNil, effMark, onesA, effBytesStr, effStrBytes, effCopy, effClear, effMapUpd, effLookup, lookV, AV.plainVal, copyN, copyS, copyR, idsS, idsC, effNil, effPick, effBox, effBuild, effBuildS, effLoad, effStore, fvX, effBin, effUn, effConvInt, effConvStr, effClo, effMake, boundsV, effSlice, effSlice0, effSliceS, effFieldAddr, effField, effIndex, effIndexS, effExtract, effLen, effMax, effMin, effAppend, binF, unF, FV.isOne, AV.isOne, AV.cellsN, splice, fillA, srcF, bornA, growA, resA, argsE, argsF, Nat.reduceAdd, Nat.reduceSub, Nat.reduceMul, Nat.reduceLT, Nat.reduceLeDiff, Nat.reduceEqDiff, Nat.reduceBEq, reduceIte, reduceCtorEq, Int.reduceLE, Int.reduceLT, Int.reduceToNat, Int.reduceEq, Int.reduceNe])
      | ((first | apply condS_splitN | apply condS_split | apply guardS_splitTN | apply guardS_splitFN | apply guardD_splitTN | apply guardD_splitFN | apply guardS_splitT | apply guardS_splitF | apply guardD_splitT | apply guardD_splitF) <;> intro hc)
      | (refine callP0 rfl ?_)
      | (refine callD0 rfl ?_))
    refine ax_weakA [] (nw := []) (n := 26) (el := [(17, .ptr 100001 1 0), (21, .sl 80000 1 5 0 c.2.2.1.length), (22, .clo (.func 56) [.ptr 4 1 0])]) (hl := [(4, 1, .cells [.f (.fm (setL l))]), (80000, 1, .cells ((rowF fBlob c.2.2.1).map .f)), (81000, 1, .cells (ds.map .f)), (100001, 1, .cells [.f (.int .i64 room), .f (.int .i64 lease), .sl 80000 1 5 0 c.2.2.1.length, .sl 81000 1 3 0 m])]) rfl ?_ ?_
    · refine ⟨rfl, (by first | exact small_0 | exact small_mk rfl | (repeat (first | exact small_0 | exact small_mk rfl | refine small_upd rfl ?_ | refine small_sw rfl rfl ?_))), rfl, rfl, (by rfl), ?_, ?_⟩ <;> simp only [so_mf, mapOfH_some, so_ptf, so_cc, so_ff', cellsOf_some, List.drop_zero, List.take_succ_cons, List.take_zero, Nat.zero_add, Nat.le_refl, zw1, zw2, swN, ElOk, HlOk, Nat.reduceEqDiff, Nat.reduceBEq, Nat.reduceLT, Nat.reduceLeDiff, reduceIte, reduceCtorEq, H0, AObj.cells.injEq]
    refine ax_weakA [] (nw := []) (n := 26) (el := [(17, .ptr 100001 1 0), (21, .sl 80000 1 5 0 c.2.2.1.length), (22, .clo (.func 56) [.f (.fp [.fm (setL l)])])]) (hl := [(80000, 1, .cells ((rowF fBlob c.2.2.1).map .f)), (81000, 1, .cells (ds.map .f)), (100001, 1, .cells [.f (.int .i64 room), .f (.int .i64 lease), .sl 80000 1 5 0 c.2.2.1.length, .sl 81000 1 3 0 m])]) rfl ?_ ?_
    · refine ⟨rfl, (by first | exact small_0 | exact small_mk rfl | (repeat (first | exact small_0 | exact small_mk rfl | refine small_upd rfl ?_ | refine small_sw rfl rfl ?_))), rfl, rfl, (by rfl), ?_, ?_⟩ <;> simp only [so_mf, mapOfH_some, so_ptf, so_cc, so_ff', cellsOf_some, List.drop_zero, List.take_succ_cons, List.take_zero, Nat.zero_add, Nat.le_refl, zw1, zw2, swN, ElOk, HlOk, Nat.reduceEqDiff, Nat.reduceBEq, Nat.reduceLT, Nat.reduceLeDiff, reduceIte, reduceCtorEq, H0, AObj.cells.injEq]
    refine callM rfl (delf_blob c.2.2.1 _ [.f (.fp [.fm (setL l)])] (fun b => hasS b.1 l) hb (fun x _ => dropC_f x l) rfl) rfl [.sl 80000 1 5 0 c.2.2.1.length] [.clo (.func 56) [.f (.fp [.fm (setL l)])]] rfl ⟨.inr ⟨_, _, rfl, rfl, by rw [row_len (sz := 5) (fun _ => rfl)]; exact Nat.le_refl _⟩, rfl⟩ (by simp [idsS]) (LeL.refl _) rfl (by exact free_mk (by simp)) ?_
    repeat' (first
      | (simp -implicitDefEqProofs only [*, zr1, zr2, zr3, zr4, zr5, zr6, zr7, effEqS, eqL, eqV, effIsNil, effMark, onesA, effBytesStr, effStrBytes, effCopy, effClear, effMapUpd, effLookup, lookV, AV.plainVal, copyN, copyS, copyR, idsS, idsC, effNil, effPick, effBox, effBuild, effBuildS, effLoad, effStore, fvX, effBin, effUn, effConvInt, effConvStr, effClo, effMake, boundsV, effSlice, effSlice0, effSliceS, effFieldAddr, effField, effIndex, effIndexS, effExtract, effLen, effMax, effMin, effAppend, binF, unF, FV.isOne, AV.isOne, AV.cellsN, splice, fillA, srcF, bornA, growA, resA, argsE, argsF, Nat.reduceAdd, Nat.reduceSub, Nat.reduceMul, Nat.reduceLT, Nat.reduceLeDiff, Nat.reduceEqDiff, Nat.reduceBEq, reduceIte, reduceCtorEq, Int.reduceLE, Int.reduceLT, Int.reduceToNat, Int.reduceEq, Int.reduceNe])
      | ((first | apply condS_splitN | apply condS_split | apply guardS_splitTN | apply guardS_splitFN | apply guardD_splitTN | apply guardD_splitFN | apply guardS_splitT | apply guardS_splitF | apply guardD_splitT | apply guardD_splitF) <;> intro hc)
      | (refine callP0 rfl ?_)
      | (refine callD0 rfl ?_))
    exact ⟨[], [.f (.int .i64 room), .f (.int .i64 lease), .sl 23 1 5 0 (keepL (fun b : Blob => hasS b.1 l) c.2.2.1).length, .sl 81000 1 3 0 m], rfl, rfl, ⟨rfl, rfl, .inr ⟨23, 1, rfl, rfl, by rw [List.length_append, row_len (sz := 5) (fun _ => rfl)]; exact Nat.le_add_right _ _⟩, .inr ⟨81000, 1, rfl, rfl, hm⟩, rfl⟩, rfl, by simp [idsC, idsS], by simp [idsC, idsS]⟩
end Go.Proofs.YteeemcghdhdodaaDoor
