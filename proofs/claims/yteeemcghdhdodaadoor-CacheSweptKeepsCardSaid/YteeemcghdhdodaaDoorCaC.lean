/-
  The cache's find, entryAt, missing, Used, Broken on the machine. No statement of the seat is proved here; no conditions.
-/
import Derived.Test.YteeemcghdhdodaaDoorCaO
namespace Go.Proofs.YteeemcghdhdodaaDoor
open Go.RowKit Go.Shelf
set_option linter.unusedVariables false
set_option linter.unusedSimpArgs false
set_option maxRecDepth 100000

def bIdx (l : List Blob) (t : ByteArray) : Nat := bsIdx (fun b => cmpB b.1 t) l
def eIdx (l : List Entry) (t : ByteArray) : Nat := bsIdx (fun b => cmpB b.1 t) l
def hasB (l : List Blob) (t : ByteArray) : Bool := hasK (fun b : Blob => b.1) l t
def hasE (l : List Entry) (t : ByteArray) : Bool := hasK (fun b : Entry => b.1) l t
theorem find_f (c : Cache) (t : ByteArray) (hl : c.2.2.1.length ≤ 1000000) (hr : Rising (fun b : Blob => b.1) c.2.2.1) : FRet Tryd.prog 47 [aCache c, .f (.str t)] [.c (.v (.int .i64 (bIdx c.2.2.1 t))), .c (.v (.bool (hasB c.2.2.1 t)))] := by
  rw [bIdx, hasB, ← bsHit_eq hr]
  refine FCall.of_ax low_cache_find ?_
  dsimp only [l_cache_find, aCache, frBlobs]
  refine srun_sound 300 _ _ _ _ ?_
  repeat' (first
    | (simp -implicitDefEqProofs only [*, zr1, zr2, zr3, zr4, zr5, zr6, zr7, effEqS, eqL, eqV, effIsNil, effMark, onesA, effBytesStr, effStrBytes, effCopy, effClear, effMapUpd, effLookup, lookV, AV.plainVal, copyN, copyS, copyR, idsS, idsC, effNil, effPick, effBox, effBuild, effBuildS, effLoad, effStore, fvX, effBin, effUn, effConvInt, effConvStr, effClo, effMake, boundsV, effSlice, effSlice0, effSliceS, effFieldAddr, effField, effIndex, effIndexS, effExtract, effLen, effMax, effMin, effAppend, binF, unF, FV.isOne, AV.isOne, AV.cellsN, splice, fillA, srcF, bornA, growA, resA, argsE, argsF, Nat.reduceAdd, Nat.reduceSub, Nat.reduceMul, Nat.reduceLT, Nat.reduceLeDiff, Nat.reduceEqDiff, Nat.reduceBEq, reduceIte, reduceCtorEq, Int.reduceLE, Int.reduceLT, Int.reduceToNat, Int.reduceEq, Int.reduceNe])
    | ((first | apply condS_splitN | apply condS_split | apply guardS_splitTN | apply guardS_splitFN | apply guardD_splitTN | apply guardD_splitFN | apply guardS_splitT | apply guardS_splitF | apply guardD_splitT | apply guardD_splitF) <;> intro hc)
    | (refine callP0 rfl ?_)
    | (refine callD0 rfl ?_)
    | (refine callP rfl (bs_blob c.2.2.1 t _ (fun b => cmpB b.1 t) hl (fun x _ => findC_f x t) (mono_of hr t)) rfl (by first | exact LeL.refl _ | ((repeat (first | exact LeL.refl _ | exact LeA.refl _ | exact LeA.nil _ | refine LeL.cons ?_ ?_ | refine LeA.agg ?_)); first | done | fail)) rfl (by first | exact free_0 | exact free_mk rfl | (repeat (first | exact free_0 | exact free_mk rfl | exact free_mk (by simp) | refine free_upd rfl ?_))) ?_)
    | (refine callD rfl (bs_blob c.2.2.1 t _ (fun b => cmpB b.1 t) hl (fun x _ => findC_f x t) (mono_of hr t)) rfl (by first | exact LeL.refl _ | ((repeat (first | exact LeL.refl _ | exact LeA.refl _ | exact LeA.nil _ | refine LeL.cons ?_ ?_ | refine LeA.agg ?_)); first | done | fail)) rfl rfl ?_)
    | (refine callDO rfl (bs_blob c.2.2.1 t _ (fun b => cmpB b.1 t) hl (fun x _ => findC_f x t) (mono_of hr t)) rfl (by first | exact LeL.refl _ | ((repeat (first | exact LeL.refl _ | exact LeA.refl _ | exact LeA.nil _ | refine LeL.cons ?_ ?_ | refine LeA.agg ?_)); first | done | fail)) rfl (by first | exact free_0 | exact free_mk rfl | (repeat (first | exact free_0 | exact free_mk rfl | exact free_mk (by simp) | refine free_upd rfl ?_))) rfl ?_))
  exact ret_vv
theorem entryAt_f (c : Cache) (t : ByteArray) (hl : c.2.2.2.length ≤ 1000000) (hr : Rising (fun b : Entry => b.1) c.2.2.2) : FRet Tryd.prog 46 [aCache c, .f (.str t)] [.c (.v (.int .i64 (eIdx c.2.2.2 t))), .c (.v (.bool (hasE c.2.2.2 t)))] := by
  rw [eIdx, hasE, ← bsHit_eq hr]
  refine FCall.of_ax low_cache_entryAt ?_
  dsimp only [l_cache_entryAt, aCache, frEntries]
  refine srun_sound 300 _ _ _ _ ?_
  repeat' (first
    | (simp -implicitDefEqProofs only [*, zr1, zr2, zr3, zr4, zr5, zr6, zr7, effEqS, eqL, eqV, effIsNil, effMark, onesA, effBytesStr, effStrBytes, effCopy, effClear, effMapUpd, effLookup, lookV, AV.plainVal, copyN, copyS, copyR, idsS, idsC, effNil, effPick, effBox, effBuild, effBuildS, effLoad, effStore, fvX, effBin, effUn, effConvInt, effConvStr, effClo, effMake, boundsV, effSlice, effSlice0, effSliceS, effFieldAddr, effField, effIndex, effIndexS, effExtract, effLen, effMax, effMin, effAppend, binF, unF, FV.isOne, AV.isOne, AV.cellsN, splice, fillA, srcF, bornA, growA, resA, argsE, argsF, Nat.reduceAdd, Nat.reduceSub, Nat.reduceMul, Nat.reduceLT, Nat.reduceLeDiff, Nat.reduceEqDiff, Nat.reduceBEq, reduceIte, reduceCtorEq, Int.reduceLE, Int.reduceLT, Int.reduceToNat, Int.reduceEq, Int.reduceNe])
    | ((first | apply condS_splitN | apply condS_split | apply guardS_splitTN | apply guardS_splitFN | apply guardD_splitTN | apply guardD_splitFN | apply guardS_splitT | apply guardS_splitF | apply guardD_splitT | apply guardD_splitF) <;> intro hc)
    | (refine callP0 rfl ?_)
    | (refine callD0 rfl ?_)
    | (refine callP rfl (bs_entry c.2.2.2 t _ (fun b => cmpB b.1 t) hl (fun x _ => entryAtC_f x t) (mono_of hr t)) rfl (by first | exact LeL.refl _ | ((repeat (first | exact LeL.refl _ | exact LeA.refl _ | exact LeA.nil _ | refine LeL.cons ?_ ?_ | refine LeA.agg ?_)); first | done | fail)) rfl (by first | exact free_0 | exact free_mk rfl | (repeat (first | exact free_0 | exact free_mk rfl | exact free_mk (by simp) | refine free_upd rfl ?_))) ?_)
    | (refine callD rfl (bs_entry c.2.2.2 t _ (fun b => cmpB b.1 t) hl (fun x _ => entryAtC_f x t) (mono_of hr t)) rfl (by first | exact LeL.refl _ | ((repeat (first | exact LeL.refl _ | exact LeA.refl _ | exact LeA.nil _ | refine LeL.cons ?_ ?_ | refine LeA.agg ?_)); first | done | fail)) rfl rfl ?_)
    | (refine callDO rfl (bs_entry c.2.2.2 t _ (fun b => cmpB b.1 t) hl (fun x _ => entryAtC_f x t) (mono_of hr t)) rfl (by first | exact LeL.refl _ | ((repeat (first | exact LeL.refl _ | exact LeA.refl _ | exact LeA.nil _ | refine LeL.cons ?_ ?_ | refine LeA.agg ?_)); first | done | fail)) rfl (by first | exact free_0 | exact free_mk rfl | (repeat (first | exact free_0 | exact free_mk rfl | exact free_mk (by simp) | refine free_upd rfl ?_))) rfl ?_))
  exact ret_vv
/-- Those that are not kept. -/
def missingOf (bl : List Blob) (l : List ByteArray) : List ByteArray := l.filter fun d => !hasB bl d
theorem missing_snoc {bl : List Blob} {l : List ByteArray} {i : Nat} {d : ByteArray} (h : l[i]? = some d) : missingOf bl (l.take (i + 1)) = missingOf bl (l.take i) ++ if hasB bl d = true then [] else [d] := by
  rw [List.take_add_one, h, missingOf, List.filter_append, ← missingOf]
  cases hd : hasB bl d <;> simp [hd]
theorem missing_len (bl : List Blob) (l : List ByteArray) : (missingOf bl l).length ≤ l.length := List.length_filter_le _ _
theorem missing_f (c : Cache) (l : List ByteArray) (hl : c.2.2.1.length ≤ 1000000) (hr : Rising (fun b : Blob => b.1) c.2.2.1) (hn : l.length ≤ 1000000) : FRet Tryd.prog 34 [aCache c, .f (frStrs l)] [.c (.own 1 (missingOf c.2.2.1 l).length ((missingOf c.2.2.1 l).map .str))] := by
  obtain ⟨room, lease, bl, en⟩ := c
  simp only at hl hr ⊢
  refine FCall.of_ax low_cache_missing ?_
  dsimp only [l_cache_missing, aCache, frStrs]
  refine srun_sound 300 _ _ _ _ ?_
  repeat' (first
    | (simp -implicitDefEqProofs only [*, frBlobs, frEntries, zr1, zr2, zr3, zr4, zr5, zr6, zr7, effEqS, eqL, eqV, effIsNil, effMark, onesA, effBytesStr, effStrBytes, effCopy, effClear, effMapUpd, effLookup, lookV, AV.plainVal, copyN, copyS, copyR, idsS, idsC, effNil, effPick, effBox, effBuild, effBuildS, effLoad, effStore, fvX, effBin, effUn, effConvInt, effConvStr, effClo, effMake, boundsV, effSlice, effSlice0, effSliceS, effFieldAddr, effField, effIndex, effIndexS, effExtract, effLen, effMax, effMin, effAppend, binF, unF, FV.isOne, AV.isOne, AV.cellsN, splice, fillA, srcF, bornA, growA, resA, argsE, argsF, Nat.reduceAdd, Nat.reduceSub, Nat.reduceMul, Nat.reduceLT, Nat.reduceLeDiff, Nat.reduceEqDiff, Nat.reduceBEq, reduceIte, reduceCtorEq, Int.reduceLE, Int.reduceLT, Int.reduceToNat, Int.reduceEq, Int.reduceNe])
    | ((first | apply condS_splitN | apply condS_split | apply guardS_splitTN | apply guardS_splitFN | apply guardD_splitTN | apply guardD_splitFN | apply guardS_splitT | apply guardS_splitF | apply guardD_splitT | apply guardD_splitF) <;> intro hc)
    | (refine callP0 rfl ?_)
    | (refine callD0 rfl ?_))
  refine ax_loopU (S := Nat) 30 [2, 10, 11] [2] (fun s => [(12, .f (.int .i64 s)), (5, .sl 27 1 1 0 (missingOf bl (l.take s)).length)]) (fun s => [(27, 1, ((missingOf bl (l.take s)).map FV.str).map AV.f)]) (fun s => s ≤ l.length) (fun s => l.length - s) (0) [27] ?_ ?_ fun s hs => ?_
  · exact Nat.zero_le _
  · refine ⟨rfl, (by first | exact small_0 | exact small_mk rfl | (repeat (first | exact small_0 | exact small_mk rfl | refine small_upd rfl ?_ | refine small_sw rfl rfl ?_))), rfl, rfl, (by rfl), ?_, ?_⟩ <;> simp only [List.take_zero, show missingOf bl [] = [] from rfl, zw1, zw2, swN, ElOk, HlOk, Nat.reduceEqDiff, Nat.reduceBEq, Nat.reduceLT, Nat.reduceLeDiff, reduceIte, reduceCtorEq, H0, AObj.cells.injEq]
  refine srun_sound 300 _ _ _ _ ?_
  rcases Nat.lt_or_ge s l.length with hlt | hge
  · obtain ⟨x, hx⟩ := get_some hlt
    have h4 := inc64 hlt (by omega)
    have h2 := lt_t hlt
    have hs := missing_snoc (bl := bl) hx
    have hlen := missing_len bl (l.take s)
    rw [List.length_take] at hlen
    have h8 : (((missingOf bl (l.take s)).length + 1) * 16 ≤ 140737488355328) = True := by rw [eq_iff_iff, iff_true]; omega
    generalize hm : missingOf bl (l.take s) = m at hs h8 ⊢
    repeat' (first
      | (simp -implicitDefEqProofs only [*, List.getElem?_map, Option.map_some, zr1, zr2, zr3, zr4, zr5, zr6, zr7, effEqS, eqL, eqV, effIsNil, effMark, onesA, effBytesStr, effStrBytes, effCopy, effClear, effMapUpd, effLookup, lookV, AV.plainVal, copyN, copyS, copyR, idsS, idsC, effNil, effPick, effBox, effBuild, effBuildS, effLoad, effStore, fvX, effBin, effUn, effConvInt, effConvStr, effClo, effMake, boundsV, effSlice, effSlice0, effSliceS, effFieldAddr, effField, effIndex, effIndexS, effExtract, effLen, effMax, effMin, effAppend, binF, unF, FV.isOne, AV.isOne, AV.cellsN, splice, fillA, srcF, bornA, growA, resA, argsE, argsF, Nat.reduceAdd, Nat.reduceSub, Nat.reduceMul, Nat.reduceLT, Nat.reduceLeDiff, Nat.reduceEqDiff, Nat.reduceBEq, reduceIte, reduceCtorEq, Int.reduceLE, Int.reduceLT, Int.reduceToNat, Int.reduceEq, Int.reduceNe])
      | ((first | apply condS_splitN | apply condS_split | apply guardS_splitTN | apply guardS_splitFN | apply guardD_splitTN | apply guardD_splitFN | apply guardS_splitT | apply guardS_splitF | apply guardD_splitT | apply guardD_splitF) <;> intro hc)
      | (refine callP0 rfl ?_)
      | (refine callD0 rfl ?_)
      | (refine callP rfl (find_f (room, lease, bl, en) x hl hr) rfl (by first | exact LeL.refl _ | ((repeat (first | exact LeL.refl _ | exact LeA.refl _ | exact LeA.nil _ | refine LeL.cons ?_ ?_ | refine LeA.agg ?_)); first | done | fail)) rfl (by first | exact free_0 | exact free_mk rfl | (repeat (first | exact free_0 | exact free_mk rfl | exact free_mk (by simp) | refine free_upd rfl ?_))) ?_)
      | (refine callD rfl (find_f (room, lease, bl, en) x hl hr) rfl (by first | exact LeL.refl _ | ((repeat (first | exact LeL.refl _ | exact LeA.refl _ | exact LeA.nil _ | refine LeL.cons ?_ ?_ | refine LeA.agg ?_)); first | done | fail)) rfl rfl ?_)
      | (refine callDO rfl (find_f (room, lease, bl, en) x hl hr) rfl (by first | exact LeL.refl _ | ((repeat (first | exact LeL.refl _ | exact LeA.refl _ | exact LeA.nil _ | refine LeL.cons ?_ ?_ | refine LeA.agg ?_)); first | done | fail)) rfl (by first | exact free_0 | exact free_mk rfl | (repeat (first | exact free_0 | exact free_mk rfl | exact free_mk (by simp) | refine free_upd rfl ?_))) rfl ?_))
    all_goals (simp only [hc, if_true, if_false, Bool.false_eq_true, List.append_nil] at hs; refine ⟨s + 1, hlt, by omega, ?_⟩; rw [hs]; refine ⟨rfl, (by first | exact small_0 | exact small_mk rfl | (repeat (first | exact small_0 | exact small_mk rfl | refine small_upd rfl ?_ | refine small_sw rfl rfl ?_))), rfl, rfl, (by rfl), ?_, ?_⟩ <;> simp only [List.length_append, zw1, zw2, swN, ElOk, HlOk, Nat.reduceEqDiff, Nat.reduceBEq, Nat.reduceLT, Nat.reduceLeDiff, reduceIte, reduceCtorEq, H0, AObj.cells.injEq])
    exact SlotsOk.of_eq (by simp)
  · obtain rfl : s = l.length := by omega
    have h2 := lt_f hge
    have h3 := List.take_length (l := l)
    repeat' (first
      | (simp -implicitDefEqProofs only [*, zr1, zr2, zr3, zr4, zr5, zr6, zr7, effEqS, eqL, eqV, effIsNil, effMark, onesA, effBytesStr, effStrBytes, effCopy, effClear, effMapUpd, effLookup, lookV, AV.plainVal, copyN, copyS, copyR, idsS, idsC, effNil, effPick, effBox, effBuild, effBuildS, effLoad, effStore, fvX, effBin, effUn, effConvInt, effConvStr, effClo, effMake, boundsV, effSlice, effSlice0, effSliceS, effFieldAddr, effField, effIndex, effIndexS, effExtract, effLen, effMax, effMin, effAppend, binF, unF, FV.isOne, AV.isOne, AV.cellsN, splice, fillA, srcF, bornA, growA, resA, argsE, argsF, Nat.reduceAdd, Nat.reduceSub, Nat.reduceMul, Nat.reduceLT, Nat.reduceLeDiff, Nat.reduceEqDiff, Nat.reduceBEq, reduceIte, reduceCtorEq, Int.reduceLE, Int.reduceLT, Int.reduceToNat, Int.reduceEq, Int.reduceNe])
      | ((first | apply condS_splitN | apply condS_split | apply guardS_splitTN | apply guardS_splitFN | apply guardD_splitTN | apply guardD_splitFN | apply guardS_splitT | apply guardS_splitF | apply guardD_splitT | apply guardD_splitF) <;> intro hc)
      | (refine callP0 rfl ?_)
      | (refine callD0 rfl ?_))
    exact ret_o (by simp [cellsOf, mkH, lookH]) (by simp)
theorem Used_f (c : Cache) (hb : CBound c) : FRet Tryd.prog 12 [aCache c] [.c (.v (.int .i64 (if ckCache c = 0 then sumSz c.2.2.1 else 0))), .c (.v (.int .i64 (ckCache c)))] := by
  have hw := fun h : ckCache c = 0 => (cok_of h).wsum
  obtain ⟨room, lease, bl, en⟩ := c
  simp only at hw ⊢
  refine FCall.of_ax low_cache_Used ?_
  dsimp only [l_cache_Used, aCache]
  refine srun_sound 300 _ _ _ _ ?_
  repeat' (first
    | (simp -implicitDefEqProofs only [*, frBlobs, frEntries, zr1, zr2, zr3, zr4, zr5, zr6, zr7, effEqS, eqL, eqV, effIsNil, effMark, onesA, effBytesStr, effStrBytes, effCopy, effClear, effMapUpd, effLookup, lookV, AV.plainVal, copyN, copyS, copyR, idsS, idsC, effNil, effPick, effBox, effBuild, effBuildS, effLoad, effStore, fvX, effBin, effUn, effConvInt, effConvStr, effClo, effMake, boundsV, effSlice, effSlice0, effSliceS, effFieldAddr, effField, effIndex, effIndexS, effExtract, effLen, effMax, effMin, effAppend, binF, unF, FV.isOne, AV.isOne, AV.cellsN, splice, fillA, srcF, bornA, growA, resA, argsE, argsF, Nat.reduceAdd, Nat.reduceSub, Nat.reduceMul, Nat.reduceLT, Nat.reduceLeDiff, Nat.reduceEqDiff, Nat.reduceBEq, reduceIte, reduceCtorEq, Int.reduceLE, Int.reduceLT, Int.reduceToNat, Int.reduceEq, Int.reduceNe])
    | ((first | apply condS_splitN | apply condS_split | apply guardS_splitTN | apply guardS_splitFN | apply guardD_splitTN | apply guardD_splitFN | apply guardS_splitT | apply guardS_splitF | apply guardD_splitT | apply guardD_splitF) <;> intro hc)
    | (refine callP0 rfl ?_)
    | (refine callD0 rfl ?_)
    | (refine callP rfl (CheckCache_f isDigest_f (room, lease, bl, en) hb) rfl (by first | exact LeL.refl _ | ((repeat (first | exact LeL.refl _ | exact LeA.refl _ | exact LeA.nil _ | refine LeL.cons ?_ ?_ | refine LeA.agg ?_)); first | done | fail)) rfl (by first | exact free_0 | exact free_mk rfl | (repeat (first | exact free_0 | exact free_mk rfl | exact free_mk (by simp) | refine free_upd rfl ?_))) ?_)
    | (refine callD rfl (CheckCache_f isDigest_f (room, lease, bl, en) hb) rfl (by first | exact LeL.refl _ | ((repeat (first | exact LeL.refl _ | exact LeA.refl _ | exact LeA.nil _ | refine LeL.cons ?_ ?_ | refine LeA.agg ?_)); first | done | fail)) rfl rfl ?_)
    | (refine callDO rfl (CheckCache_f isDigest_f (room, lease, bl, en) hb) rfl (by first | exact LeL.refl _ | ((repeat (first | exact LeL.refl _ | exact LeA.refl _ | exact LeA.nil _ | refine LeL.cons ?_ ?_ | refine LeA.agg ?_)); first | done | fail)) rfl (by first | exact free_0 | exact free_mk rfl | (repeat (first | exact free_0 | exact free_mk rfl | exact free_mk (by simp) | refine free_upd rfl ?_))) rfl ?_)
    | (refine callP rfl (used_f (room, lease, bl, en) hb.1) rfl (by first | exact LeL.refl _ | ((repeat (first | exact LeL.refl _ | exact LeA.refl _ | exact LeA.nil _ | refine LeL.cons ?_ ?_ | refine LeA.agg ?_)); first | done | fail)) rfl (by first | exact free_0 | exact free_mk rfl | (repeat (first | exact free_0 | exact free_mk rfl | exact free_mk (by simp) | refine free_upd rfl ?_))) ?_)
    | (refine callD rfl (used_f (room, lease, bl, en) hb.1) rfl (by first | exact LeL.refl _ | ((repeat (first | exact LeL.refl _ | exact LeA.refl _ | exact LeA.nil _ | refine LeL.cons ?_ ?_ | refine LeA.agg ?_)); first | done | fail)) rfl rfl ?_)
    | (refine callDO rfl (used_f (room, lease, bl, en) hb.1) rfl (by first | exact LeL.refl _ | ((repeat (first | exact LeL.refl _ | exact LeA.refl _ | exact LeA.nil _ | refine LeL.cons ?_ ?_ | refine LeA.agg ?_)); first | done | fail)) rfl (by first | exact free_0 | exact free_mk rfl | (repeat (first | exact free_0 | exact free_mk rfl | exact free_mk (by simp) | refine free_upd rfl ?_))) rfl ?_))
  all_goals try simp only [decide_eq_true_eq, decide_eq_false_iff_not] at *
  · exact ret_vve (by simp only [*, Int.reduceEq, Int.reduceNe, if_true, if_false, ne_eq, not_true_eq_false, not_false_eq_true, reduceIte, Bool.false_eq_true, Bool.true_and, Bool.and_true, Bool.false_and, Bool.and_false, Bool.not_true, Bool.not_false, Bool.true_or, Bool.or_true, Bool.false_or, Bool.or_false, decide_true, decide_false, reduceCtorEq]) rfl
  · exact ret_vve (by rw [if_pos hc, hw hc]) (by rw [hc])
def brokenOf (bl : List Blob) (l : List Entry) : List ByteArray := (l.filter fun e => decide (missingOf bl e.2.1 ≠ [])).map (·.1)
theorem broken_snoc {bl : List Blob} {l : List Entry} {i : Nat} {d : Entry} (h : l[i]? = some d) : brokenOf bl (l.take (i + 1)) = brokenOf bl (l.take i) ++ if decide ((0 : Int) < (missingOf bl d.2.1).length) = true then [d.1] else [] := by
  rw [List.take_add_one, h, brokenOf, List.filter_append, List.map_append, ← brokenOf]
  cases hd : missingOf bl d.2.1 <;> simp [hd]
theorem broken_len (bl : List Blob) (l : List Entry) : (brokenOf bl l).length ≤ l.length := by rw [brokenOf, List.length_map]; exact List.length_filter_le _ _
theorem Broken_f (c : Cache) (hb : CBound c) : FRet Tryd.prog 14 [aCache c] [.c (.own 1 (if ckCache c = 0 then brokenOf c.2.2.1 c.2.2.2 else []).length ((if ckCache c = 0 then brokenOf c.2.2.1 c.2.2.2 else []).map .str)), .c (.v (.int .i64 (ckCache c)))] := by
  have hok := fun h : ckCache c = 0 => cok_of h
  obtain ⟨room, lease, bl, en⟩ := c
  simp only at hok ⊢
  refine FCall.of_ax low_cache_Broken ?_
  dsimp only [l_cache_Broken, aCache]
  refine srun_sound 300 _ _ _ _ ?_
  by_cases h0 : ckCache (room, lease, bl, en) = 0
  case neg =>
    have hd : decide (ckCache (room, lease, bl, en) = 0) = false := by simpa using h0
    rw [if_neg h0]
    clear hok
    repeat' (first
      | (simp -implicitDefEqProofs only [*, frBlobs, frEntries, zr1, zr2, zr3, zr4, zr5, zr6, zr7, effEqS, eqL, eqV, effIsNil, effMark, onesA, effBytesStr, effStrBytes, effCopy, effClear, effMapUpd, effLookup, lookV, AV.plainVal, copyN, copyS, copyR, idsS, idsC, effNil, effPick, effBox, effBuild, effBuildS, effLoad, effStore, fvX, effBin, effUn, effConvInt, effConvStr, effClo, effMake, boundsV, effSlice, effSlice0, effSliceS, effFieldAddr, effField, effIndex, effIndexS, effExtract, effLen, effMax, effMin, effAppend, binF, unF, FV.isOne, AV.isOne, AV.cellsN, splice, fillA, srcF, bornA, growA, resA, argsE, argsF, Nat.reduceAdd, Nat.reduceSub, Nat.reduceMul, Nat.reduceLT, Nat.reduceLeDiff, Nat.reduceEqDiff, Nat.reduceBEq, reduceIte, reduceCtorEq, Int.reduceLE, Int.reduceLT, Int.reduceToNat, Int.reduceEq, Int.reduceNe])
      | ((first | apply condS_splitN | apply condS_split | apply guardS_splitTN | apply guardS_splitFN | apply guardD_splitTN | apply guardD_splitFN | apply guardS_splitT | apply guardS_splitF | apply guardD_splitT | apply guardD_splitF) <;> intro hc)
      | (refine callP0 rfl ?_)
      | (refine callD0 rfl ?_)
      | (refine callP rfl (CheckCache_f isDigest_f (room, lease, bl, en) hb) rfl (by first | exact LeL.refl _ | ((repeat (first | exact LeL.refl _ | exact LeA.refl _ | exact LeA.nil _ | refine LeL.cons ?_ ?_ | refine LeA.agg ?_)); first | done | fail)) rfl (by first | exact free_0 | exact free_mk rfl | (repeat (first | exact free_0 | exact free_mk rfl | exact free_mk (by simp) | refine free_upd rfl ?_))) ?_)
      | (refine callD rfl (CheckCache_f isDigest_f (room, lease, bl, en) hb) rfl (by first | exact LeL.refl _ | ((repeat (first | exact LeL.refl _ | exact LeA.refl _ | exact LeA.nil _ | refine LeL.cons ?_ ?_ | refine LeA.agg ?_)); first | done | fail)) rfl rfl ?_)
      | (refine callDO rfl (CheckCache_f isDigest_f (room, lease, bl, en) hb) rfl (by first | exact LeL.refl _ | ((repeat (first | exact LeL.refl _ | exact LeA.refl _ | exact LeA.nil _ | refine LeL.cons ?_ ?_ | refine LeA.agg ?_)); first | done | fail)) rfl (by first | exact free_0 | exact free_mk rfl | (repeat (first | exact free_0 | exact free_mk rfl | exact free_mk (by simp) | refine free_upd rfl ?_))) rfl ?_))
    exact ret_onv rfl rfl rfl
  have hO := hok h0
  rw [if_pos h0]
  have hd : decide (ckCache (room, lease, bl, en) = 0) = true := by simpa using h0
  clear hok
  rw [h0]
  have hl3 : bl.length ≤ 1000000 := by have := hO.blen; simp only at this; omega
  have hrb : Rising (fun b : Blob => b.1) bl := hO.rb
  have hel : en.length ≤ 1000 := hO.elen
  have href : ∀ e ∈ en, e.2.1.length ≤ 200 := hO.refs
  clear hO
  repeat' (first
    | (simp -implicitDefEqProofs only [*, frBlobs, frEntries, zr1, zr2, zr3, zr4, zr5, zr6, zr7, effEqS, eqL, eqV, effIsNil, effMark, onesA, effBytesStr, effStrBytes, effCopy, effClear, effMapUpd, effLookup, lookV, AV.plainVal, copyN, copyS, copyR, idsS, idsC, effNil, effPick, effBox, effBuild, effBuildS, effLoad, effStore, fvX, effBin, effUn, effConvInt, effConvStr, effClo, effMake, boundsV, effSlice, effSlice0, effSliceS, effFieldAddr, effField, effIndex, effIndexS, effExtract, effLen, effMax, effMin, effAppend, binF, unF, FV.isOne, AV.isOne, AV.cellsN, splice, fillA, srcF, bornA, growA, resA, argsE, argsF, Nat.reduceAdd, Nat.reduceSub, Nat.reduceMul, Nat.reduceLT, Nat.reduceLeDiff, Nat.reduceEqDiff, Nat.reduceBEq, reduceIte, reduceCtorEq, Int.reduceLE, Int.reduceLT, Int.reduceToNat, Int.reduceEq, Int.reduceNe])
    | ((first | apply condS_splitN | apply condS_split | apply guardS_splitTN | apply guardS_splitFN | apply guardD_splitTN | apply guardD_splitFN | apply guardS_splitT | apply guardS_splitF | apply guardD_splitT | apply guardD_splitF) <;> intro hc)
    | (refine callP0 rfl ?_)
    | (refine callD0 rfl ?_)
    | (refine callP rfl (CheckCache_f isDigest_f (room, lease, bl, en) hb) rfl (by first | exact LeL.refl _ | ((repeat (first | exact LeL.refl _ | exact LeA.refl _ | exact LeA.nil _ | refine LeL.cons ?_ ?_ | refine LeA.agg ?_)); first | done | fail)) rfl (by first | exact free_0 | exact free_mk rfl | (repeat (first | exact free_0 | exact free_mk rfl | exact free_mk (by simp) | refine free_upd rfl ?_))) ?_)
    | (refine callD rfl (CheckCache_f isDigest_f (room, lease, bl, en) hb) rfl (by first | exact LeL.refl _ | ((repeat (first | exact LeL.refl _ | exact LeA.refl _ | exact LeA.nil _ | refine LeL.cons ?_ ?_ | refine LeA.agg ?_)); first | done | fail)) rfl rfl ?_)
    | (refine callDO rfl (CheckCache_f isDigest_f (room, lease, bl, en) hb) rfl (by first | exact LeL.refl _ | ((repeat (first | exact LeL.refl _ | exact LeA.refl _ | exact LeA.nil _ | refine LeL.cons ?_ ?_ | refine LeA.agg ?_)); first | done | fail)) rfl (by first | exact free_0 | exact free_mk rfl | (repeat (first | exact free_0 | exact free_mk rfl | exact free_mk (by simp) | refine free_upd rfl ?_))) rfl ?_))
  refine ax_loopU (S := Nat) 33 [1, 14, 15] [1] (fun s => [(16, .f (.int .i64 s)), (5, .sl 30 1 1 0 (brokenOf bl (en.take s)).length)]) (fun s => [(30, 1, ((brokenOf bl (en.take s)).map FV.str).map AV.f)]) (fun s => s ≤ en.length) (fun s => en.length - s) (0) [30] ?_ ?_ fun s hs => ?_
  · exact Nat.zero_le _
  · refine ⟨rfl, (by first | exact small_0 | exact small_mk rfl | (repeat (first | exact small_0 | exact small_mk rfl | refine small_upd rfl ?_ | refine small_sw rfl rfl ?_))), rfl, rfl, (by rfl), ?_, ?_⟩ <;> simp only [List.take_zero, show brokenOf bl [] = [] from rfl, zw1, zw2, swN, ElOk, HlOk, Nat.reduceEqDiff, Nat.reduceBEq, Nat.reduceLT, Nat.reduceLeDiff, reduceIte, reduceCtorEq, H0, AObj.cells.injEq]
  refine srun_sound 300 _ _ _ _ ?_
  rcases Nat.lt_or_ge s en.length with hlt | hge
  · obtain ⟨x, hx⟩ := get_some hlt
    have h4 := inc64 hlt (by omega)
    have h2 := lt_t hlt
    have hs2 := broken_snoc (bl := bl) hx
    have hlen := broken_len bl (en.take s)
    rw [List.length_take] at hlen
    have h8 : (((brokenOf bl (en.take s)).length + 1) * 16 ≤ 140737488355328) = True := by rw [eq_iff_iff, iff_true]; omega
    generalize hm : brokenOf bl (en.take s) = m at hs2 h8 ⊢
    have hxr := href x (List.mem_of_getElem? hx)
    obtain ⟨xk, xr, xu⟩ := x
    simp only at hs2 hxr
    repeat' (first
      | (simp -implicitDefEqProofs only [*, List.getElem?_map, Option.map_some, fEntry, frStrs, zr1, zr2, zr3, zr4, zr5, zr6, zr7, effEqS, eqL, eqV, effIsNil, effMark, onesA, effBytesStr, effStrBytes, effCopy, effClear, effMapUpd, effLookup, lookV, AV.plainVal, copyN, copyS, copyR, idsS, idsC, effNil, effPick, effBox, effBuild, effBuildS, effLoad, effStore, fvX, effBin, effUn, effConvInt, effConvStr, effClo, effMake, boundsV, effSlice, effSlice0, effSliceS, effFieldAddr, effField, effIndex, effIndexS, effExtract, effLen, effMax, effMin, effAppend, binF, unF, FV.isOne, AV.isOne, AV.cellsN, splice, fillA, srcF, bornA, growA, resA, argsE, argsF, Nat.reduceAdd, Nat.reduceSub, Nat.reduceMul, Nat.reduceLT, Nat.reduceLeDiff, Nat.reduceEqDiff, Nat.reduceBEq, reduceIte, reduceCtorEq, Int.reduceLE, Int.reduceLT, Int.reduceToNat, Int.reduceEq, Int.reduceNe])
      | ((first | apply condS_splitN | apply condS_split | apply guardS_splitTN | apply guardS_splitFN | apply guardD_splitTN | apply guardD_splitFN | apply guardS_splitT | apply guardS_splitF | apply guardD_splitT | apply guardD_splitF) <;> intro hc)
      | (refine callP0 rfl ?_)
      | (refine callD0 rfl ?_)
      | (refine callP rfl (missing_f (room, lease, bl, en) xr hl3 hrb (by omega)) rfl (by first | exact LeL.refl _ | ((repeat (first | exact LeL.refl _ | exact LeA.refl _ | exact LeA.nil _ | refine LeL.cons ?_ ?_ | refine LeA.agg ?_)); first | done | fail)) rfl (by first | exact free_0 | exact free_mk rfl | (repeat (first | exact free_0 | exact free_mk rfl | exact free_mk (by simp) | refine free_upd rfl ?_))) ?_)
      | (refine callD rfl (missing_f (room, lease, bl, en) xr hl3 hrb (by omega)) rfl (by first | exact LeL.refl _ | ((repeat (first | exact LeL.refl _ | exact LeA.refl _ | exact LeA.nil _ | refine LeL.cons ?_ ?_ | refine LeA.agg ?_)); first | done | fail)) rfl rfl ?_)
      | (refine callDO rfl (missing_f (room, lease, bl, en) xr hl3 hrb (by omega)) rfl (by first | exact LeL.refl _ | ((repeat (first | exact LeL.refl _ | exact LeA.refl _ | exact LeA.nil _ | refine LeL.cons ?_ ?_ | refine LeA.agg ?_)); first | done | fail)) rfl (by first | exact free_0 | exact free_mk rfl | (repeat (first | exact free_0 | exact free_mk rfl | exact free_mk (by simp) | refine free_upd rfl ?_))) rfl ?_))
    all_goals (simp only [hc, if_true, if_false, Bool.false_eq_true, List.append_nil] at hs2; refine ⟨s + 1, hlt, by omega, ?_⟩; rw [hs2]; refine ⟨rfl, (by first | exact small_0 | exact small_mk rfl | (repeat (first | exact small_0 | exact small_mk rfl | refine small_upd rfl ?_ | refine small_sw rfl rfl ?_))), rfl, rfl, (by rfl), ?_, ?_⟩ <;> simp only [List.length_append, zw1, zw2, swN, ElOk, HlOk, Nat.reduceEqDiff, Nat.reduceBEq, Nat.reduceLT, Nat.reduceLeDiff, reduceIte, reduceCtorEq, H0, AObj.cells.injEq])
    exact SlotsOk.of_eq (by simp)
  · obtain rfl : s = en.length := by omega
    have h2 := lt_f hge
    have h3 := List.take_length (l := en)
    repeat' (first
      | (simp -implicitDefEqProofs only [*, zr1, zr2, zr3, zr4, zr5, zr6, zr7, effEqS, eqL, eqV, effIsNil, effMark, onesA, effBytesStr, effStrBytes, effCopy, effClear, effMapUpd, effLookup, lookV, AV.plainVal, copyN, copyS, copyR, idsS, idsC, effNil, effPick, effBox, effBuild, effBuildS, effLoad, effStore, fvX, effBin, effUn, effConvInt, effConvStr, effClo, effMake, boundsV, effSlice, effSlice0, effSliceS, effFieldAddr, effField, effIndex, effIndexS, effExtract, effLen, effMax, effMin, effAppend, binF, unF, FV.isOne, AV.isOne, AV.cellsN, splice, fillA, srcF, bornA, growA, resA, argsE, argsF, Nat.reduceAdd, Nat.reduceSub, Nat.reduceMul, Nat.reduceLT, Nat.reduceLeDiff, Nat.reduceEqDiff, Nat.reduceBEq, reduceIte, reduceCtorEq, Int.reduceLE, Int.reduceLT, Int.reduceToNat, Int.reduceEq, Int.reduceNe])
      | ((first | apply condS_splitN | apply condS_split | apply guardS_splitTN | apply guardS_splitFN | apply guardD_splitTN | apply guardD_splitFN | apply guardS_splitT | apply guardS_splitF | apply guardD_splitT | apply guardD_splitF) <;> intro hc)
      | (refine callP0 rfl ?_)
      | (refine callD0 rfl ?_))
    exact ret_ov (by simp [cellsOf, mkH, lookH]) (by simp) rfl
theorem awake_f : FRet Tryd.prog 17 [] [.c (.v (.bool true))] := by
  have hn : okNew 5 7 = true := by decide
  have hN := New_f isDigest_f 5 7
  rw [hn] at hN
  simp only [if_true] at hN
  refine FCall.of_ax low_law7_awake ?_
  dsimp only [l_law7_awake]
  refine srun_sound 300 _ _ _ _ ?_
  repeat' (first
    | (simp -implicitDefEqProofs only [*, rcCache, zr1, zr2, zr3, zr4, zr5, zr6, zr7, effEqS, eqL, eqV, effIsNil, effMark, onesA, effBytesStr, effStrBytes, effCopy, effClear, effMapUpd, effLookup, lookV, AV.plainVal, copyN, copyS, copyR, idsS, idsC, effNil, effPick, effBox, effBuild, effBuildS, effLoad, effStore, fvX, effBin, effUn, effConvInt, effConvStr, effClo, effMake, boundsV, effSlice, effSlice0, effSliceS, effFieldAddr, effField, effIndex, effIndexS, effExtract, effLen, effMax, effMin, effAppend, binF, unF, FV.isOne, AV.isOne, AV.cellsN, splice, fillA, srcF, bornA, growA, resA, argsE, argsF, Nat.reduceAdd, Nat.reduceSub, Nat.reduceMul, Nat.reduceLT, Nat.reduceLeDiff, Nat.reduceEqDiff, Nat.reduceBEq, reduceIte, reduceCtorEq, Int.reduceLE, Int.reduceLT, Int.reduceToNat, Int.reduceEq, Int.reduceNe])
    | ((first | apply condS_splitN | apply condS_split | apply guardS_splitTN | apply guardS_splitFN | apply guardD_splitTN | apply guardD_splitFN | apply guardS_splitT | apply guardS_splitF | apply guardD_splitT | apply guardD_splitF) <;> intro hc)
    | (refine callP0 rfl ?_)
    | (refine callD0 rfl ?_)
    | (refine callP rfl (hN) rfl (by first | exact LeL.refl _ | ((repeat (first | exact LeL.refl _ | exact LeA.refl _ | exact LeA.nil _ | refine LeL.cons ?_ ?_ | refine LeA.agg ?_)); first | done | fail)) rfl (by first | exact free_0 | exact free_mk rfl | (repeat (first | exact free_0 | exact free_mk rfl | exact free_mk (by simp) | refine free_upd rfl ?_))) ?_)
    | (refine callD rfl (hN) rfl (by first | exact LeL.refl _ | ((repeat (first | exact LeL.refl _ | exact LeA.refl _ | exact LeA.nil _ | refine LeL.cons ?_ ?_ | refine LeA.agg ?_)); first | done | fail)) rfl rfl ?_)
    | (refine callDO rfl (hN) rfl (by first | exact LeL.refl _ | ((repeat (first | exact LeL.refl _ | exact LeA.refl _ | exact LeA.nil _ | refine LeL.cons ?_ ?_ | refine LeA.agg ?_)); first | done | fail)) rfl (by first | exact free_0 | exact free_mk rfl | (repeat (first | exact free_0 | exact free_mk rfl | exact free_mk (by simp) | refine free_upd rfl ?_))) rfl ?_))
  exact ret_v
end Go.Proofs.YteeemcghdhdodaaDoor
