/-
  Pieces of contents, plainly; the walks of blob.cut, Pieces, Shared. No statement of the seat is proved here; no conditions.
-/
import Derived.Test.YtchhcmblajmehaaLowA
import Derived.Test.YtchhcmblajmehaaRun
import Derived.Test.YtchhcmblajmehaaRun
namespace Go.Proofs.Ytchhcmblajmehaa
open Go.RowKit
set_option linter.unusedVariables false
set_option linter.unusedSimpArgs false
set_option maxRecDepth 100000

def fN (n : Nat) : FV := .int .i64 n
def frN (l : List Nat) : FV := .fr 1 (l.map fun n => [fN n])
/-- 31 raised, as the machine does it. -/
def pw : Nat → Int
  | 0 => 1
  | n + 1 => IntKind.u32.wrap (pw n * 31)
def hNext (b : List UInt8) (h : Int) (i : Nat) : Int :=
  IntKind.u32.wrap (IntKind.u32.wrap (31 * (if 16 ≤ i then IntKind.u32.wrap (h - IntKind.u32.wrap (pw 15 * IntKind.u32.wrap ((b.getD (i - 16) 0).toNat : Nat))) else h)) + IntKind.u32.wrap ((b.getD i 0).toNat : Nat))
def hEnds (h bits : Int) : Bool := decide (IntKind.u32.wrap ((BitVec.ofInt IntKind.u32.bits h &&& BitVec.ofInt IntKind.u32.bits (IntKind.u32.wrap (IntKind.u32.wrap (1 * 2 ^ min bits.toNat IntKind.u32.bits) - 1))).toNat : Nat) = 0)
/-- Sizes so far, the number over the window, where the piece begins. -/
abbrev CutS := List Nat × Int × Nat
def cutOne (b : List UInt8) (least bits most : Int) (s : CutS) (i : Nat) : CutS :=
  if (decide (least ≤ ((i + 1 - s.2.2 : Nat) : Int)) && hEnds (hNext b s.2.1 i) bits || decide (most ≤ ((i + 1 - s.2.2 : Nat) : Int))) = true then (s.1 ++ [i + 1 - s.2.2], hNext b s.2.1 i, i + 1) else (s.1, hNext b s.2.1 i, s.2.2)
def cutTo (b : List UInt8) (least bits most : Int) : Nat → CutS
  | 0 => ([], 0, 0)
  | i + 1 => cutOne b least bits most (cutTo b least bits most i) i
def cutV (b : List UInt8) (least bits most : Int) : List Nat :=
  if (cutTo b least bits most b.length).2.2 < b.length then (cutTo b least bits most b.length).1 ++ [b.length - (cutTo b least bits most b.length).2.2] else (cutTo b least bits most b.length).1
theorem cutTo_inv (b : List UInt8) (least bits most : Int) : ∀ i, (cutTo b least bits most i).1.sum = (cutTo b least bits most i).2.2 ∧ (cutTo b least bits most i).2.2 ≤ i ∧ (cutTo b least bits most i).1.length ≤ i
  | 0 => ⟨rfl, Nat.le_refl _, Nat.le_refl _⟩
  | i + 1 => by
    obtain ⟨h1, h2, h3⟩ := cutTo_inv b least bits most i
    rw [cutTo, cutOne]
    split
    · simp only [List.sum_append, List.sum_cons, List.sum_nil, List.length_append, List.length_cons, List.length_nil]; omega
    · simp only; omega
theorem cutV_sum (b : List UInt8) (least bits most : Int) : (cutV b least bits most).sum = b.length := by
  obtain ⟨h1, h2, h3⟩ := cutTo_inv b least bits most b.length
  rw [cutV]
  split
  · simp only [List.sum_append, List.sum_cons, List.sum_nil]; omega
  · omega
theorem cutV_len (b : List UInt8) (least bits most : Int) : (cutV b least bits most).length ≤ b.length + 1 := by
  obtain ⟨h1, h2, h3⟩ := cutTo_inv b least bits most b.length
  rw [cutV]
  split
  · simp only [List.length_append, List.length_cons, List.length_nil]; omega
  · omega
theorem flat_fN (l : List Nat) : (l.map fun n => [fN n]).flatten = l.map fN := by
  induction l with
  | nil => rfl
  | cons a l ih => simp [ih]
set_option maxHeartbeats 1000000 in
theorem cut_f (b : List UInt8) (least bits most : Int) (hb : b.length ≤ 2000000) (hbits : 0 ≤ bits) : FRet Try.prog 10 [.f (frB b), .f (.int .i64 least), .f (.int .i64 bits), .f (.int .i64 most)] [.c (.own 1 (cutV b least bits most).length ((cutV b least bits most).map fN))] := by
  refine FCall.of_ax low_blob_cut ?_
  dsimp only [l_blob_cut, frB]
  refine srun_sound 300 _ _ _ _ ?_
  repeat' (first
    | (simp -implicitDefEqProofs only [*, zr1, zr2, zr3, zr4, zr5, zr6, zr7, effEqS, eqL, eqV, effIsNil, effMark, onesA, effBytesStr, effStrBytes, effCopy, effClear, effMapUpd, effLookup, lookV, AV.plainVal, copyN, copyS, copyR, idsS, idsC, effNil, effPick, effBox, effBuild, effBuildS, effLoad, effStore, fvX, effBin, effUn, effConvInt, effConvStr, effClo, effMake, boundsV, effSlice, effSlice0, effSliceS, effFieldAddr, effField, effIndex, effIndexS, effExtract, effLen, effMax, effMin, effAppend, binF, unF, FV.isOne, AV.isOne, AV.cellsN, splice, fillA, srcF, bornA, growA, resA, argsE, argsF, Nat.reduceAdd, Nat.reduceSub, Nat.reduceMul, Nat.reduceLT, Nat.reduceLeDiff, Nat.reduceEqDiff, Nat.reduceBEq, reduceIte, reduceCtorEq, Int.reduceLE, Int.reduceLT, Int.reduceToNat, Int.reduceEq, Int.reduceNe])
    | ((first | apply condS_splitN | apply condS_split | apply guardS_splitTN | apply guardS_splitFN | apply guardD_splitTN | apply guardD_splitFN | apply guardS_splitT | apply guardS_splitF | apply guardD_splitT | apply guardD_splitF) <;> intro hc)
    | (refine callP0 rfl ?_)
    | (refine callD0 rfl ?_))
  refine ax_loopU (S := Nat) 84 [0, 1, 2, 3] [] (fun s => [(9, .f (.int .u32 (pw s))), (16, .f (.int .i64 s))]) (fun s => []) (fun s => s ≤ 15) (fun s => 15 - s) (0) [] ?_ ?_ fun s hs => ?_
  · exact Nat.zero_le _
  · refine ⟨rfl, (by first | exact small_0 | exact small_mk rfl | (repeat (first | exact small_0 | exact small_mk rfl | refine small_upd rfl ?_ | refine small_sw rfl rfl ?_))), rfl, rfl, (by rfl), ?_, ?_⟩ <;> simp only [pw, zw1, zw2, swN, ElOk, HlOk, Nat.reduceEqDiff, Nat.reduceBEq, Nat.reduceLT, Nat.reduceLeDiff, reduceIte, reduceCtorEq, H0, AObj.cells.injEq]
  refine srun_sound 300 _ _ _ _ ?_
  rcases Nat.lt_or_ge s 15 with hlt | hge
  · have h4 := inc64 hlt (by decide)
    have h2 : decide ((s : Int) < 15) = true := by rw [decide_eq_true_eq]; omega
    repeat' (first
      | (simp -implicitDefEqProofs only [*, zr1, zr2, zr3, zr4, zr5, zr6, zr7, effEqS, eqL, eqV, effIsNil, effMark, onesA, effBytesStr, effStrBytes, effCopy, effClear, effMapUpd, effLookup, lookV, AV.plainVal, copyN, copyS, copyR, idsS, idsC, effNil, effPick, effBox, effBuild, effBuildS, effLoad, effStore, fvX, effBin, effUn, effConvInt, effConvStr, effClo, effMake, boundsV, effSlice, effSlice0, effSliceS, effFieldAddr, effField, effIndex, effIndexS, effExtract, effLen, effMax, effMin, effAppend, binF, unF, FV.isOne, AV.isOne, AV.cellsN, splice, fillA, srcF, bornA, growA, resA, argsE, argsF, Nat.reduceAdd, Nat.reduceSub, Nat.reduceMul, Nat.reduceLT, Nat.reduceLeDiff, Nat.reduceEqDiff, Nat.reduceBEq, reduceIte, reduceCtorEq, Int.reduceLE, Int.reduceLT, Int.reduceToNat, Int.reduceEq, Int.reduceNe])
      | ((first | apply condS_splitN | apply condS_split | apply guardS_splitTN | apply guardS_splitFN | apply guardD_splitTN | apply guardD_splitFN | apply guardS_splitT | apply guardS_splitF | apply guardD_splitT | apply guardD_splitF) <;> intro hc)
      | (refine callP0 rfl ?_)
      | (refine callD0 rfl ?_))
    exact ⟨s + 1, hlt, by omega, by rw [pw]; refine ⟨rfl, (by first | exact small_0 | exact small_mk rfl | (repeat (first | exact small_0 | exact small_mk rfl | refine small_upd rfl ?_ | refine small_sw rfl rfl ?_))), rfl, rfl, (by rfl), ?_, ?_⟩ <;> simp only [zw1, zw2, swN, ElOk, HlOk, Nat.reduceEqDiff, Nat.reduceBEq, Nat.reduceLT, Nat.reduceLeDiff, reduceIte, reduceCtorEq, H0, AObj.cells.injEq]⟩
  obtain rfl : s = 15 := by omega
  have h2 : decide (((15 : Nat) : Int) < 15) = false := by decide
  repeat' (first
    | (simp -implicitDefEqProofs only [*, zr1, zr2, zr3, zr4, zr5, zr6, zr7, effEqS, eqL, eqV, effIsNil, effMark, onesA, effBytesStr, effStrBytes, effCopy, effClear, effMapUpd, effLookup, lookV, AV.plainVal, copyN, copyS, copyR, idsS, idsC, effNil, effPick, effBox, effBuild, effBuildS, effLoad, effStore, fvX, effBin, effUn, effConvInt, effConvStr, effClo, effMake, boundsV, effSlice, effSlice0, effSliceS, effFieldAddr, effField, effIndex, effIndexS, effExtract, effLen, effMax, effMin, effAppend, binF, unF, FV.isOne, AV.isOne, AV.cellsN, splice, fillA, srcF, bornA, growA, resA, argsE, argsF, Nat.reduceAdd, Nat.reduceSub, Nat.reduceMul, Nat.reduceLT, Nat.reduceLeDiff, Nat.reduceEqDiff, Nat.reduceBEq, reduceIte, reduceCtorEq, Int.reduceLE, Int.reduceLT, Int.reduceToNat, Int.reduceEq, Int.reduceNe])
    | ((first | apply condS_splitN | apply condS_split | apply guardS_splitTN | apply guardS_splitFN | apply guardD_splitTN | apply guardD_splitFN | apply guardS_splitT | apply guardS_splitF | apply guardD_splitT | apply guardD_splitF) <;> intro hc)
    | (refine callP0 rfl ?_)
    | (refine callD0 rfl ?_))
  clear hs hge h2
  refine ax_loopU (S := Nat) 84 [0, 1, 2, 3, 9, 21, 22] [] (fun s => [(10, .sl 68 1 1 0 (cutTo b least bits most s).1.length), (11, .f (.int .u32 (cutTo b least bits most s).2.1)), (12, .f (.int .i64 (cutTo b least bits most s).2.2)), (23, .f (.int .i64 s))]) (fun s => [(68, 1, (((cutTo b least bits most s).1).map fN).map AV.f)]) (fun s => s ≤ b.length) (fun s => b.length - s) (0) [68] ?_ ?_ fun s hs => ?_
  · exact Nat.zero_le _
  · refine ⟨rfl, (by first | exact small_0 | exact small_mk rfl | (repeat (first | exact small_0 | exact small_mk rfl | refine small_upd rfl ?_ | refine small_sw rfl rfl ?_))), rfl, rfl, (by rfl), ?_, ?_⟩ <;> simp only [cutTo, zw1, zw2, swN, ElOk, HlOk, Nat.reduceEqDiff, Nat.reduceBEq, Nat.reduceLT, Nat.reduceLeDiff, reduceIte, reduceCtorEq, H0, AObj.cells.injEq]
  refine srun_sound 300 _ _ _ _ ?_
  obtain ⟨i1, i2, i3⟩ := cutTo_inv b least bits most s
  have hst : cutTo b least bits most (s + 1) = cutOne b least bits most (cutTo b least bits most s) s := rfl
  have hV : cutV b least bits most = if (cutTo b least bits most b.length).2.2 < b.length then (cutTo b least bits most b.length).1 ++ [b.length - (cutTo b least bits most b.length).2.2] else (cutTo b least bits most b.length).1 := rfl
  rcases Nat.lt_or_ge s b.length with hlt | hge
  · clear hV
    generalize cutTo b least bits most s = t at i1 i2 i3 hst ⊢
    obtain ⟨out, h, fr⟩ := t
    simp only at i1 i2 i3 hst ⊢
    rw [cutOne] at hst
    simp only at hst
    have hS := hide hst
    clear hst
    obtain ⟨x, hx⟩ := get_some hlt
    have h4 := inc64 hlt (by omega)
    have h2 := lt_t hlt
    have hw1 : IntKind.i64.wrap (((s + 1 : Nat) : Int) - (fr : Int)) = ((s + 1 - fr : Nat) : Int) := by rw [wrap64] <;> omega
    have h8 : ((out.length + 1) * 8 ≤ 140737488355328) = True := by rw [eq_iff_iff, iff_true]; omega
    have hbt : (0 ≤ bits) = True := by rw [eq_iff_iff, iff_true]; exact hbits
    have hgx : b.getD s 0 = x := by rw [List.getD_eq_getElem?_getD, hx]; rfl
    clear i1 i2 i3
    have hm : decide (IntKind.u32.wrap ((BitVec.ofInt IntKind.u32.bits (hNext b h s) &&& BitVec.ofInt IntKind.u32.bits (IntKind.u32.wrap (IntKind.u32.wrap (1 * 2 ^ min bits.toNat IntKind.u32.bits) - 1))).toNat : Nat) = 0) = hEnds (hNext b h s) bits := rfl
    generalize hEnds (hNext b h s) bits = e at hm hS
    rcases Nat.lt_or_ge s 16 with h16 | h16
    · have h5 : decide ((16 : Int) ≤ (s : Int)) = false := by rw [decide_eq_false_iff_not]; omega
      have hh : IntKind.u32.wrap (IntKind.u32.wrap (31 * h) + IntKind.u32.wrap (x.toNat : Nat)) = hNext b h s := by rw [hNext, if_neg (by omega), hgx]
      generalize hNext b h s = N at hh hm hS
      clear hgx
      repeat' (first
        | (simp -implicitDefEqProofs only [*, List.getElem?_map, Option.map_some, encU, zr1, zr2, zr3, zr4, zr5, zr6, zr7, effEqS, eqL, eqV, effIsNil, effMark, onesA, effBytesStr, effStrBytes, effCopy, effClear, effMapUpd, effLookup, lookV, AV.plainVal, copyN, copyS, copyR, idsS, idsC, effNil, effPick, effBox, effBuild, effBuildS, effLoad, effStore, fvX, effBin, effUn, effConvInt, effConvStr, effClo, effMake, boundsV, effSlice, effSlice0, effSliceS, effFieldAddr, effField, effIndex, effIndexS, effExtract, effLen, effMax, effMin, effAppend, binF, unF, FV.isOne, AV.isOne, AV.cellsN, splice, fillA, srcF, bornA, growA, resA, argsE, argsF, Nat.reduceAdd, Nat.reduceSub, Nat.reduceMul, Nat.reduceLT, Nat.reduceLeDiff, Nat.reduceEqDiff, Nat.reduceBEq, reduceIte, reduceCtorEq, Int.reduceLE, Int.reduceLT, Int.reduceToNat, Int.reduceEq, Int.reduceNe])
        | ((first | apply condS_splitN | apply condS_split | apply guardS_splitTN | apply guardS_splitFN | apply guardD_splitTN | apply guardD_splitFN | apply guardS_splitT | apply guardS_splitF | apply guardD_splitT | apply guardD_splitF) <;> intro hc)
        | (refine callP0 rfl ?_)
        | (refine callD0 rfl ?_))
      all_goals (have h0 := hS.out; simp only [*, Int.reduceEq, Int.reduceNe, if_true, if_false, ne_eq, not_true_eq_false, not_false_eq_true, reduceIte, Bool.false_eq_true, Bool.true_and, Bool.and_true, Bool.false_and, Bool.and_false, Bool.not_true, Bool.not_false, Bool.true_or, Bool.or_true, Bool.false_or, Bool.or_false, decide_true, decide_false, reduceCtorEq] at h0; refine ⟨s + 1, hlt, by omega, ?_⟩; rw [h0]; refine ⟨rfl, (by first | exact small_0 | exact small_mk rfl | (repeat (first | exact small_0 | exact small_mk rfl | refine small_upd rfl ?_ | refine small_sw rfl rfl ?_))), rfl, rfl, (by rfl), ?_, ?_⟩ <;> simp only [List.length_append, zw1, zw2, swN, ElOk, HlOk, Nat.reduceEqDiff, Nat.reduceBEq, Nat.reduceLT, Nat.reduceLeDiff, reduceIte, reduceCtorEq, H0, AObj.cells.injEq])
      all_goals exact SlotsOk.of_eq (by simp [fN])
    · have h5 : decide ((16 : Int) ≤ (s : Int)) = true := by rw [decide_eq_true_eq]; omega
      have h7 : IntKind.i64.wrap ((s : Int) - 16) = ((s - 16 : Nat) : Int) := by rw [wrap64] <;> omega
      obtain ⟨y, hy⟩ := get_some (l := b) (i := s - 16) (by omega)
      have hgy : b.getD (s - 16) 0 = y := by rw [List.getD_eq_getElem?_getD, hy]; rfl
      have hh : IntKind.u32.wrap (IntKind.u32.wrap (31 * IntKind.u32.wrap (h - IntKind.u32.wrap (pw 15 * IntKind.u32.wrap (y.toNat : Nat)))) + IntKind.u32.wrap (x.toNat : Nat)) = hNext b h s := by rw [hNext, if_pos h16, hgx, hgy]
      generalize hNext b h s = N at hh hm hS
      clear hgx hgy
      repeat' (first
        | (simp -implicitDefEqProofs only [*, List.getElem?_map, Option.map_some, encU, zr1, zr2, zr3, zr4, zr5, zr6, zr7, effEqS, eqL, eqV, effIsNil, effMark, onesA, effBytesStr, effStrBytes, effCopy, effClear, effMapUpd, effLookup, lookV, AV.plainVal, copyN, copyS, copyR, idsS, idsC, effNil, effPick, effBox, effBuild, effBuildS, effLoad, effStore, fvX, effBin, effUn, effConvInt, effConvStr, effClo, effMake, boundsV, effSlice, effSlice0, effSliceS, effFieldAddr, effField, effIndex, effIndexS, effExtract, effLen, effMax, effMin, effAppend, binF, unF, FV.isOne, AV.isOne, AV.cellsN, splice, fillA, srcF, bornA, growA, resA, argsE, argsF, Nat.reduceAdd, Nat.reduceSub, Nat.reduceMul, Nat.reduceLT, Nat.reduceLeDiff, Nat.reduceEqDiff, Nat.reduceBEq, reduceIte, reduceCtorEq, Int.reduceLE, Int.reduceLT, Int.reduceToNat, Int.reduceEq, Int.reduceNe])
        | ((first | apply condS_splitN | apply condS_split | apply guardS_splitTN | apply guardS_splitFN | apply guardD_splitTN | apply guardD_splitFN | apply guardS_splitT | apply guardS_splitF | apply guardD_splitT | apply guardD_splitF) <;> intro hc)
        | (refine callP0 rfl ?_)
        | (refine callD0 rfl ?_))
      all_goals (have h0 := hS.out; simp only [*, Int.reduceEq, Int.reduceNe, if_true, if_false, ne_eq, not_true_eq_false, not_false_eq_true, reduceIte, Bool.false_eq_true, Bool.true_and, Bool.and_true, Bool.false_and, Bool.and_false, Bool.not_true, Bool.not_false, Bool.true_or, Bool.or_true, Bool.false_or, Bool.or_false, decide_true, decide_false, reduceCtorEq] at h0; refine ⟨s + 1, hlt, by omega, ?_⟩; rw [h0]; refine ⟨rfl, (by first | exact small_0 | exact small_mk rfl | (repeat (first | exact small_0 | exact small_mk rfl | refine small_upd rfl ?_ | refine small_sw rfl rfl ?_))), rfl, rfl, (by rfl), ?_, ?_⟩ <;> simp only [List.length_append, zw1, zw2, swN, ElOk, HlOk, Nat.reduceEqDiff, Nat.reduceBEq, Nat.reduceLT, Nat.reduceLeDiff, reduceIte, reduceCtorEq, H0, AObj.cells.injEq])
      all_goals exact SlotsOk.of_eq (by simp [fN])
  · obtain rfl : s = b.length := by omega
    have h2 := lt_f hge
    rw [hV]
    clear hV hst
    generalize cutTo b least bits most b.length = t at i1 i2 i3 ⊢
    obtain ⟨out, h, fr⟩ := t
    simp only at i1 i2 i3 ⊢
    have hw1 : IntKind.i64.wrap ((b.length : Int) - (fr : Int)) = ((b.length - fr : Nat) : Int) := by rw [wrap64] <;> omega
    have h8 : ((out.length + 1) * 8 ≤ 140737488355328) = True := by rw [eq_iff_iff, iff_true]; omega
    rcases Nat.lt_or_ge fr b.length with h3 | h3
    · rw [if_pos h3]
      have h4 := lt_t h3
      clear h3 i1 i2 i3
      repeat' (first
        | (simp -implicitDefEqProofs only [*, zr1, zr2, zr3, zr4, zr5, zr6, zr7, effEqS, eqL, eqV, effIsNil, effMark, onesA, effBytesStr, effStrBytes, effCopy, effClear, effMapUpd, effLookup, lookV, AV.plainVal, copyN, copyS, copyR, idsS, idsC, effNil, effPick, effBox, effBuild, effBuildS, effLoad, effStore, fvX, effBin, effUn, effConvInt, effConvStr, effClo, effMake, boundsV, effSlice, effSlice0, effSliceS, effFieldAddr, effField, effIndex, effIndexS, effExtract, effLen, effMax, effMin, effAppend, binF, unF, FV.isOne, AV.isOne, AV.cellsN, splice, fillA, srcF, bornA, growA, resA, argsE, argsF, Nat.reduceAdd, Nat.reduceSub, Nat.reduceMul, Nat.reduceLT, Nat.reduceLeDiff, Nat.reduceEqDiff, Nat.reduceBEq, reduceIte, reduceCtorEq, Int.reduceLE, Int.reduceLT, Int.reduceToNat, Int.reduceEq, Int.reduceNe])
        | ((first | apply condS_splitN | apply condS_split | apply guardS_splitTN | apply guardS_splitFN | apply guardD_splitTN | apply guardD_splitFN | apply guardS_splitT | apply guardS_splitF | apply guardD_splitT | apply guardD_splitF) <;> intro hc)
        | (refine callP0 rfl ?_)
        | (refine callD0 rfl ?_))
      exact ret_oe (cs' := out.map fN ++ [fN (b.length - fr)]) (by simp) (by simp [cellsOf, upd, mkH, lookH, fN]) (by simp) (by simp)
    · rw [if_neg (by omega)]
      have h4 := lt_f h3
      clear h3 i1 i2 i3
      repeat' (first
        | (simp -implicitDefEqProofs only [*, zr1, zr2, zr3, zr4, zr5, zr6, zr7, effEqS, eqL, eqV, effIsNil, effMark, onesA, effBytesStr, effStrBytes, effCopy, effClear, effMapUpd, effLookup, lookV, AV.plainVal, copyN, copyS, copyR, idsS, idsC, effNil, effPick, effBox, effBuild, effBuildS, effLoad, effStore, fvX, effBin, effUn, effConvInt, effConvStr, effClo, effMake, boundsV, effSlice, effSlice0, effSliceS, effFieldAddr, effField, effIndex, effIndexS, effExtract, effLen, effMax, effMin, effAppend, binF, unF, FV.isOne, AV.isOne, AV.cellsN, splice, fillA, srcF, bornA, growA, resA, argsE, argsF, Nat.reduceAdd, Nat.reduceSub, Nat.reduceMul, Nat.reduceLT, Nat.reduceLeDiff, Nat.reduceEqDiff, Nat.reduceBEq, reduceIte, reduceCtorEq, Int.reduceLE, Int.reduceLT, Int.reduceToNat, Int.reduceEq, Int.reduceNe])
        | ((first | apply condS_splitN | apply condS_split | apply guardS_splitTN | apply guardS_splitFN | apply guardD_splitTN | apply guardD_splitFN | apply guardS_splitT | apply guardS_splitF | apply guardD_splitT | apply guardD_splitF) <;> intro hc)
        | (refine callP0 rfl ?_)
        | (refine callD0 rfl ?_))
      exact ret_o (by simp [cellsOf, mkH, lookH]) (by simp)
/-- What Pieces says. -/
def pcErr (b : List UInt8) (least bits most : Int) : Int :=
  if (2000000 : Int) < b.length then 2 else if (decide (least < 1) || decide (most < least) || decide (bits < 0) || decide (20 < bits) || decide (100000 < most)) = true then 1 else if (20000 : Int) < (cutV b least bits most).length then 2 else 0
def pcV (b : List UInt8) (least bits most : Int) : List Nat := if pcErr b least bits most = 0 then cutV b least bits most else []
theorem pcErr_zero {b : List UInt8} {least bits most : Int} (h : pcErr b least bits most = 0) : b.length ≤ 2000000 ∧ (cutV b least bits most).length ≤ 20000 := by
  unfold pcErr at h
  split at h
  · cases h
  · split at h
    · cases h
    · split at h
      · cases h
      · omega
set_option maxHeartbeats 4000000 in
theorem Pieces_f (b : List UInt8) (least bits most : Int) : FRet Try.prog 4 [.f (frB b), .f (.int .i64 least), .f (.int .i64 bits), .f (.int .i64 most)] [.c (.own 1 (pcV b least bits most).length ((pcV b least bits most).map fN)), .c (.v (.int .i64 (pcErr b least bits most)))] := by
  refine FCall.of_ax low_blob_Pieces ?_
  dsimp only [l_blob_Pieces]
  refine srun_sound 300 _ _ _ _ ?_
  have bad : ∀ e : Int, e ≠ 0 → pcErr b least bits most = e → pcV b least bits most = [] := fun e h h2 => by rw [pcV, if_neg (by rw [h2]; exact h)]
  by_cases h1 : (2000000 : Int) < b.length
  · have he : pcErr b least bits most = 2 := by rw [pcErr, if_pos h1]
    have hd : decide ((2000000 : Int) < b.length) = true := by simpa using h1
    rw [bad 2 (by decide) he, he]
    clear bad he h1
    repeat' (first
      | (simp -implicitDefEqProofs only [*, frB, zr1, zr2, zr3, zr4, zr5, zr6, zr7, effEqS, eqL, eqV, effIsNil, effMark, onesA, effBytesStr, effStrBytes, effCopy, effClear, effMapUpd, effLookup, lookV, AV.plainVal, copyN, copyS, copyR, idsS, idsC, effNil, effPick, effBox, effBuild, effBuildS, effLoad, effStore, fvX, effBin, effUn, effConvInt, effConvStr, effClo, effMake, boundsV, effSlice, effSlice0, effSliceS, effFieldAddr, effField, effIndex, effIndexS, effExtract, effLen, effMax, effMin, effAppend, binF, unF, FV.isOne, AV.isOne, AV.cellsN, splice, fillA, srcF, bornA, growA, resA, argsE, argsF, Nat.reduceAdd, Nat.reduceSub, Nat.reduceMul, Nat.reduceLT, Nat.reduceLeDiff, Nat.reduceEqDiff, Nat.reduceBEq, reduceIte, reduceCtorEq, Int.reduceLE, Int.reduceLT, Int.reduceToNat, Int.reduceEq, Int.reduceNe])
      | ((first | apply condS_splitN | apply condS_split | apply guardS_splitTN | apply guardS_splitFN | apply guardD_splitTN | apply guardD_splitFN | apply guardS_splitT | apply guardS_splitF | apply guardD_splitT | apply guardD_splitF) <;> intro hc)
      | (refine callP0 rfl ?_)
      | (refine callD0 rfl ?_))
    exact ret_onv rfl rfl rfl
  have hd : decide ((2000000 : Int) < b.length) = false := by simpa using h1
  by_cases h2 : (decide (least < 1) || decide (most < least) || decide (bits < 0) || decide (20 < bits) || decide (100000 < most)) = true
  · have he : pcErr b least bits most = 1 := by rw [pcErr, if_neg h1, if_pos h2]
    rw [bad 1 (by decide) he, he]
    clear bad he h1
    generalize hb0 : decide (least < 1) = b0 at h2
    generalize hb1 : decide (most < least) = b1 at h2
    generalize hb2 : decide (bits < 0) = b2 at h2
    generalize hb3 : decide (20 < bits) = b3 at h2
    generalize hb4 : decide (100000 < most) = b4 at h2
    cases b0 <;> cases b1 <;> cases b2 <;> cases b3 <;> cases b4 <;> (first | (cases h2; done) | skip)
    all_goals clear h2
    repeat' (first
      | (simp -implicitDefEqProofs only [*, frB, zr1, zr2, zr3, zr4, zr5, zr6, zr7, effEqS, eqL, eqV, effIsNil, effMark, onesA, effBytesStr, effStrBytes, effCopy, effClear, effMapUpd, effLookup, lookV, AV.plainVal, copyN, copyS, copyR, idsS, idsC, effNil, effPick, effBox, effBuild, effBuildS, effLoad, effStore, fvX, effBin, effUn, effConvInt, effConvStr, effClo, effMake, boundsV, effSlice, effSlice0, effSliceS, effFieldAddr, effField, effIndex, effIndexS, effExtract, effLen, effMax, effMin, effAppend, binF, unF, FV.isOne, AV.isOne, AV.cellsN, splice, fillA, srcF, bornA, growA, resA, argsE, argsF, Nat.reduceAdd, Nat.reduceSub, Nat.reduceMul, Nat.reduceLT, Nat.reduceLeDiff, Nat.reduceEqDiff, Nat.reduceBEq, reduceIte, reduceCtorEq, Int.reduceLE, Int.reduceLT, Int.reduceToNat, Int.reduceEq, Int.reduceNe])
      | ((first | apply condS_splitN | apply condS_split | apply guardS_splitTN | apply guardS_splitFN | apply guardD_splitTN | apply guardD_splitFN | apply guardS_splitT | apply guardS_splitF | apply guardD_splitT | apply guardD_splitF) <;> intro hc)
      | (refine callP0 rfl ?_)
      | (refine callD0 rfl ?_))
    all_goals exact ret_onv rfl rfl rfl
  have h2' := h2
  simp only [Bool.or_eq_true, not_or, Bool.not_eq_true] at h2'
  obtain ⟨⟨⟨⟨q0, q1⟩, q2⟩, q3⟩, q4⟩ := h2'
  have hbits : 0 ≤ bits := by have := of_decide_eq_false q2; omega
  by_cases h3 : (20000 : Int) < (cutV b least bits most).length
  · have he : pcErr b least bits most = 2 := by rw [pcErr, if_neg h1, if_neg h2, if_pos h3]
    have hd3 : decide ((20000 : Int) < (cutV b least bits most).length) = true := by simpa using h3
    rw [bad 2 (by decide) he, he]
    clear bad he h2 h3
    repeat' (first
      | (simp -implicitDefEqProofs only [*, frB, zr1, zr2, zr3, zr4, zr5, zr6, zr7, effEqS, eqL, eqV, effIsNil, effMark, onesA, effBytesStr, effStrBytes, effCopy, effClear, effMapUpd, effLookup, lookV, AV.plainVal, copyN, copyS, copyR, idsS, idsC, effNil, effPick, effBox, effBuild, effBuildS, effLoad, effStore, fvX, effBin, effUn, effConvInt, effConvStr, effClo, effMake, boundsV, effSlice, effSlice0, effSliceS, effFieldAddr, effField, effIndex, effIndexS, effExtract, effLen, effMax, effMin, effAppend, binF, unF, FV.isOne, AV.isOne, AV.cellsN, splice, fillA, srcF, bornA, growA, resA, argsE, argsF, Nat.reduceAdd, Nat.reduceSub, Nat.reduceMul, Nat.reduceLT, Nat.reduceLeDiff, Nat.reduceEqDiff, Nat.reduceBEq, reduceIte, reduceCtorEq, Int.reduceLE, Int.reduceLT, Int.reduceToNat, Int.reduceEq, Int.reduceNe])
      | ((first | apply condS_splitN | apply condS_split | apply guardS_splitTN | apply guardS_splitFN | apply guardD_splitTN | apply guardD_splitFN | apply guardS_splitT | apply guardS_splitF | apply guardD_splitT | apply guardD_splitF) <;> intro hc)
      | (refine callP0 rfl ?_)
      | (refine callD0 rfl ?_)
      | (refine callP rfl (cut_f b least bits most (by omega) hbits) rfl (by first | exact LeL.refl _ | ((repeat (first | exact LeL.refl _ | exact LeA.refl _ | exact LeA.nil _ | refine LeL.cons ?_ ?_ | refine LeA.agg ?_)); first | done | fail)) rfl (by first | exact free_0 | exact free_mk rfl | (repeat (first | exact free_0 | exact free_mk rfl | exact free_mk (by simp) | refine free_upd rfl ?_))) ?_)
      | (refine callD rfl (cut_f b least bits most (by omega) hbits) rfl (by first | exact LeL.refl _ | ((repeat (first | exact LeL.refl _ | exact LeA.refl _ | exact LeA.nil _ | refine LeL.cons ?_ ?_ | refine LeA.agg ?_)); first | done | fail)) rfl rfl ?_)
      | (refine callDO rfl (cut_f b least bits most (by omega) hbits) rfl (by first | exact LeL.refl _ | ((repeat (first | exact LeL.refl _ | exact LeA.refl _ | exact LeA.nil _ | refine LeL.cons ?_ ?_ | refine LeA.agg ?_)); first | done | fail)) rfl (by first | exact free_0 | exact free_mk rfl | (repeat (first | exact free_0 | exact free_mk rfl | exact free_mk (by simp) | refine free_upd rfl ?_))) rfl ?_))
    exact ret_onv rfl rfl rfl
  · have he : pcErr b least bits most = 0 := by rw [pcErr, if_neg h1, if_neg h2, if_neg h3]
    have hd3 : decide ((20000 : Int) < (cutV b least bits most).length) = false := by simpa using h3
    have hV : pcV b least bits most = cutV b least bits most := by rw [pcV, if_pos he]
    rw [hV, he]
    clear bad he h2 h3 hV
    repeat' (first
      | (simp -implicitDefEqProofs only [*, frB, zr1, zr2, zr3, zr4, zr5, zr6, zr7, effEqS, eqL, eqV, effIsNil, effMark, onesA, effBytesStr, effStrBytes, effCopy, effClear, effMapUpd, effLookup, lookV, AV.plainVal, copyN, copyS, copyR, idsS, idsC, effNil, effPick, effBox, effBuild, effBuildS, effLoad, effStore, fvX, effBin, effUn, effConvInt, effConvStr, effClo, effMake, boundsV, effSlice, effSlice0, effSliceS, effFieldAddr, effField, effIndex, effIndexS, effExtract, effLen, effMax, effMin, effAppend, binF, unF, FV.isOne, AV.isOne, AV.cellsN, splice, fillA, srcF, bornA, growA, resA, argsE, argsF, Nat.reduceAdd, Nat.reduceSub, Nat.reduceMul, Nat.reduceLT, Nat.reduceLeDiff, Nat.reduceEqDiff, Nat.reduceBEq, reduceIte, reduceCtorEq, Int.reduceLE, Int.reduceLT, Int.reduceToNat, Int.reduceEq, Int.reduceNe])
      | ((first | apply condS_splitN | apply condS_split | apply guardS_splitTN | apply guardS_splitFN | apply guardD_splitTN | apply guardD_splitFN | apply guardS_splitT | apply guardS_splitF | apply guardD_splitT | apply guardD_splitF) <;> intro hc)
      | (refine callP0 rfl ?_)
      | (refine callD0 rfl ?_)
      | (refine callP rfl (cut_f b least bits most (by omega) hbits) rfl (by first | exact LeL.refl _ | ((repeat (first | exact LeL.refl _ | exact LeA.refl _ | exact LeA.nil _ | refine LeL.cons ?_ ?_ | refine LeA.agg ?_)); first | done | fail)) rfl (by first | exact free_0 | exact free_mk rfl | (repeat (first | exact free_0 | exact free_mk rfl | exact free_mk (by simp) | refine free_upd rfl ?_))) ?_)
      | (refine callD rfl (cut_f b least bits most (by omega) hbits) rfl (by first | exact LeL.refl _ | ((repeat (first | exact LeL.refl _ | exact LeA.refl _ | exact LeA.nil _ | refine LeL.cons ?_ ?_ | refine LeA.agg ?_)); first | done | fail)) rfl rfl ?_)
      | (refine callDO rfl (cut_f b least bits most (by omega) hbits) rfl (by first | exact LeL.refl _ | ((repeat (first | exact LeL.refl _ | exact LeA.refl _ | exact LeA.nil _ | refine LeL.cons ?_ ?_ | refine LeA.agg ?_)); first | done | fail)) rfl (by first | exact free_0 | exact free_mk rfl | (repeat (first | exact free_0 | exact free_mk rfl | exact free_mk (by simp) | refine free_upd rfl ?_))) rfl ?_))
    exact ret_ov rfl (by simp) rfl
end Go.Proofs.Ytchhcmblajmehaa
