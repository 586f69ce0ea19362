/-
  Shared pieces, digests of bytes on the machine. No statement of the seat is proved here; no conditions.
-/
import Derived.Test.YtchhcmblajmehaaTpB
namespace Go.Proofs.Ytchhcmblajmehaa
open Go.RowKit
set_option linter.unusedVariables false
set_option linter.unusedSimpArgs false
set_option maxRecDepth 100000

/-- The bytes of those that lie in pieces of another one. -/
def shSum (x y : List (List UInt8)) : Nat := lens (y.filter fun p => decide (p ∈ x))
theorem shSum_snoc {x y : List (List UInt8)} {i : Nat} {p : List UInt8} (h : y[i]? = some p) : shSum x (y.take (i + 1)) = shSum x (y.take i) + if p ∈ x then p.length else 0 := by
  rw [shSum, List.take_add_one, h, List.filter_append, lens, List.map_append, List.sum_append, ← lens, ← shSum]
  by_cases hp : p ∈ x <;> simp [hp]
theorem shSum_le (x y : List (List UInt8)) : shSum x y ≤ lens y := by
  unfold shSum
  induction y with
  | nil => exact Nat.le_refl _
  | cons p y ih =>
    by_cases hp : p ∈ x
    · simp only [List.filter_cons, hp, decide_true, if_true, lens, List.map_cons, List.sum_cons] at ih ⊢; omega
    · simp only [List.filter_cons, hp, decide_false, Bool.false_eq_true, if_false, lens, List.map_cons, List.sum_cons] at ih ⊢; omega
theorem lens_flat : ∀ l : List (List UInt8), lens l = l.flatten.length
  | [] => rfl
  | p :: l => by
    have := lens_flat l
    rw [lens, List.map_cons, List.sum_cons, List.flatten_cons, List.length_append, ← this]; rfl
theorem drop_sum {b : List UInt8} {l : List Nat} {s n : Nat} (h : l[s]? = some n) : (b.drop (l.take s).sum).drop n = b.drop (l.take (s + 1)).sum := by rw [List.drop_drop, sum_take_succ h]
set_option maxHeartbeats 2000000 in
theorem Shared_f (a b : List UInt8) (least bits most : Int) (ha : pcErr a least bits most = 0) (hb : pcErr b least bits most = 0) : FRet Try.prog 9 [.f (frB a), .f (frB b), .f (.int .i64 least), .f (.int .i64 bits), .f (.int .i64 most)] [.c (.v (.int .i64 (shSum (cutP a (cutV a least bits most)) (cutP b (cutV b least bits most)) : Nat))), .c (.v (.int .i64 0))] := by
  have pa := Pieces_f a least bits most
  have pb := Pieces_f b least bits most
  have ea : pcV a least bits most = cutV a least bits most := if_pos ha
  have eb : pcV b least bits most = cutV b least bits most := if_pos hb
  rw [ha, ea] at pa
  rw [hb, eb] at pb
  obtain ⟨ha1, ha2⟩ := pcErr_zero ha
  obtain ⟨hb1, hb2⟩ := pcErr_zero hb
  have sa := cutV_sum a least bits most
  have sb := cutV_sum b least bits most
  generalize cutV a least bits most = la at *
  generalize cutV b least bits most = lb at *
  have hA := hide pa
  have hB := hide pb
  clear pa pb ha hb ea eb
  refine FCall.of_ax low_blob_Shared ?_
  dsimp only [l_blob_Shared]
  refine srun_sound 300 _ _ _ _ ?_
  repeat' (first
    | (simp -implicitDefEqProofs only [*, zr1, zr2, zr3, zr4, zr5, zr6, zr7, effEqS, eqL, eqV, effIsNil, effMark, onesA, effBytesStr, effStrBytes, effCopy, effClear, effMapUpd, effLookup, lookV, AV.plainVal, copyN, copyS, copyR, idsS, idsC, effNil, effPick, effBox, effBuild, effBuildS, effLoad, effStore, fvX, effBin, effUn, effConvInt, effConvStr, effClo, effMake, boundsV, effSlice, effSlice0, effSliceS, effFieldAddr, effField, effIndex, effIndexS, effExtract, effLen, effMax, effMin, effAppend, binF, unF, FV.isOne, AV.isOne, AV.cellsN, splice, fillA, srcF, bornA, growA, resA, argsE, argsF, Nat.reduceAdd, Nat.reduceSub, Nat.reduceMul, Nat.reduceLT, Nat.reduceLeDiff, Nat.reduceEqDiff, Nat.reduceBEq, reduceIte, reduceCtorEq, Int.reduceLE, Int.reduceLT, Int.reduceToNat, Int.reduceEq, Int.reduceNe])
    | ((first | apply condS_splitN | apply condS_split | apply guardS_splitTN | apply guardS_splitFN | apply guardD_splitTN | apply guardD_splitFN | apply guardS_splitT | apply guardS_splitF | apply guardD_splitT | apply guardD_splitF) <;> intro hc)
    | (refine callP0 rfl ?_)
    | (refine callD0 rfl ?_)
    | (refine callP rfl (hA.out) rfl (by first | exact LeL.refl _ | ((repeat (first | exact LeL.refl _ | exact LeA.refl _ | exact LeA.nil _ | refine LeL.cons ?_ ?_ | refine LeA.agg ?_)); first | done | fail)) rfl (by first | exact free_0 | exact free_mk rfl | (repeat (first | exact free_0 | exact free_mk rfl | exact free_mk (by simp) | refine free_upd rfl ?_))) ?_)
    | (refine callD rfl (hA.out) rfl (by first | exact LeL.refl _ | ((repeat (first | exact LeL.refl _ | exact LeA.refl _ | exact LeA.nil _ | refine LeL.cons ?_ ?_ | refine LeA.agg ?_)); first | done | fail)) rfl rfl ?_)
    | (refine callP rfl (hB.out) rfl (by first | exact LeL.refl _ | ((repeat (first | exact LeL.refl _ | exact LeA.refl _ | exact LeA.nil _ | refine LeL.cons ?_ ?_ | refine LeA.agg ?_)); first | done | fail)) rfl (by first | exact free_0 | exact free_mk rfl | (repeat (first | exact free_0 | exact free_mk rfl | exact free_mk (by simp) | refine free_upd rfl ?_))) ?_)
    | (refine callD rfl (hB.out) rfl (by first | exact LeL.refl _ | ((repeat (first | exact LeL.refl _ | exact LeA.refl _ | exact LeA.nil _ | refine LeL.cons ?_ ?_ | refine LeA.agg ?_)); first | done | fail)) rfl rfl ?_))
  have hcl := cutP_len la a
  have hgt := cutP_get la a
  have hcm := cutP_len lb b
  have hgm := cutP_get lb b
  have hfl := cutP_flat lb b sb
  generalize hx : cutP a la = x at hcl hgt ⊢
  generalize hy : cutP b lb = y at hcm hgm hfl ⊢
  clear hx hy
  refine ax_loopU (S := Nat) 79 [1, 14, 15, 44, 45] [26, 37] (fun s => [(0, .f (frB (a.drop (la.take s).sum))), (46, .f (.int .i64 s))]) (fun s => [(43, 1, AObj.map (setL ((x.take s).map bs)))]) (fun s => s ≤ la.length) (fun s => la.length - s) (0) [] ?_ ?_ fun s hs => ?_
  · exact Nat.zero_le _
  · refine ⟨rfl, (by first | exact small_0 | exact small_mk rfl | (repeat (first | exact small_0 | exact small_mk rfl | refine small_upd rfl ?_ | refine small_sw rfl rfl ?_))), rfl, rfl, (by rfl), ?_, ?_⟩ <;> simp only [List.take_zero, List.sum_nil, List.drop_zero, zw1, zw2, swN, ElOk, HlOk, Nat.reduceEqDiff, Nat.reduceBEq, Nat.reduceLT, Nat.reduceLeDiff, reduceIte, reduceCtorEq, H0, AObj.cells.injEq]
    all_goals rfl
  refine srun_sound 300 _ _ _ _ ?_
  rcases Nat.lt_or_ge s la.length with hlt | hge
  · obtain ⟨n, hn⟩ := get_some hlt
    have h4 := inc64 hlt (by omega)
    have h2 := lt_t hlt
    have hg := hgt s n hn
    have hds := drop_sum (b := a) hn
    have hle := sum_take_le la s n hn
    have hs2 : setL ((x.take (s + 1)).map bs) = mSet ⟨((a.drop (la.take s).sum).take n).toArray⟩ (.bool true) (setL ((x.take s).map bs)) := by rw [List.take_add_one, hg, List.map_append, setL_snoc]; rfl
    have hdl : (a.drop (la.take s).sum).length = a.length - (la.take s).sum := List.length_drop
    generalize a.drop (la.take s).sum = d at hds hs2 hdl ⊢
    have k1 : ((0 : Int) ≤ (n : Int)) = True := by rw [eq_iff_iff, iff_true]; omega
    have k2 : ((n : Int) ≤ (d.length : Int)) = True := by rw [eq_iff_iff, iff_true]; omega
    have hD := hide hds
    clear hds hgt hgm hg hdl hle
    repeat' (first
      | (simp -implicitDefEqProofs only [*, List.getElem?_map, Option.map_some, fN, frB, List.length_map, ← List.map_take, ← List.map_drop, List.take_length, Int.le_refl, zr1, zr2, zr3, zr4, zr5, zr6, zr7, effEqS, eqL, eqV, effIsNil, effMark, onesA, effBytesStr, effStrBytes, effCopy, effClear, effMapUpd, effLookup, lookV, AV.plainVal, copyN, copyS, copyR, idsS, idsC, effNil, effPick, effBox, effBuild, effBuildS, effLoad, effStore, fvX, effBin, effUn, effConvInt, effConvStr, effClo, effMake, boundsV, effSlice, effSlice0, effSliceS, effFieldAddr, effField, effIndex, effIndexS, effExtract, effLen, effMax, effMin, effAppend, binF, unF, FV.isOne, AV.isOne, AV.cellsN, splice, fillA, srcF, bornA, growA, resA, argsE, argsF, Nat.reduceAdd, Nat.reduceSub, Nat.reduceMul, Nat.reduceLT, Nat.reduceLeDiff, Nat.reduceEqDiff, Nat.reduceBEq, reduceIte, reduceCtorEq, Int.reduceLE, Int.reduceLT, Int.reduceToNat, Int.reduceEq, Int.reduceNe])
      | ((first | apply condS_splitN | apply condS_split | apply guardS_splitTN | apply guardS_splitFN | apply guardD_splitTN | apply guardD_splitFN | apply guardS_splitT | apply guardS_splitF | apply guardD_splitT | apply guardD_splitF) <;> intro hc)
      | (refine callP0 rfl ?_)
      | (refine callD0 rfl ?_))
    refine ⟨s + 1, hlt, by omega, ?_⟩
    rw [hs2, ← hD.out]
    refine ⟨rfl, (by first | exact small_0 | exact small_mk rfl | (repeat (first | exact small_0 | exact small_mk rfl | refine small_upd rfl ?_ | refine small_sw rfl rfl ?_))), rfl, rfl, (by rfl), ?_, ?_⟩ <;> simp only [frB, zw1, zw2, swN, ElOk, HlOk, Nat.reduceEqDiff, Nat.reduceBEq, Nat.reduceLT, Nat.reduceLeDiff, reduceIte, reduceCtorEq, H0, AObj.cells.injEq]
  obtain rfl : s = la.length := by omega
  have h2 := lt_f hge
  have h3 : x.take la.length = x := List.take_of_length_le (by omega)
  clear hgt hge hs
  repeat' (first
    | (simp -implicitDefEqProofs only [*, zr1, zr2, zr3, zr4, zr5, zr6, zr7, effEqS, eqL, eqV, effIsNil, effMark, onesA, effBytesStr, effStrBytes, effCopy, effClear, effMapUpd, effLookup, lookV, AV.plainVal, copyN, copyS, copyR, idsS, idsC, effNil, effPick, effBox, effBuild, effBuildS, effLoad, effStore, fvX, effBin, effUn, effConvInt, effConvStr, effClo, effMake, boundsV, effSlice, effSlice0, effSliceS, effFieldAddr, effField, effIndex, effIndexS, effExtract, effLen, effMax, effMin, effAppend, binF, unF, FV.isOne, AV.isOne, AV.cellsN, splice, fillA, srcF, bornA, growA, resA, argsE, argsF, Nat.reduceAdd, Nat.reduceSub, Nat.reduceMul, Nat.reduceLT, Nat.reduceLeDiff, Nat.reduceEqDiff, Nat.reduceBEq, reduceIte, reduceCtorEq, Int.reduceLE, Int.reduceLT, Int.reduceToNat, Int.reduceEq, Int.reduceNe])
    | ((first | apply condS_splitN | apply condS_split | apply guardS_splitTN | apply guardS_splitFN | apply guardD_splitTN | apply guardD_splitFN | apply guardS_splitT | apply guardS_splitF | apply guardD_splitT | apply guardD_splitF) <;> intro hc)
    | (refine callP0 rfl ?_)
    | (refine callD0 rfl ?_))
  refine ax_loopU (S := Nat) 79 [15, 59, 60] [43, 37] (fun s => [(1, .f (frB (b.drop (lb.take s).sum))), (18, .f (.int .i64 (shSum x (y.take s) : Nat))), (61, .f (.int .i64 s))]) (fun s => []) (fun s => s ≤ lb.length) (fun s => lb.length - s) (0) [] ?_ ?_ fun s hs => ?_
  · exact Nat.zero_le _
  · refine ⟨rfl, (by first | exact small_0 | exact small_mk rfl | (repeat (first | exact small_0 | exact small_mk rfl | refine small_upd rfl ?_ | refine small_sw rfl rfl ?_))), rfl, rfl, (by rfl), ?_, ?_⟩ <;> simp only [List.take_zero, List.sum_nil, List.drop_zero, show shSum x [] = 0 from rfl, zw1, zw2, swN, ElOk, HlOk, Nat.reduceEqDiff, Nat.reduceBEq, Nat.reduceLT, Nat.reduceLeDiff, reduceIte, reduceCtorEq, H0, AObj.cells.injEq]
  refine srun_sound 300 _ _ _ _ ?_
  rcases Nat.lt_or_ge s lb.length with hlt | hge
  · obtain ⟨n, hn⟩ := get_some hlt
    have h4 := inc64 hlt (by omega)
    have h2 := lt_t hlt
    have hg := hgm s n hn
    have hds := drop_sum (b := b) hn
    have hle := sum_take_le lb s n hn
    have hdl : (b.drop (lb.take s).sum).length = b.length - (lb.take s).sum := List.length_drop
    have hss := shSum_snoc (x := x) hg
    have hb9 := shSum_le x (y.take (s + 1))
    have hb8 := lens_take y (s + 1)
    have hb7 := lens_flat y
    rw [hfl] at hb7
    generalize b.drop (lb.take s).sum = d at hds hdl hss ⊢
    generalize hS' : shSum x (y.take (s + 1)) = S' at hss hb9
    generalize shSum x (y.take s) = S at hss ⊢
    have k1 : ((0 : Int) ≤ (n : Int)) = True := by rw [eq_iff_iff, iff_true]; omega
    have k2 : ((n : Int) ≤ (d.length : Int)) = True := by rw [eq_iff_iff, iff_true]; omega
    have htl : (d.take n).length = n := by rw [List.length_take]; omega
    have hD := hide hds
    by_cases hin : d.take n ∈ x
    · rw [if_pos hin, htl] at hss
      have hh := mGet_t (show hasS (bs (d.take n)) (x.map bs) = true by rw [hasS_bs, decide_eq_true_eq]; exact hin)
      have hw : IntKind.i64.wrap ((S : Int) + (n : Int)) = (S' : Int) := by rw [hss, wrap64] <;> omega
      clear hds hgm hg hdl hle hb9 hb8 hb7 hss hin htl hfl
      repeat' (first
        | (simp -implicitDefEqProofs only [*, List.getElem?_map, Option.map_some, fN, frB, List.length_map, ← List.map_take, ← List.map_drop, List.take_length, Int.le_refl, FV.ofValue, zr1, zr2, zr3, zr4, zr5, zr6, zr7, effEqS, eqL, eqV, effIsNil, effMark, onesA, effBytesStr, effStrBytes, effCopy, effClear, effMapUpd, effLookup, lookV, AV.plainVal, copyN, copyS, copyR, idsS, idsC, effNil, effPick, effBox, effBuild, effBuildS, effLoad, effStore, fvX, effBin, effUn, effConvInt, effConvStr, effClo, effMake, boundsV, effSlice, effSlice0, effSliceS, effFieldAddr, effField, effIndex, effIndexS, effExtract, effLen, effMax, effMin, effAppend, binF, unF, FV.isOne, AV.isOne, AV.cellsN, splice, fillA, srcF, bornA, growA, resA, argsE, argsF, Nat.reduceAdd, Nat.reduceSub, Nat.reduceMul, Nat.reduceLT, Nat.reduceLeDiff, Nat.reduceEqDiff, Nat.reduceBEq, reduceIte, reduceCtorEq, Int.reduceLE, Int.reduceLT, Int.reduceToNat, Int.reduceEq, Int.reduceNe])
        | ((first | apply condS_splitN | apply condS_split | apply guardS_splitTN | apply guardS_splitFN | apply guardD_splitTN | apply guardD_splitFN | apply guardS_splitT | apply guardS_splitF | apply guardD_splitT | apply guardD_splitF) <;> intro hc)
        | (refine callP0 rfl ?_)
        | (refine callD0 rfl ?_))
      refine ⟨s + 1, hlt, by omega, ?_⟩
      rw [← hD.out, hS']
      refine ⟨rfl, (by first | exact small_0 | exact small_mk rfl | (repeat (first | exact small_0 | exact small_mk rfl | refine small_upd rfl ?_ | refine small_sw rfl rfl ?_))), rfl, rfl, (by rfl), ?_, ?_⟩ <;> simp only [frB, zw1, zw2, swN, ElOk, HlOk, Nat.reduceEqDiff, Nat.reduceBEq, Nat.reduceLT, Nat.reduceLeDiff, reduceIte, reduceCtorEq, H0, AObj.cells.injEq]
    · rw [if_neg hin, Nat.add_zero] at hss
      have hh := mGet_f (show hasS (bs (d.take n)) (x.map bs) = false by rw [hasS_bs, decide_eq_false_iff_not]; exact hin)
      subst hss
      clear hds hgm hg hdl hle hb9 hb8 hb7 hin htl hfl
      repeat' (first
        | (simp -implicitDefEqProofs only [*, List.getElem?_map, Option.map_some, fN, frB, List.length_map, ← List.map_take, ← List.map_drop, List.take_length, Int.le_refl, FV.ofValue, zr1, zr2, zr3, zr4, zr5, zr6, zr7, effEqS, eqL, eqV, effIsNil, effMark, onesA, effBytesStr, effStrBytes, effCopy, effClear, effMapUpd, effLookup, lookV, AV.plainVal, copyN, copyS, copyR, idsS, idsC, effNil, effPick, effBox, effBuild, effBuildS, effLoad, effStore, fvX, effBin, effUn, effConvInt, effConvStr, effClo, effMake, boundsV, effSlice, effSlice0, effSliceS, effFieldAddr, effField, effIndex, effIndexS, effExtract, effLen, effMax, effMin, effAppend, binF, unF, FV.isOne, AV.isOne, AV.cellsN, splice, fillA, srcF, bornA, growA, resA, argsE, argsF, Nat.reduceAdd, Nat.reduceSub, Nat.reduceMul, Nat.reduceLT, Nat.reduceLeDiff, Nat.reduceEqDiff, Nat.reduceBEq, reduceIte, reduceCtorEq, Int.reduceLE, Int.reduceLT, Int.reduceToNat, Int.reduceEq, Int.reduceNe])
        | ((first | apply condS_splitN | apply condS_split | apply guardS_splitTN | apply guardS_splitFN | apply guardD_splitTN | apply guardD_splitFN | apply guardS_splitT | apply guardS_splitF | apply guardD_splitT | apply guardD_splitF) <;> intro hc)
        | (refine callP0 rfl ?_)
        | (refine callD0 rfl ?_))
      refine ⟨s + 1, hlt, by omega, ?_⟩
      rw [← hD.out, hS']
      refine ⟨rfl, (by first | exact small_0 | exact small_mk rfl | (repeat (first | exact small_0 | exact small_mk rfl | refine small_upd rfl ?_ | refine small_sw rfl rfl ?_))), rfl, rfl, (by rfl), ?_, ?_⟩ <;> simp only [frB, zw1, zw2, swN, ElOk, HlOk, Nat.reduceEqDiff, Nat.reduceBEq, Nat.reduceLT, Nat.reduceLeDiff, reduceIte, reduceCtorEq, H0, AObj.cells.injEq]
  · obtain rfl : s = lb.length := by omega
    have h2 := lt_f hge
    have h3 : y.take lb.length = y := List.take_of_length_le (by omega)
    clear hgm hge
    repeat' (first
      | (simp -implicitDefEqProofs only [*, zr1, zr2, zr3, zr4, zr5, zr6, zr7, effEqS, eqL, eqV, effIsNil, effMark, onesA, effBytesStr, effStrBytes, effCopy, effClear, effMapUpd, effLookup, lookV, AV.plainVal, copyN, copyS, copyR, idsS, idsC, effNil, effPick, effBox, effBuild, effBuildS, effLoad, effStore, fvX, effBin, effUn, effConvInt, effConvStr, effClo, effMake, boundsV, effSlice, effSlice0, effSliceS, effFieldAddr, effField, effIndex, effIndexS, effExtract, effLen, effMax, effMin, effAppend, binF, unF, FV.isOne, AV.isOne, AV.cellsN, splice, fillA, srcF, bornA, growA, resA, argsE, argsF, Nat.reduceAdd, Nat.reduceSub, Nat.reduceMul, Nat.reduceLT, Nat.reduceLeDiff, Nat.reduceEqDiff, Nat.reduceBEq, reduceIte, reduceCtorEq, Int.reduceLE, Int.reduceLT, Int.reduceToNat, Int.reduceEq, Int.reduceNe])
      | ((first | apply condS_splitN | apply condS_split | apply guardS_splitTN | apply guardS_splitFN | apply guardD_splitTN | apply guardD_splitFN | apply guardS_splitT | apply guardS_splitF | apply guardD_splitT | apply guardD_splitF) <;> intro hc)
      | (refine callP0 rfl ?_)
      | (refine callD0 rfl ?_))
    exact ret_vv
end Go.Proofs.Ytchhcmblajmehaa
