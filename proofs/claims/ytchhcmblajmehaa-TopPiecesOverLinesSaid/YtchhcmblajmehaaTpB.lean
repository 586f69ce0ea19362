/-
  Pieces on the machine: cutting by sizes, wire.Fresh, blob.Shared. No statement of the seat is proved here; no conditions.
-/
import Derived.Test.YtchhcmblajmehaaTpA
import Derived.Test.YtchhcmblajmehaaSet
namespace Go.Proofs.Ytchhcmblajmehaa
open Go.RowKit
set_option linter.unusedVariables false
set_option linter.unusedSimpArgs false
set_option maxRecDepth 100000

def encR (x : List UInt8) : List FV := [frB x]
def frBs (l : List (List UInt8)) : FV := .fr 1 (l.map encR)
/-- Bytes cut by sizes. -/
def cutP : List UInt8 → List Nat → List (List UInt8)
  | _, [] => []
  | b, n :: l => b.take n :: cutP (b.drop n) l
theorem cutP_len : ∀ (l : List Nat) (b : List UInt8), (cutP b l).length = l.length
  | [], _ => rfl
  | n :: l, b => by rw [cutP, List.length_cons, cutP_len l, List.length_cons]
theorem cutP_get : ∀ (l : List Nat) (b : List UInt8) (s n : Nat), l[s]? = some n → (cutP b l)[s]? = some ((b.drop (l.take s).sum).take n)
  | [], _, s, n, h => by simp at h
  | m :: l, b, 0, n, h => by
    obtain rfl := Option.some.inj h
    simp [cutP]
  | m :: l, b, s + 1, n, h => by
    rw [cutP, List.getElem?_cons_succ, cutP_get l (b.drop m) s n (by simpa using h), List.take_succ_cons, List.sum_cons, List.drop_drop]
theorem cutP_flat : ∀ (l : List Nat) (b : List UInt8), l.sum = b.length → (cutP b l).flatten = b
  | [], b, h => by
    have : b = [] := List.eq_nil_of_length_eq_zero (by simpa using h.symm)
    subst this; rfl
  | n :: l, b, h => by
    rw [List.sum_cons] at h
    rw [cutP, List.flatten_cons, cutP_flat l (b.drop n) (by rw [List.length_drop]; omega), List.take_append_drop]
theorem sum_take_le : ∀ (l : List Nat) (s n : Nat), l[s]? = some n → (l.take s).sum + n ≤ l.sum
  | [], s, n, h => by simp at h
  | m :: l, 0, n, h => by obtain rfl := Option.some.inj h; simp
  | m :: l, s + 1, n, h => by
    have := sum_take_le l s n (by simpa using h)
    rw [List.take_succ_cons, List.sum_cons, List.sum_cons]; omega
theorem sum_take_succ {l : List Nat} {s n : Nat} (h : l[s]? = some n) : (l.take (s + 1)).sum = (l.take s).sum + n := by
  rw [List.take_add_one, h, List.sum_append]; simp
theorem topcut_f (b : List UInt8) (l : List Nat) (hs : l.sum ≤ b.length) (hb : b.length ≤ 2000000) (hl : l.length ≤ 20000) : FRet Try.prog 6 [.f (frB b), .f (frN l)] [.c (.own 1 (cutP b l).length (rowF encR (cutP b l)))] := by
  refine FCall.of_ax low_top_cut ?_
  dsimp only [l_top_cut, frB, frN]
  refine srun_sound 300 _ _ _ _ ?_
  have hcl := cutP_len l b
  have hgt := cutP_get l b
  generalize hc : cutP b l = c at hcl hgt ⊢
  clear hc
  repeat' (first
    | (simp -implicitDefEqProofs only [*, zr1, zr2, zr3, zr4, zr5, zr6, zr7, effEqS, eqL, eqV, effIsNil, effMark, onesA, effBytesStr, effStrBytes, effCopy, effClear, effMapUpd, effLookup, lookV, AV.plainVal, copyN, copyS, copyR, idsS, idsC, effNil, effPick, effBox, effBuild, effBuildS, effLoad, effStore, fvX, effBin, effUn, effConvInt, effConvStr, effClo, effMake, boundsV, effSlice, effSlice0, effSliceS, effFieldAddr, effField, effIndex, effIndexS, effExtract, effLen, effMax, effMin, effAppend, binF, unF, FV.isOne, AV.isOne, AV.cellsN, splice, fillA, srcF, bornA, growA, resA, argsE, argsF, Nat.reduceAdd, Nat.reduceSub, Nat.reduceMul, Nat.reduceLT, Nat.reduceLeDiff, Nat.reduceEqDiff, Nat.reduceBEq, reduceIte, reduceCtorEq, Int.reduceLE, Int.reduceLT, Int.reduceToNat, Int.reduceEq, Int.reduceNe])
    | ((first | apply condS_splitN | apply condS_split | apply guardS_splitTN | apply guardS_splitFN | apply guardD_splitTN | apply guardD_splitFN | apply guardS_splitT | apply guardS_splitF | apply guardD_splitT | apply guardD_splitF) <;> intro hc)
    | (refine callP0 rfl ?_)
    | (refine callD0 rfl ?_))
  refine ax_loopU (S := Nat) 33 [0, 1] [] (fun s => [(5, .sl 25 1 1 0 s), (6, .f (.int .i64 ((l.take s).sum : Nat))), (7, .f (.int .i64 s))]) (fun s => [(25, 1, (rowF encR (c.take s)).map AV.f)]) (fun s => s ≤ l.length) (fun s => l.length - s) (0) [25] ?_ ?_ fun s hs => ?_
  · exact Nat.zero_le _
  · refine ⟨rfl, (by first | exact small_0 | exact small_mk rfl | (repeat (first | exact small_0 | exact small_mk rfl | refine small_upd rfl ?_ | refine small_sw rfl rfl ?_))), rfl, rfl, (by rfl), ?_, ?_⟩ <;> simp only [List.take_zero, row_nil, List.sum_nil, zw1, zw2, swN, ElOk, HlOk, Nat.reduceEqDiff, Nat.reduceBEq, Nat.reduceLT, Nat.reduceLeDiff, reduceIte, reduceCtorEq, H0, AObj.cells.injEq]
  refine srun_sound 300 _ _ _ _ ?_
  rcases Nat.lt_or_ge s l.length with hlt | hge
  · obtain ⟨n, hn⟩ := get_some hlt
    have h4 := inc64 hlt (by omega)
    have h2 := lt_t hlt
    have hle := sum_take_le l s n hn
    have hg := hgt s n hn
    have hsu := sum_take_succ hn
    have hr : rowF encR (c.take (s + 1)) = rowF encR (c.take s) ++ encR ((b.drop (l.take s).sum).take n) := by rw [List.take_add_one, hg, row_app]; rfl
    have hrl : (rowF encR (c.take s)).length = s := by rw [row_len (sz := 1) (fun _ => rfl), List.length_take, Nat.mul_one]; omega
    clear hgt hg
    have hw : IntKind.i64.wrap (((l.take s).sum : Nat) + (n : Int)) = (((l.take s).sum + n : Nat) : Int) := by rw [wrap64] <;> omega
    generalize (l.take s).sum = a at *
    generalize he : a + n = e at *
    have k1 : ((a : Int) ≤ (e : Int)) = True := by rw [eq_iff_iff, iff_true]; omega
    have k2 : ((e : Int) ≤ (b.length : Int)) = True := by rw [eq_iff_iff, iff_true]; omega
    have h8 : ((s + 1) * 24 ≤ 140737488355328) = True := by rw [eq_iff_iff, iff_true]; omega
    have hsl : (b.take e).drop a = (b.drop a).take n := by rw [← he, ← List.take_drop]
    rw [← hsl] at hr
    generalize rowF encR (c.take s) = R at hr hrl ⊢
    clear hsl hle
    repeat' (first
      | (simp -implicitDefEqProofs only [*, List.getElem?_map, Option.map_some, fN, ← List.map_take, ← List.map_drop, zr1, zr2, zr3, zr4, zr5, zr6, zr7, effEqS, eqL, eqV, effIsNil, effMark, onesA, effBytesStr, effStrBytes, effCopy, effClear, effMapUpd, effLookup, lookV, AV.plainVal, copyN, copyS, copyR, idsS, idsC, effNil, effPick, effBox, effBuild, effBuildS, effLoad, effStore, fvX, effBin, effUn, effConvInt, effConvStr, effClo, effMake, boundsV, effSlice, effSlice0, effSliceS, effFieldAddr, effField, effIndex, effIndexS, effExtract, effLen, effMax, effMin, effAppend, binF, unF, FV.isOne, AV.isOne, AV.cellsN, splice, fillA, srcF, bornA, growA, resA, argsE, argsF, Nat.reduceAdd, Nat.reduceSub, Nat.reduceMul, Nat.reduceLT, Nat.reduceLeDiff, Nat.reduceEqDiff, Nat.reduceBEq, reduceIte, reduceCtorEq, Int.reduceLE, Int.reduceLT, Int.reduceToNat, Int.reduceEq, Int.reduceNe])
      | ((first | apply condS_splitN | apply condS_split | apply guardS_splitTN | apply guardS_splitFN | apply guardD_splitTN | apply guardD_splitFN | apply guardS_splitT | apply guardS_splitF | apply guardD_splitT | apply guardD_splitF) <;> intro hc)
      | (refine callP0 rfl ?_)
      | (refine callD0 rfl ?_))
    refine ⟨s + 1, hlt, by omega, ?_⟩
    rw [hsu, hr]
    refine ⟨rfl, (by first | exact small_0 | exact small_mk rfl | (repeat (first | exact small_0 | exact small_mk rfl | refine small_upd rfl ?_ | refine small_sw rfl rfl ?_))), rfl, rfl, (by rfl), ?_, ?_⟩ <;> simp only [List.length_append, zw1, zw2, swN, ElOk, HlOk, Nat.reduceEqDiff, Nat.reduceBEq, Nat.reduceLT, Nat.reduceLeDiff, reduceIte, reduceCtorEq, H0, AObj.cells.injEq]
    all_goals exact SlotsOk.of_eq (by simp [encR, frB])
  · obtain rfl : s = l.length := by omega
    have h2 := lt_f hge
    have h3 : c.take l.length = c := List.take_of_length_le (by omega)
    rw [h3, ← hcl]
    repeat' (first
      | (simp -implicitDefEqProofs only [*, zr1, zr2, zr3, zr4, zr5, zr6, zr7, effEqS, eqL, eqV, effIsNil, effMark, onesA, effBytesStr, effStrBytes, effCopy, effClear, effMapUpd, effLookup, lookV, AV.plainVal, copyN, copyS, copyR, idsS, idsC, effNil, effPick, effBox, effBuild, effBuildS, effLoad, effStore, fvX, effBin, effUn, effConvInt, effConvStr, effClo, effMake, boundsV, effSlice, effSlice0, effSliceS, effFieldAddr, effField, effIndex, effIndexS, effExtract, effLen, effMax, effMin, effAppend, binF, unF, FV.isOne, AV.isOne, AV.cellsN, splice, fillA, srcF, bornA, growA, resA, argsE, argsF, Nat.reduceAdd, Nat.reduceSub, Nat.reduceMul, Nat.reduceLT, Nat.reduceLeDiff, Nat.reduceEqDiff, Nat.reduceBEq, reduceIte, reduceCtorEq, Int.reduceLE, Int.reduceLT, Int.reduceToNat, Int.reduceEq, Int.reduceNe])
      | ((first | apply condS_splitN | apply condS_split | apply guardS_splitTN | apply guardS_splitFN | apply guardD_splitTN | apply guardD_splitFN | apply guardS_splitT | apply guardS_splitF | apply guardD_splitT | apply guardD_splitF) <;> intro hc)
      | (refine callP0 rfl ?_)
      | (refine callD0 rfl ?_))
    exact ret_oe rfl (by simp [cellsOf, mkH, lookH]) rfl (by rw [row_len (sz := 1) (fun _ => rfl), hcl]; exact Nat.le_refl _)
theorem ret_ovv {sz n id ver : Nat} {cs : List FV} {H : Heap} {x y x' y' : FV} (h : cellsOf ver (H id) = some (cs.map .f)) (hl : n * sz ≤ cs.length) (hx : y = x) (hx' : y' = x') : Rets [.c (.own sz n cs), .c (.v x), .c (.v x')] (.tup [.sl id ver sz 0 n, .f y, .f y']) H := by subst hx hx'; exact ⟨[_, _, _], rfl, ⟨.inr ⟨_, _, rfl, h, hl⟩, rfl, rfl, rfl⟩, by simp [idsS]⟩
def lens (l : List (List UInt8)) : Nat := (l.map List.length).sum
theorem lens_snoc {l : List (List UInt8)} {i : Nat} {x : List UInt8} (h : l[i]? = some x) : lens (l.take (i + 1)) = lens (l.take i) + x.length := by
  rw [lens, List.take_add_one, h, List.map_append, List.sum_append, ← lens]; simp
theorem lens_take (l : List (List UInt8)) (i : Nat) : lens (l.take i) ≤ lens l := by
  have h : lens l = lens (l.take i) + lens (l.drop i) := by
    rw [lens, lens, lens, ← List.sum_append, ← List.map_append, List.take_append_drop]
  omega
theorem checkPieces_f (l : List (List UInt8)) (h1 : l.length ≤ 20000) (hs : lens l ≤ 2000000) : FRet Try.prog 12 [.f (frBs l)] [.c (.v (.int .i64 0))] := by
  refine FCall.of_ax low_wire_checkPieces ?_
  dsimp only [l_wire_checkPieces, frBs]
  refine srun_sound 300 _ _ _ _ ?_
  repeat' (first
    | (simp -implicitDefEqProofs only [*, zr1, zr2, zr3, zr4, zr5, zr6, zr7, effEqS, eqL, eqV, effIsNil, effMark, onesA, effBytesStr, effStrBytes, effCopy, effClear, effMapUpd, effLookup, lookV, AV.plainVal, copyN, copyS, copyR, idsS, idsC, effNil, effPick, effBox, effBuild, effBuildS, effLoad, effStore, fvX, effBin, effUn, effConvInt, effConvStr, effClo, effMake, boundsV, effSlice, effSlice0, effSliceS, effFieldAddr, effField, effIndex, effIndexS, effExtract, effLen, effMax, effMin, effAppend, binF, unF, FV.isOne, AV.isOne, AV.cellsN, splice, fillA, srcF, bornA, growA, resA, argsE, argsF, Nat.reduceAdd, Nat.reduceSub, Nat.reduceMul, Nat.reduceLT, Nat.reduceLeDiff, Nat.reduceEqDiff, Nat.reduceBEq, reduceIte, reduceCtorEq, Int.reduceLE, Int.reduceLT, Int.reduceToNat, Int.reduceEq, Int.reduceNe])
    | ((first | apply condS_splitN | apply condS_split | apply guardS_splitTN | apply guardS_splitFN | apply guardD_splitTN | apply guardD_splitFN | apply guardS_splitT | apply guardS_splitF | apply guardD_splitT | apply guardD_splitF) <;> intro hc)
    | (refine callP0 rfl ?_)
    | (refine callD0 rfl ?_))
  refine ax_loopU (S := Nat) 24 [0, 6, 7] [] (fun s => [(3, .f (.int .i64 (lens (l.take s) : Nat))), (8, .f (.int .i64 s))]) (fun s => []) (fun s => s ≤ l.length) (fun s => l.length - s) (0) [] ?_ ?_ fun s hs => ?_
  · exact Nat.zero_le _
  · refine ⟨rfl, (by first | exact small_0 | exact small_mk rfl | (repeat (first | exact small_0 | exact small_mk rfl | refine small_upd rfl ?_ | refine small_sw rfl rfl ?_))), rfl, rfl, (by rfl), ?_, ?_⟩ <;> simp only [List.take_zero, show lens [] = 0 from rfl, zw1, zw2, swN, ElOk, HlOk, Nat.reduceEqDiff, Nat.reduceBEq, Nat.reduceLT, Nat.reduceLeDiff, reduceIte, reduceCtorEq, H0, AObj.cells.injEq]
  refine srun_sound 300 _ _ _ _ ?_
  rcases Nat.lt_or_ge s l.length with hlt | hge
  · obtain ⟨x, hx⟩ := get_some hlt
    have h4 := inc64 hlt (by omega)
    have h2 := lt_t hlt
    have hsu := lens_snoc hx
    have hle := lens_take l (s + 1)
    have hw : IntKind.i64.wrap ((lens (l.take s) : Nat) + (x.length : Int)) = ((lens (l.take s) + x.length : Nat) : Int) := by rw [wrap64] <;> omega
    clear hle
    repeat' (first
      | (simp -implicitDefEqProofs only [*, List.getElem?_map, Option.map_some, encR, frB, zr1, zr2, zr3, zr4, zr5, zr6, zr7, effEqS, eqL, eqV, effIsNil, effMark, onesA, effBytesStr, effStrBytes, effCopy, effClear, effMapUpd, effLookup, lookV, AV.plainVal, copyN, copyS, copyR, idsS, idsC, effNil, effPick, effBox, effBuild, effBuildS, effLoad, effStore, fvX, effBin, effUn, effConvInt, effConvStr, effClo, effMake, boundsV, effSlice, effSlice0, effSliceS, effFieldAddr, effField, effIndex, effIndexS, effExtract, effLen, effMax, effMin, effAppend, binF, unF, FV.isOne, AV.isOne, AV.cellsN, splice, fillA, srcF, bornA, growA, resA, argsE, argsF, Nat.reduceAdd, Nat.reduceSub, Nat.reduceMul, Nat.reduceLT, Nat.reduceLeDiff, Nat.reduceEqDiff, Nat.reduceBEq, reduceIte, reduceCtorEq, Int.reduceLE, Int.reduceLT, Int.reduceToNat, Int.reduceEq, Int.reduceNe])
      | ((first | apply condS_splitN | apply condS_split | apply guardS_splitTN | apply guardS_splitFN | apply guardD_splitTN | apply guardD_splitFN | apply guardS_splitT | apply guardS_splitF | apply guardD_splitT | apply guardD_splitF) <;> intro hc)
      | (refine callP0 rfl ?_)
      | (refine callD0 rfl ?_))
    refine ⟨s + 1, hlt, by omega, ?_⟩
    rw [hsu]
    refine ⟨rfl, (by first | exact small_0 | exact small_mk rfl | (repeat (first | exact small_0 | exact small_mk rfl | refine small_upd rfl ?_ | refine small_sw rfl rfl ?_))), rfl, rfl, (by rfl), ?_, ?_⟩ <;> simp only [zw1, zw2, swN, ElOk, HlOk, Nat.reduceEqDiff, Nat.reduceBEq, Nat.reduceLT, Nat.reduceLeDiff, reduceIte, reduceCtorEq, H0, AObj.cells.injEq]
  · obtain rfl : s = l.length := by omega
    have h2 := lt_f hge
    have h3 := List.take_length (l := l)
    have k1 : decide ((20000 : Int) < (l.length : Int)) = false := by rw [decide_eq_false_iff_not]; omega
    have k2 : decide ((2000000 : Int) < (lens l : Int)) = false := by rw [decide_eq_false_iff_not]; omega
    repeat' (first
      | (simp -implicitDefEqProofs only [*, zr1, zr2, zr3, zr4, zr5, zr6, zr7, effEqS, eqL, eqV, effIsNil, effMark, onesA, effBytesStr, effStrBytes, effCopy, effClear, effMapUpd, effLookup, lookV, AV.plainVal, copyN, copyS, copyR, idsS, idsC, effNil, effPick, effBox, effBuild, effBuildS, effLoad, effStore, fvX, effBin, effUn, effConvInt, effConvStr, effClo, effMake, boundsV, effSlice, effSlice0, effSliceS, effFieldAddr, effField, effIndex, effIndexS, effExtract, effLen, effMax, effMin, effAppend, binF, unF, FV.isOne, AV.isOne, AV.cellsN, splice, fillA, srcF, bornA, growA, resA, argsE, argsF, Nat.reduceAdd, Nat.reduceSub, Nat.reduceMul, Nat.reduceLT, Nat.reduceLeDiff, Nat.reduceEqDiff, Nat.reduceBEq, reduceIte, reduceCtorEq, Int.reduceLE, Int.reduceLT, Int.reduceToNat, Int.reduceEq, Int.reduceNe])
      | ((first | apply condS_splitN | apply condS_split | apply guardS_splitTN | apply guardS_splitFN | apply guardD_splitTN | apply guardD_splitFN | apply guardS_splitT | apply guardS_splitF | apply guardD_splitT | apply guardD_splitF) <;> intro hc)
      | (refine callP0 rfl ?_)
      | (refine callD0 rfl ?_))
    exact ret_v
/-- The numbers of the pieces that are neither there nor come before. -/
def freshOne (x y : List (List UInt8)) (t : List Nat) (i : Nat) : List Nat := if y.getD i [] ∈ x ++ t.map (fun j => y.getD j []) then t else t ++ [i]
def freshTo (x y : List (List UInt8)) : Nat → List Nat
  | 0 => []
  | i + 1 => freshOne x y (freshTo x y i) i
def pick (y : List (List UInt8)) (t : List Nat) : List (List UInt8) := t.map fun j => y.getD j []
theorem freshTo_len (x y : List (List UInt8)) : ∀ i, (freshTo x y i).length ≤ i
  | 0 => Nat.le_refl _
  | i + 1 => by
    have := freshTo_len x y i
    rw [freshTo, freshOne]; split
    · omega
    · rw [List.length_append]; simp only [List.length_cons, List.length_nil]; omega
theorem freshTo_lens (x y : List (List UInt8)) : ∀ i, i ≤ y.length → lens (pick y (freshTo x y i)) ≤ lens (y.take i)
  | 0, _ => Nat.zero_le _
  | i + 1, h => by
    have ih := freshTo_lens x y i (by omega)
    obtain ⟨z, hz⟩ := get_some (show i < y.length from h)
    rw [lens_snoc hz, freshTo, freshOne]; split
    · omega
    · have hg : y.getD i [] = z := by rw [List.getD_eq_getElem?_getD, hz]; rfl
      rw [pick, List.map_append, ← pick, lens, List.map_append, List.sum_append, ← lens]
      simp only [List.map_cons, List.map_nil, List.sum_cons, List.sum_nil, hg]; omega
set_option maxHeartbeats 1000000 in
theorem Fresh_f (x y : List (List UInt8)) (hx1 : x.length ≤ 20000) (hx2 : lens x ≤ 2000000) (hy1 : y.length ≤ 20000) (hy2 : lens y ≤ 2000000) : FRet Try.prog 7 [.f (frBs x), .f (frBs y)] [.c (.own 1 (freshTo x y y.length).length ((freshTo x y y.length).map fN)), .c (.v (.int .i64 (lens (pick y (freshTo x y y.length)) : Nat))), .c (.v (.int .i64 0))] := by
  refine FCall.of_ax low_wire_Fresh ?_
  dsimp only [l_wire_Fresh]
  refine srun_sound 300 _ _ _ _ ?_
  repeat' (first
    | (simp -implicitDefEqProofs only [*, frBs, zr1, zr2, zr3, zr4, zr5, zr6, zr7, effEqS, eqL, eqV, effIsNil, effMark, onesA, effBytesStr, effStrBytes, effCopy, effClear, effMapUpd, effLookup, lookV, AV.plainVal, copyN, copyS, copyR, idsS, idsC, effNil, effPick, effBox, effBuild, effBuildS, effLoad, effStore, fvX, effBin, effUn, effConvInt, effConvStr, effClo, effMake, boundsV, effSlice, effSlice0, effSliceS, effFieldAddr, effField, effIndex, effIndexS, effExtract, effLen, effMax, effMin, effAppend, binF, unF, FV.isOne, AV.isOne, AV.cellsN, splice, fillA, srcF, bornA, growA, resA, argsE, argsF, Nat.reduceAdd, Nat.reduceSub, Nat.reduceMul, Nat.reduceLT, Nat.reduceLeDiff, Nat.reduceEqDiff, Nat.reduceBEq, reduceIte, reduceCtorEq, Int.reduceLE, Int.reduceLT, Int.reduceToNat, Int.reduceEq, Int.reduceNe])
    | ((first | apply condS_splitN | apply condS_split | apply guardS_splitTN | apply guardS_splitFN | apply guardD_splitTN | apply guardD_splitFN | apply guardS_splitT | apply guardS_splitF | apply guardD_splitT | apply guardD_splitF) <;> intro hc)
    | (refine callP0 rfl ?_)
    | (refine callD0 rfl ?_)
    | (refine callP rfl (checkPieces_f x hx1 hx2) rfl (by first | exact LeL.refl _ | ((repeat (first | exact LeL.refl _ | exact LeA.refl _ | exact LeA.nil _ | refine LeL.cons ?_ ?_ | refine LeA.agg ?_)); first | done | fail)) rfl (by first | exact free_0 | exact free_mk rfl | (repeat (first | exact free_0 | exact free_mk rfl | exact free_mk (by simp) | refine free_upd rfl ?_))) ?_)
    | (refine callD rfl (checkPieces_f x hx1 hx2) rfl (by first | exact LeL.refl _ | ((repeat (first | exact LeL.refl _ | exact LeA.refl _ | exact LeA.nil _ | refine LeL.cons ?_ ?_ | refine LeA.agg ?_)); first | done | fail)) rfl rfl ?_)
    | (refine callDO rfl (checkPieces_f x hx1 hx2) rfl (by first | exact LeL.refl _ | ((repeat (first | exact LeL.refl _ | exact LeA.refl _ | exact LeA.nil _ | refine LeL.cons ?_ ?_ | refine LeA.agg ?_)); first | done | fail)) rfl (by first | exact free_0 | exact free_mk rfl | (repeat (first | exact free_0 | exact free_mk rfl | exact free_mk (by simp) | refine free_upd rfl ?_))) rfl ?_)
    | (refine callP rfl (checkPieces_f y hy1 hy2) rfl (by first | exact LeL.refl _ | ((repeat (first | exact LeL.refl _ | exact LeA.refl _ | exact LeA.nil _ | refine LeL.cons ?_ ?_ | refine LeA.agg ?_)); first | done | fail)) rfl (by first | exact free_0 | exact free_mk rfl | (repeat (first | exact free_0 | exact free_mk rfl | exact free_mk (by simp) | refine free_upd rfl ?_))) ?_)
    | (refine callD rfl (checkPieces_f y hy1 hy2) rfl (by first | exact LeL.refl _ | ((repeat (first | exact LeL.refl _ | exact LeA.refl _ | exact LeA.nil _ | refine LeL.cons ?_ ?_ | refine LeA.agg ?_)); first | done | fail)) rfl rfl ?_)
    | (refine callDO rfl (checkPieces_f y hy1 hy2) rfl (by first | exact LeL.refl _ | ((repeat (first | exact LeL.refl _ | exact LeA.refl _ | exact LeA.nil _ | refine LeL.cons ?_ ?_ | refine LeA.agg ?_)); first | done | fail)) rfl (by first | exact free_0 | exact free_mk rfl | (repeat (first | exact free_0 | exact free_mk rfl | exact free_mk (by simp) | refine free_upd rfl ?_))) rfl ?_))
  refine ax_loopU (S := Nat) 63 [1, 9, 27, 28] [] (fun s => [(29, .f (.int .i64 s))]) (fun s => [(26, 1, AObj.map (setL ((x.take s).map bs)))]) (fun s => s ≤ x.length) (fun s => x.length - s) (0) [] ?_ ?_ fun s hs => ?_
  · exact Nat.zero_le _
  · refine ⟨rfl, (by first | exact small_0 | exact small_mk rfl | (repeat (first | exact small_0 | exact small_mk rfl | refine small_upd rfl ?_ | refine small_sw rfl rfl ?_))), rfl, rfl, (by rfl), ?_, ?_⟩ <;> simp only [List.take_zero, zw1, zw2, swN, ElOk, HlOk, Nat.reduceEqDiff, Nat.reduceBEq, Nat.reduceLT, Nat.reduceLeDiff, reduceIte, reduceCtorEq, H0, AObj.cells.injEq]
    all_goals rfl
  refine srun_sound 300 _ _ _ _ ?_
  rcases Nat.lt_or_ge s x.length with hlt | hge
  · obtain ⟨z, hz⟩ := get_some hlt
    have h4 := inc64 hlt (by omega)
    have h2 := lt_t hlt
    have hs2 : setL ((x.take (s + 1)).map bs) = mSet ⟨z.toArray⟩ (.bool true) (setL ((x.take s).map bs)) := by rw [List.take_add_one, hz, List.map_append, setL_snoc]; rfl
    repeat' (first
      | (simp -implicitDefEqProofs only [*, List.getElem?_map, Option.map_some, encR, frB, zr1, zr2, zr3, zr4, zr5, zr6, zr7, effEqS, eqL, eqV, effIsNil, effMark, onesA, effBytesStr, effStrBytes, effCopy, effClear, effMapUpd, effLookup, lookV, AV.plainVal, copyN, copyS, copyR, idsS, idsC, effNil, effPick, effBox, effBuild, effBuildS, effLoad, effStore, fvX, effBin, effUn, effConvInt, effConvStr, effClo, effMake, boundsV, effSlice, effSlice0, effSliceS, effFieldAddr, effField, effIndex, effIndexS, effExtract, effLen, effMax, effMin, effAppend, binF, unF, FV.isOne, AV.isOne, AV.cellsN, splice, fillA, srcF, bornA, growA, resA, argsE, argsF, Nat.reduceAdd, Nat.reduceSub, Nat.reduceMul, Nat.reduceLT, Nat.reduceLeDiff, Nat.reduceEqDiff, Nat.reduceBEq, reduceIte, reduceCtorEq, Int.reduceLE, Int.reduceLT, Int.reduceToNat, Int.reduceEq, Int.reduceNe])
      | ((first | apply condS_splitN | apply condS_split | apply guardS_splitTN | apply guardS_splitFN | apply guardD_splitTN | apply guardD_splitFN | apply guardS_splitT | apply guardS_splitF | apply guardD_splitT | apply guardD_splitF) <;> intro hc)
      | (refine callP0 rfl ?_)
      | (refine callD0 rfl ?_))
    refine ⟨s + 1, hlt, by omega, ?_⟩
    rw [hs2]
    refine ⟨rfl, (by first | exact small_0 | exact small_mk rfl | (repeat (first | exact small_0 | exact small_mk rfl | refine small_upd rfl ?_ | refine small_sw rfl rfl ?_))), rfl, rfl, (by rfl), ?_, ?_⟩ <;> simp only [zw1, zw2, swN, ElOk, HlOk, Nat.reduceEqDiff, Nat.reduceBEq, Nat.reduceLT, Nat.reduceLeDiff, reduceIte, reduceCtorEq, H0, AObj.cells.injEq]
  obtain rfl : s = x.length := by omega
  have h2 := lt_f hge
  have h3 := List.take_length (l := x)
  repeat' (first
    | (simp -implicitDefEqProofs only [*, zr1, zr2, zr3, zr4, zr5, zr6, zr7, effEqS, eqL, eqV, effIsNil, effMark, onesA, effBytesStr, effStrBytes, effCopy, effClear, effMapUpd, effLookup, lookV, AV.plainVal, copyN, copyS, copyR, idsS, idsC, effNil, effPick, effBox, effBuild, effBuildS, effLoad, effStore, fvX, effBin, effUn, effConvInt, effConvStr, effClo, effMake, boundsV, effSlice, effSlice0, effSliceS, effFieldAddr, effField, effIndex, effIndexS, effExtract, effLen, effMax, effMin, effAppend, binF, unF, FV.isOne, AV.isOne, AV.cellsN, splice, fillA, srcF, bornA, growA, resA, argsE, argsF, Nat.reduceAdd, Nat.reduceSub, Nat.reduceMul, Nat.reduceLT, Nat.reduceLeDiff, Nat.reduceEqDiff, Nat.reduceBEq, reduceIte, reduceCtorEq, Int.reduceLE, Int.reduceLT, Int.reduceToNat, Int.reduceEq, Int.reduceNe])
    | ((first | apply condS_splitN | apply condS_split | apply guardS_splitTN | apply guardS_splitFN | apply guardD_splitTN | apply guardD_splitFN | apply guardS_splitT | apply guardS_splitF | apply guardD_splitT | apply guardD_splitF) <;> intro hc)
    | (refine callP0 rfl ?_)
    | (refine callD0 rfl ?_))
  clear hge h2 h3 hs
  refine ax_loopU (S := Nat) 63 [9, 37, 38] [] (fun s => [(12, .sl 55 1 1 0 (freshTo x y s).length), (13, .f (.int .i64 (lens (pick y (freshTo x y s)) : Nat))), (39, .f (.int .i64 s))]) (fun s => [(55, 1, ((freshTo x y s).map fN).map AV.f), (26, 1, AObj.map (setL ((x ++ pick y (freshTo x y s)).map bs)))]) (fun s => s ≤ y.length) (fun s => y.length - s) (0) [55] ?_ ?_ fun s hs => ?_
  · exact Nat.zero_le _
  · refine ⟨rfl, (by first | exact small_0 | exact small_mk rfl | (repeat (first | exact small_0 | exact small_mk rfl | refine small_upd rfl ?_ | refine small_sw rfl rfl ?_))), rfl, rfl, (by rfl), ?_, ?_⟩ <;> simp only [List.append_nil, freshTo, pick, show lens [] = 0 from rfl, zw1, zw2, swN, ElOk, HlOk, Nat.reduceEqDiff, Nat.reduceBEq, Nat.reduceLT, Nat.reduceLeDiff, reduceIte, reduceCtorEq, H0, AObj.cells.injEq]
  refine srun_sound 300 _ _ _ _ ?_
  rcases Nat.lt_or_ge s y.length with hlt | hge
  · obtain ⟨z, hz⟩ := get_some hlt
    have h4 := inc64 hlt (by omega)
    have h2 := lt_t hlt
    have hlen := freshTo_len x y s
    have hle := freshTo_lens x y s hs
    have hle2 := lens_take y (s + 1)
    have hsu := lens_snoc hz
    have hgz : y.getD s [] = z := by rw [List.getD_eq_getElem?_getD, hz]; rfl
    have hst : freshTo x y (s + 1) = if z ∈ x ++ pick y (freshTo x y s) then freshTo x y s else freshTo x y s ++ [s] := by rw [freshTo, freshOne, hgz]; rfl
    generalize freshTo x y s = t at *
    have hw : IntKind.i64.wrap ((lens (pick y t) : Nat) + (z.length : Int)) = ((lens (pick y t) + z.length : Nat) : Int) := by rw [wrap64] <;> omega
    have h8 : ((t.length + 1) * 8 ≤ 140737488355328) = True := by rw [eq_iff_iff, iff_true]; omega
    clear hle hle2 hsu hlen
    by_cases hin : z ∈ x ++ pick y t
    · rw [if_pos hin] at hst
      have hh := mGet_t (show hasS (bs z) ((x ++ pick y t).map bs) = true by rw [hasS_bs, decide_eq_true_eq]; exact hin)
      have hS := hide hst
      clear hst hgz hin
      repeat' (first
        | (simp -implicitDefEqProofs only [*, List.getElem?_map, Option.map_some, encR, frB, FV.ofValue, zr1, zr2, zr3, zr4, zr5, zr6, zr7, effEqS, eqL, eqV, effIsNil, effMark, onesA, effBytesStr, effStrBytes, effCopy, effClear, effMapUpd, effLookup, lookV, AV.plainVal, copyN, copyS, copyR, idsS, idsC, effNil, effPick, effBox, effBuild, effBuildS, effLoad, effStore, fvX, effBin, effUn, effConvInt, effConvStr, effClo, effMake, boundsV, effSlice, effSlice0, effSliceS, effFieldAddr, effField, effIndex, effIndexS, effExtract, effLen, effMax, effMin, effAppend, binF, unF, FV.isOne, AV.isOne, AV.cellsN, splice, fillA, srcF, bornA, growA, resA, argsE, argsF, Nat.reduceAdd, Nat.reduceSub, Nat.reduceMul, Nat.reduceLT, Nat.reduceLeDiff, Nat.reduceEqDiff, Nat.reduceBEq, reduceIte, reduceCtorEq, Int.reduceLE, Int.reduceLT, Int.reduceToNat, Int.reduceEq, Int.reduceNe])
        | ((first | apply condS_splitN | apply condS_split | apply guardS_splitTN | apply guardS_splitFN | apply guardD_splitTN | apply guardD_splitFN | apply guardS_splitT | apply guardS_splitF | apply guardD_splitT | apply guardD_splitF) <;> intro hc)
        | (refine callP0 rfl ?_)
        | (refine callD0 rfl ?_))
      refine ⟨s + 1, hlt, by omega, ?_⟩
      rw [hS.out]
      refine ⟨rfl, (by first | exact small_0 | exact small_mk rfl | (repeat (first | exact small_0 | exact small_mk rfl | refine small_upd rfl ?_ | refine small_sw rfl rfl ?_))), rfl, rfl, (by rfl), ?_, ?_⟩ <;> simp only [zw1, zw2, swN, ElOk, HlOk, Nat.reduceEqDiff, Nat.reduceBEq, Nat.reduceLT, Nat.reduceLeDiff, reduceIte, reduceCtorEq, H0, AObj.cells.injEq]
    · rw [if_neg hin] at hst
      have hh := mGet_f (show hasS (bs z) ((x ++ pick y t).map bs) = false by rw [hasS_bs, decide_eq_false_iff_not]; exact hin)
      have hs2 : setL ((x ++ pick y (t ++ [s])).map bs) = mSet ⟨z.toArray⟩ (.bool true) (setL ((x ++ pick y t).map bs)) := by
        rw [setL_snoc]
        simp only [pick, List.map_append, List.append_assoc, List.map_cons, List.map_nil, hgz]
      have hs3 : lens (pick y (t ++ [s])) = lens (pick y t) + z.length := by
        rw [pick, List.map_append, ← pick, lens, List.map_append, List.sum_append, ← lens]
        simp only [List.map_cons, List.map_nil, List.sum_cons, List.sum_nil, hgz, Nat.add_zero]
      have hS := hide hst
      clear hst hgz hin
      repeat' (first
        | (simp -implicitDefEqProofs only [*, List.getElem?_map, Option.map_some, encR, frB, FV.ofValue, zr1, zr2, zr3, zr4, zr5, zr6, zr7, effEqS, eqL, eqV, effIsNil, effMark, onesA, effBytesStr, effStrBytes, effCopy, effClear, effMapUpd, effLookup, lookV, AV.plainVal, copyN, copyS, copyR, idsS, idsC, effNil, effPick, effBox, effBuild, effBuildS, effLoad, effStore, fvX, effBin, effUn, effConvInt, effConvStr, effClo, effMake, boundsV, effSlice, effSlice0, effSliceS, effFieldAddr, effField, effIndex, effIndexS, effExtract, effLen, effMax, effMin, effAppend, binF, unF, FV.isOne, AV.isOne, AV.cellsN, splice, fillA, srcF, bornA, growA, resA, argsE, argsF, Nat.reduceAdd, Nat.reduceSub, Nat.reduceMul, Nat.reduceLT, Nat.reduceLeDiff, Nat.reduceEqDiff, Nat.reduceBEq, reduceIte, reduceCtorEq, Int.reduceLE, Int.reduceLT, Int.reduceToNat, Int.reduceEq, Int.reduceNe])
        | ((first | apply condS_splitN | apply condS_split | apply guardS_splitTN | apply guardS_splitFN | apply guardD_splitTN | apply guardD_splitFN | apply guardS_splitT | apply guardS_splitF | apply guardD_splitT | apply guardD_splitF) <;> intro hc)
        | (refine callP0 rfl ?_)
        | (refine callD0 rfl ?_))
      refine ⟨s + 1, hlt, by omega, ?_⟩
      rw [hS.out, hs2, hs3]
      refine ⟨rfl, (by first | exact small_0 | exact small_mk rfl | (repeat (first | exact small_0 | exact small_mk rfl | refine small_upd rfl ?_ | refine small_sw rfl rfl ?_))), rfl, rfl, (by rfl), ?_, ?_⟩ <;> simp only [List.length_append, zw1, zw2, swN, ElOk, HlOk, Nat.reduceEqDiff, Nat.reduceBEq, Nat.reduceLT, Nat.reduceLeDiff, reduceIte, reduceCtorEq, H0, AObj.cells.injEq]
      all_goals exact SlotsOk.of_eq (by simp [fN])
  · obtain rfl : s = y.length := by omega
    have h2 := lt_f hge
    repeat' (first
      | (simp -implicitDefEqProofs only [*, zr1, zr2, zr3, zr4, zr5, zr6, zr7, effEqS, eqL, eqV, effIsNil, effMark, onesA, effBytesStr, effStrBytes, effCopy, effClear, effMapUpd, effLookup, lookV, AV.plainVal, copyN, copyS, copyR, idsS, idsC, effNil, effPick, effBox, effBuild, effBuildS, effLoad, effStore, fvX, effBin, effUn, effConvInt, effConvStr, effClo, effMake, boundsV, effSlice, effSlice0, effSliceS, effFieldAddr, effField, effIndex, effIndexS, effExtract, effLen, effMax, effMin, effAppend, binF, unF, FV.isOne, AV.isOne, AV.cellsN, splice, fillA, srcF, bornA, growA, resA, argsE, argsF, Nat.reduceAdd, Nat.reduceSub, Nat.reduceMul, Nat.reduceLT, Nat.reduceLeDiff, Nat.reduceEqDiff, Nat.reduceBEq, reduceIte, reduceCtorEq, Int.reduceLE, Int.reduceLT, Int.reduceToNat, Int.reduceEq, Int.reduceNe])
      | ((first | apply condS_splitN | apply condS_split | apply guardS_splitTN | apply guardS_splitFN | apply guardD_splitTN | apply guardD_splitFN | apply guardS_splitT | apply guardS_splitF | apply guardD_splitT | apply guardD_splitF) <;> intro hc)
      | (refine callP0 rfl ?_)
      | (refine callD0 rfl ?_))
    exact ret_ovv rfl (by simp) rfl rfl
end Go.Proofs.Ytchhcmblajmehaa
