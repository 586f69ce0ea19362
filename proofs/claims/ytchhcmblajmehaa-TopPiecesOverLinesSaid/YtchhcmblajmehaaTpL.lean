/-
  The law TopPiecesOverLines on the machine. No statement of the seat is proved here; no conditions.
-/
import Derived.Test.YtchhcmblajmehaaTpC
import Derived.Test.YtchhcmblajmehaaDig
import Derived.Test.YtchhcmblajmehaaEngR
namespace Go.Proofs.Ytchhcmblajmehaa
open Go.RowKit
set_option linter.unusedVariables false
set_option linter.unusedSimpArgs false
set_option maxRecDepth 100000

theorem lives_f : FRet Try.prog 5 [] [.c (.v (.bool true))] := by
  have hd : decide (digV [97] = ⟨#[97, 102, 54, 51, 100, 99, 52, 99, 56, 54, 48, 49, 101, 99, 56, 99]⟩) = true := by decide +kernel
  have hD := Digest_f [97] (by decide)
  generalize digV [97] = d at *
  replace hD := hide hD
  refine FCall.of_ax low_top_lives ?_
  dsimp only [l_top_lives]
  refine srun_sound 300 _ _ _ _ ?_
  repeat' (first
    | (simp -implicitDefEqProofs only [*, frB, encU, zr1, zr2, zr3, zr4, zr5, zr6, zr7, effEqS, eqL, eqV, effIsNil, effMark, onesA, effBytesStr, effStrBytes, effCopy, effClear, effMapUpd, effLookup, lookV, AV.plainVal, copyN, copyS, copyR, idsS, idsC, effNil, effPick, effBox, effBuild, effBuildS, effLoad, effStore, fvX, effBin, effUn, effConvInt, effConvStr, effClo, effMake, boundsV, effSlice, effSlice0, effSliceS, effFieldAddr, effField, effIndex, effIndexS, effExtract, effLen, effMax, effMin, effAppend, binF, unF, FV.isOne, AV.isOne, AV.cellsN, splice, fillA, srcF, bornA, growA, resA, argsE, argsF, Nat.reduceAdd, Nat.reduceSub, Nat.reduceMul, Nat.reduceLT, Nat.reduceLeDiff, Nat.reduceEqDiff, Nat.reduceBEq, reduceIte, reduceCtorEq, Int.reduceLE, Int.reduceLT, Int.reduceToNat, Int.reduceEq, Int.reduceNe])
    | ((first | apply condS_splitN | apply condS_split | apply guardS_splitTN | apply guardS_splitFN | apply guardD_splitTN | apply guardD_splitFN | apply guardS_splitT | apply guardS_splitF | apply guardD_splitT | apply guardD_splitF) <;> intro hc)
    | (refine callP0 rfl ?_)
    | (refine callD0 rfl ?_)
    | (refine callP rfl (hD.out) rfl (by first | exact LeL.refl _ | ((repeat (first | exact LeL.refl _ | exact LeA.refl _ | exact LeA.nil _ | refine LeL.cons ?_ ?_ | refine LeA.agg ?_)); first | done | fail)) rfl (by first | exact free_0 | exact free_mk rfl | (repeat (first | exact free_0 | exact free_mk rfl | exact free_mk (by simp) | refine free_upd rfl ?_))) ?_)
    | (refine callD rfl (hD.out) rfl (by first | exact LeL.refl _ | ((repeat (first | exact LeL.refl _ | exact LeA.refl _ | exact LeA.nil _ | refine LeL.cons ?_ ?_ | refine LeA.agg ?_)); first | done | fail)) rfl rfl ?_))
  exact ret_v
theorem bytesEq_f (a b : List UInt8) : FRet Try.prog 8 [.f (frB a), .f (frB b)] [.c (.v (.bool (decide (a = b))))] := by
  have h : decide (a = b) = decide (bs a = bs b) := by
    rw [decide_eq_decide]; exact ⟨fun h => h ▸ rfl, bs_inj⟩
  rw [h]
  refine FCall.of_ax low_bytes_Equal ?_
  dsimp only [l_bytes_Equal, frB]
  refine srun_sound 300 _ _ _ _ ?_
  repeat' (first
    | (simp -implicitDefEqProofs only [*, zr1, zr2, zr3, zr4, zr5, zr6, zr7, effEqS, eqL, eqV, effIsNil, effMark, onesA, effBytesStr, effStrBytes, effCopy, effClear, effMapUpd, effLookup, lookV, AV.plainVal, copyN, copyS, copyR, idsS, idsC, effNil, effPick, effBox, effBuild, effBuildS, effLoad, effStore, fvX, effBin, effUn, effConvInt, effConvStr, effClo, effMake, boundsV, effSlice, effSlice0, effSliceS, effFieldAddr, effField, effIndex, effIndexS, effExtract, effLen, effMax, effMin, effAppend, binF, unF, FV.isOne, AV.isOne, AV.cellsN, splice, fillA, srcF, bornA, growA, resA, argsE, argsF, Nat.reduceAdd, Nat.reduceSub, Nat.reduceMul, Nat.reduceLT, Nat.reduceLeDiff, Nat.reduceEqDiff, Nat.reduceBEq, reduceIte, reduceCtorEq, Int.reduceLE, Int.reduceLT, Int.reduceToNat, Int.reduceEq, Int.reduceNe])
    | ((first | apply condS_splitN | apply condS_split | apply guardS_splitTN | apply guardS_splitFN | apply guardD_splitTN | apply guardD_splitFN | apply guardS_splitT | apply guardS_splitF | apply guardD_splitT | apply guardD_splitF) <;> intro hc)
    | (refine callP0 rfl ?_)
    | (refine callD0 rfl ?_))
  exact ret_v
/-! ### The plain law -/
theorem freshTo_lt (x y : List (List UInt8)) : ∀ i, ∀ j ∈ freshTo x y i, j < i
  | 0, j, h => by simp [freshTo] at h
  | i + 1, j, h => by
    have ih := freshTo_lt x y i
    rw [freshTo, freshOne] at h
    split at h
    · have := ih j h; omega
    · rcases List.mem_append.1 h with h | h
      · have := ih j h; omega
      · simp at h; omega
theorem pick_snoc {y : List (List UInt8)} {t : List Nat} {i : Nat} : pick y (t ++ [i]) = pick y t ++ [y.getD i []] := by simp [pick]
theorem fresh_all (x y : List (List UInt8)) : ∀ i, i ≤ y.length → ∀ z ∈ y.take i, z ∈ x ++ pick y (freshTo x y i)
  | 0, _, z, h => by simp at h
  | i + 1, hi, z, h => by
    obtain ⟨q, hq⟩ := get_some (show i < y.length from hi)
    have hg : y.getD i [] = q := by rw [List.getD_eq_getElem?_getD, hq]; rfl
    have ih := fresh_all x y i (by omega)
    rw [List.take_add_one, hq] at h
    rw [freshTo, freshOne, hg]
    rcases List.mem_append.1 h with h | h
    · have h2 := ih z h
      split
      · exact h2
      · rw [pick_snoc, ← List.append_assoc]; exact List.mem_append_left _ h2
    · have : z = q := by simpa using h
      subst this
      split
      · assumption
      · rw [pick_snoc, hg]; simp
theorem fresh_sum (x y : List (List UInt8)) : ∀ i, i ≤ y.length → lens (pick y (freshTo x y i)) + shSum x (y.take i) ≤ lens (y.take i)
  | 0, _ => Nat.le_refl _
  | i + 1, hi => by
    obtain ⟨q, hq⟩ := get_some (show i < y.length from hi)
    have hg : y.getD i [] = q := by rw [List.getD_eq_getElem?_getD, hq]; rfl
    have ih := fresh_sum x y i (by omega)
    rw [shSum_snoc hq, lens_snoc hq, freshTo, freshOne, hg]
    by_cases hx : q ∈ x
    · rw [if_pos hx, if_pos (List.mem_append_left _ hx)]; omega
    · rw [if_neg hx]
      split
      · omega
      · rw [pick_snoc, hg]
        simp only [lens, List.map_append, List.sum_append, List.map_cons, List.map_nil, List.sum_cons, List.sum_nil] at ih ⊢
        omega
theorem pick_take {y : List (List UInt8)} {F : List Nat} {s j : Nat} (h : F[s]? = some j) : pick y (F.take (s + 1)) = pick y (F.take s) ++ [y.getD j []] := by
  rw [List.take_add_one, h]; exact pick_snoc
theorem so_fN {H H' : Heap} {nw : List Nat} {id ver n : Nat} {l : List Nat} (hd : (H' id).2 = none) (hc : cellsOf ver (H id) = some ((l.map fN).map .f)) (hn : n = l.length) : SlotOk H H' nw (.sl id ver 1 0 n) (.f (.fr 1 (l.map fun n => [fN n]))) :=
  so_sl hd hc (by simp [hn]) (fun x hx => by obtain ⟨y, _, rfl⟩ := List.mem_map.1 hx; rfl) (flat_fN l)
set_option maxHeartbeats 4000000 in
theorem pieces_bad (old now : List UInt8) (least bits most : Int) (h : ¬ (pcErr old least bits most = 0 ∧ pcErr now least bits most = 0)) : FRet Try.prog 3 [.f (frB old), .f (frB now), .f (.int .i64 least), .f (.int .i64 bits), .f (.int .i64 most)] [.c (.v (.bool true))] := by
  have pa := Pieces_f old least bits most
  have pb := Pieces_f now least bits most
  have za : pcErr old least bits most ≠ 0 → pcV old least bits most = [] := fun h => if_neg h
  have zb : pcErr now least bits most ≠ 0 → pcV now least bits most = [] := fun h => if_neg h
  generalize pcErr old least bits most = ea at *
  generalize pcErr now least bits most = eb at *
  generalize pcV old least bits most = la at *
  generalize pcV now least bits most = lb at *
  have hz : decide (((0 : Nat) : Int) = 0) = true := rfl
  replace pa := hide pa
  replace pb := hide pb
  by_cases ha : ea = 0
  · have hb : ¬ eb = 0 := fun hb => h ⟨ha, hb⟩
    obtain rfl := zb hb
    subst ha
    have d2 : decide (eb = 0) = false := by simpa using hb
    clear h za zb hb
    refine FCall.of_ax low_top_TopPiecesOverLines ?_
    dsimp only [l_top_TopPiecesOverLines]
    refine srun_sound 300 _ _ _ _ ?_
    repeat' (first
      | (simp -implicitDefEqProofs only [*, zr1, zr2, zr3, zr4, zr5, zr6, zr7, effEqS, eqL, eqV, effIsNil, effMark, onesA, effBytesStr, effStrBytes, effCopy, effClear, effMapUpd, effLookup, lookV, AV.plainVal, copyN, copyS, copyR, idsS, idsC, effNil, effPick, effBox, effBuild, effBuildS, effLoad, effStore, fvX, effBin, effUn, effConvInt, effConvStr, effClo, effMake, boundsV, effSlice, effSlice0, effSliceS, effFieldAddr, effField, effIndex, effIndexS, effExtract, effLen, effMax, effMin, effAppend, binF, unF, FV.isOne, AV.isOne, AV.cellsN, splice, fillA, srcF, bornA, growA, resA, argsE, argsF, Nat.reduceAdd, Nat.reduceSub, Nat.reduceMul, Nat.reduceLT, Nat.reduceLeDiff, Nat.reduceEqDiff, Nat.reduceBEq, reduceIte, reduceCtorEq, Int.reduceLE, Int.reduceLT, Int.reduceToNat, Int.reduceEq, Int.reduceNe])
      | ((first | apply condS_splitN | apply condS_split | apply guardS_splitTN | apply guardS_splitFN | apply guardD_splitTN | apply guardD_splitFN | apply guardS_splitT | apply guardS_splitF | apply guardD_splitT | apply guardD_splitF) <;> intro hc)
      | (refine callP0 rfl ?_)
      | (refine callD0 rfl ?_)
      | (refine callP rfl (pa.out) rfl (by first | exact LeL.refl _ | ((repeat (first | exact LeL.refl _ | exact LeA.refl _ | exact LeA.nil _ | refine LeL.cons ?_ ?_ | refine LeA.agg ?_)); first | done | fail)) rfl (by first | exact free_0 | exact free_mk rfl | (repeat (first | exact free_0 | exact free_mk rfl | exact free_mk (by simp) | refine free_upd rfl ?_))) ?_)
      | (refine callD rfl (pa.out) rfl (by first | exact LeL.refl _ | ((repeat (first | exact LeL.refl _ | exact LeA.refl _ | exact LeA.nil _ | refine LeL.cons ?_ ?_ | refine LeA.agg ?_)); first | done | fail)) rfl rfl ?_)
      | (refine callP rfl (pb.out) rfl (by first | exact LeL.refl _ | ((repeat (first | exact LeL.refl _ | exact LeA.refl _ | exact LeA.nil _ | refine LeL.cons ?_ ?_ | refine LeA.agg ?_)); first | done | fail)) rfl (by first | exact free_0 | exact free_mk rfl | (repeat (first | exact free_0 | exact free_mk rfl | exact free_mk (by simp) | refine free_upd rfl ?_))) ?_)
      | (refine callD rfl (pb.out) rfl (by first | exact LeL.refl _ | ((repeat (first | exact LeL.refl _ | exact LeA.refl _ | exact LeA.nil _ | refine LeL.cons ?_ ?_ | refine LeA.agg ?_)); first | done | fail)) rfl rfl ?_)
      | (refine callP rfl (lives_f) rfl (by first | exact LeL.refl _ | ((repeat (first | exact LeL.refl _ | exact LeA.refl _ | exact LeA.nil _ | refine LeL.cons ?_ ?_ | refine LeA.agg ?_)); first | done | fail)) rfl (by first | exact free_0 | exact free_mk rfl | (repeat (first | exact free_0 | exact free_mk rfl | exact free_mk (by simp) | refine free_upd rfl ?_))) ?_)
      | (refine callD rfl (lives_f) rfl (by first | exact LeL.refl _ | ((repeat (first | exact LeL.refl _ | exact LeA.refl _ | exact LeA.nil _ | refine LeL.cons ?_ ?_ | refine LeA.agg ?_)); first | done | fail)) rfl rfl ?_))
    exact ret_v
  · obtain rfl := za ha
    have d1 : decide (ea = 0) = false := by simpa using ha
    by_cases hb : eb = 0
    · subst hb
      clear h za zb ha
      refine FCall.of_ax low_top_TopPiecesOverLines ?_
      dsimp only [l_top_TopPiecesOverLines]
      refine srun_sound 300 _ _ _ _ ?_
      repeat' (first
        | (simp -implicitDefEqProofs only [*, zr1, zr2, zr3, zr4, zr5, zr6, zr7, effEqS, eqL, eqV, effIsNil, effMark, onesA, effBytesStr, effStrBytes, effCopy, effClear, effMapUpd, effLookup, lookV, AV.plainVal, copyN, copyS, copyR, idsS, idsC, effNil, effPick, effBox, effBuild, effBuildS, effLoad, effStore, fvX, effBin, effUn, effConvInt, effConvStr, effClo, effMake, boundsV, effSlice, effSlice0, effSliceS, effFieldAddr, effField, effIndex, effIndexS, effExtract, effLen, effMax, effMin, effAppend, binF, unF, FV.isOne, AV.isOne, AV.cellsN, splice, fillA, srcF, bornA, growA, resA, argsE, argsF, Nat.reduceAdd, Nat.reduceSub, Nat.reduceMul, Nat.reduceLT, Nat.reduceLeDiff, Nat.reduceEqDiff, Nat.reduceBEq, reduceIte, reduceCtorEq, Int.reduceLE, Int.reduceLT, Int.reduceToNat, Int.reduceEq, Int.reduceNe])
        | ((first | apply condS_splitN | apply condS_split | apply guardS_splitTN | apply guardS_splitFN | apply guardD_splitTN | apply guardD_splitFN | apply guardS_splitT | apply guardS_splitF | apply guardD_splitT | apply guardD_splitF) <;> intro hc)
        | (refine callP0 rfl ?_)
        | (refine callD0 rfl ?_)
        | (refine callP rfl (pa.out) rfl (by first | exact LeL.refl _ | ((repeat (first | exact LeL.refl _ | exact LeA.refl _ | exact LeA.nil _ | refine LeL.cons ?_ ?_ | refine LeA.agg ?_)); first | done | fail)) rfl (by first | exact free_0 | exact free_mk rfl | (repeat (first | exact free_0 | exact free_mk rfl | exact free_mk (by simp) | refine free_upd rfl ?_))) ?_)
        | (refine callD rfl (pa.out) rfl (by first | exact LeL.refl _ | ((repeat (first | exact LeL.refl _ | exact LeA.refl _ | exact LeA.nil _ | refine LeL.cons ?_ ?_ | refine LeA.agg ?_)); first | done | fail)) rfl rfl ?_)
        | (refine callP rfl (pb.out) rfl (by first | exact LeL.refl _ | ((repeat (first | exact LeL.refl _ | exact LeA.refl _ | exact LeA.nil _ | refine LeL.cons ?_ ?_ | refine LeA.agg ?_)); first | done | fail)) rfl (by first | exact free_0 | exact free_mk rfl | (repeat (first | exact free_0 | exact free_mk rfl | exact free_mk (by simp) | refine free_upd rfl ?_))) ?_)
        | (refine callD rfl (pb.out) rfl (by first | exact LeL.refl _ | ((repeat (first | exact LeL.refl _ | exact LeA.refl _ | exact LeA.nil _ | refine LeL.cons ?_ ?_ | refine LeA.agg ?_)); first | done | fail)) rfl rfl ?_)
        | (refine callP rfl (lives_f) rfl (by first | exact LeL.refl _ | ((repeat (first | exact LeL.refl _ | exact LeA.refl _ | exact LeA.nil _ | refine LeL.cons ?_ ?_ | refine LeA.agg ?_)); first | done | fail)) rfl (by first | exact free_0 | exact free_mk rfl | (repeat (first | exact free_0 | exact free_mk rfl | exact free_mk (by simp) | refine free_upd rfl ?_))) ?_)
        | (refine callD rfl (lives_f) rfl (by first | exact LeL.refl _ | ((repeat (first | exact LeL.refl _ | exact LeA.refl _ | exact LeA.nil _ | refine LeL.cons ?_ ?_ | refine LeA.agg ?_)); first | done | fail)) rfl rfl ?_))
      exact ret_v
    · obtain rfl := zb hb
      have d2 : decide (eb = 0) = false := by simpa using hb
      clear h za zb ha hb
      refine FCall.of_ax low_top_TopPiecesOverLines ?_
      dsimp only [l_top_TopPiecesOverLines]
      refine srun_sound 300 _ _ _ _ ?_
      repeat' (first
        | (simp -implicitDefEqProofs only [*, zr1, zr2, zr3, zr4, zr5, zr6, zr7, effEqS, eqL, eqV, effIsNil, effMark, onesA, effBytesStr, effStrBytes, effCopy, effClear, effMapUpd, effLookup, lookV, AV.plainVal, copyN, copyS, copyR, idsS, idsC, effNil, effPick, effBox, effBuild, effBuildS, effLoad, effStore, fvX, effBin, effUn, effConvInt, effConvStr, effClo, effMake, boundsV, effSlice, effSlice0, effSliceS, effFieldAddr, effField, effIndex, effIndexS, effExtract, effLen, effMax, effMin, effAppend, binF, unF, FV.isOne, AV.isOne, AV.cellsN, splice, fillA, srcF, bornA, growA, resA, argsE, argsF, Nat.reduceAdd, Nat.reduceSub, Nat.reduceMul, Nat.reduceLT, Nat.reduceLeDiff, Nat.reduceEqDiff, Nat.reduceBEq, reduceIte, reduceCtorEq, Int.reduceLE, Int.reduceLT, Int.reduceToNat, Int.reduceEq, Int.reduceNe])
        | ((first | apply condS_splitN | apply condS_split | apply guardS_splitTN | apply guardS_splitFN | apply guardD_splitTN | apply guardD_splitFN | apply guardS_splitT | apply guardS_splitF | apply guardD_splitT | apply guardD_splitF) <;> intro hc)
        | (refine callP0 rfl ?_)
        | (refine callD0 rfl ?_)
        | (refine callP rfl (pa.out) rfl (by first | exact LeL.refl _ | ((repeat (first | exact LeL.refl _ | exact LeA.refl _ | exact LeA.nil _ | refine LeL.cons ?_ ?_ | refine LeA.agg ?_)); first | done | fail)) rfl (by first | exact free_0 | exact free_mk rfl | (repeat (first | exact free_0 | exact free_mk rfl | exact free_mk (by simp) | refine free_upd rfl ?_))) ?_)
        | (refine callD rfl (pa.out) rfl (by first | exact LeL.refl _ | ((repeat (first | exact LeL.refl _ | exact LeA.refl _ | exact LeA.nil _ | refine LeL.cons ?_ ?_ | refine LeA.agg ?_)); first | done | fail)) rfl rfl ?_)
        | (refine callP rfl (pb.out) rfl (by first | exact LeL.refl _ | ((repeat (first | exact LeL.refl _ | exact LeA.refl _ | exact LeA.nil _ | refine LeL.cons ?_ ?_ | refine LeA.agg ?_)); first | done | fail)) rfl (by first | exact free_0 | exact free_mk rfl | (repeat (first | exact free_0 | exact free_mk rfl | exact free_mk (by simp) | refine free_upd rfl ?_))) ?_)
        | (refine callD rfl (pb.out) rfl (by first | exact LeL.refl _ | ((repeat (first | exact LeL.refl _ | exact LeA.refl _ | exact LeA.nil _ | refine LeL.cons ?_ ?_ | refine LeA.agg ?_)); first | done | fail)) rfl rfl ?_)
        | (refine callP rfl (lives_f) rfl (by first | exact LeL.refl _ | ((repeat (first | exact LeL.refl _ | exact LeA.refl _ | exact LeA.nil _ | refine LeL.cons ?_ ?_ | refine LeA.agg ?_)); first | done | fail)) rfl (by first | exact free_0 | exact free_mk rfl | (repeat (first | exact free_0 | exact free_mk rfl | exact free_mk (by simp) | refine free_upd rfl ?_))) ?_)
        | (refine callD rfl (lives_f) rfl (by first | exact LeL.refl _ | ((repeat (first | exact LeL.refl _ | exact LeA.refl _ | exact LeA.nil _ | refine LeL.cons ?_ ?_ | refine LeA.agg ?_)); first | done | fail)) rfl rfl ?_))
      exact ret_v
set_option maxHeartbeats 4000000 in
theorem pieces_good (old now : List UInt8) (least bits most : Int) (ha : pcErr old least bits most = 0) (hb : pcErr now least bits most = 0) : FRet Try.prog 3 [.f (frB old), .f (frB now), .f (.int .i64 least), .f (.int .i64 bits), .f (.int .i64 most)] [.c (.v (.bool true))] := by
  have pa := Pieces_f old least bits most
  have pb := Pieces_f now least bits most
  have ea : pcV old least bits most = cutV old least bits most := if_pos ha
  have eb : pcV now least bits most = cutV now least bits most := if_pos hb
  rw [ha, ea] at pa
  rw [hb, eb] at pb
  have pS := Shared_f old now least bits most ha hb
  obtain ⟨ha1, ha2⟩ := pcErr_zero ha
  obtain ⟨hb1, hb2⟩ := pcErr_zero hb
  have sa := cutV_sum old least bits most
  have sb := cutV_sum now least bits most
  generalize cutV old least bits most = la at *
  generalize cutV now least bits most = lb at *
  have hA := hide pa
  have hB := hide pb
  have hS := hide pS
  have kA := topcut_f old la (by omega) ha1 ha2
  have kB := topcut_f now lb (by omega) hb1 hb2
  have lx : lens (cutP old la) = old.length := by rw [lens_flat, cutP_flat la old sa]
  have ly : lens (cutP now lb) = now.length := by rw [lens_flat, cutP_flat lb now sb]
  have nx := cutP_len la old
  have ny := cutP_len lb now
  generalize cutP old la = x at *
  generalize cutP now lb = y at *
  have kF := Fresh_f x y (by omega) (by omega) (by omega) (by omega)
  have hfl := freshTo_len x y y.length
  have hlt := freshTo_lt x y y.length
  have hall := fresh_all x y y.length (Nat.le_refl _)
  have hsum := fresh_sum x y y.length (Nat.le_refl _)
  rw [List.take_length] at hall hsum
  generalize freshTo x y y.length = F at *
  replace kA := hide kA
  replace kB := hide kB
  replace kF := hide kF
  replace hall := hide hall
  have hLT := hide hlt
  have hF20 : F.length ≤ 20000 := by omega
  have hx20 : x.length ≤ 20000 := by omega
  have hy20 : y.length ≤ 20000 := by omega
  have hsu2 : lens (pick y F) + shSum x y ≤ now.length := by omega
  clear pa pb pS ha hb ea eb sa sb hlt hsum hfl lx nx ny
  refine FCall.of_ax low_top_TopPiecesOverLines ?_
  dsimp only [l_top_TopPiecesOverLines]
  refine srun_sound 300 _ _ _ _ ?_
  repeat' (first
    | (simp -implicitDefEqProofs only [*, zr1, zr2, zr3, zr4, zr5, zr6, zr7, effEqS, eqL, eqV, effIsNil, effMark, onesA, effBytesStr, effStrBytes, effCopy, effClear, effMapUpd, effLookup, lookV, AV.plainVal, copyN, copyS, copyR, idsS, idsC, effNil, effPick, effBox, effBuild, effBuildS, effLoad, effStore, fvX, effBin, effUn, effConvInt, effConvStr, effClo, effMake, boundsV, effSlice, effSlice0, effSliceS, effFieldAddr, effField, effIndex, effIndexS, effExtract, effLen, effMax, effMin, effAppend, binF, unF, FV.isOne, AV.isOne, AV.cellsN, splice, fillA, srcF, bornA, growA, resA, argsE, argsF, Nat.reduceAdd, Nat.reduceSub, Nat.reduceMul, Nat.reduceLT, Nat.reduceLeDiff, Nat.reduceEqDiff, Nat.reduceBEq, reduceIte, reduceCtorEq, Int.reduceLE, Int.reduceLT, Int.reduceToNat, Int.reduceEq, Int.reduceNe])
    | ((first | apply condS_splitN | apply condS_split | apply guardS_splitTN | apply guardS_splitFN | apply guardD_splitTN | apply guardD_splitFN | apply guardS_splitT | apply guardS_splitF | apply guardD_splitT | apply guardD_splitF) <;> intro hc)
    | (refine callP0 rfl ?_)
    | (refine callD0 rfl ?_)
    | (refine callP rfl (hA.out) rfl (by first | exact LeL.refl _ | ((repeat (first | exact LeL.refl _ | exact LeA.refl _ | exact LeA.nil _ | refine LeL.cons ?_ ?_ | refine LeA.agg ?_)); first | done | fail)) rfl (by first | exact free_0 | exact free_mk rfl | (repeat (first | exact free_0 | exact free_mk rfl | exact free_mk (by simp) | refine free_upd rfl ?_))) ?_)
    | (refine callD rfl (hA.out) rfl (by first | exact LeL.refl _ | ((repeat (first | exact LeL.refl _ | exact LeA.refl _ | exact LeA.nil _ | refine LeL.cons ?_ ?_ | refine LeA.agg ?_)); first | done | fail)) rfl rfl ?_)
    | (refine callP rfl (hB.out) rfl (by first | exact LeL.refl _ | ((repeat (first | exact LeL.refl _ | exact LeA.refl _ | exact LeA.nil _ | refine LeL.cons ?_ ?_ | refine LeA.agg ?_)); first | done | fail)) rfl (by first | exact free_0 | exact free_mk rfl | (repeat (first | exact free_0 | exact free_mk rfl | exact free_mk (by simp) | refine free_upd rfl ?_))) ?_)
    | (refine callD rfl (hB.out) rfl (by first | exact LeL.refl _ | ((repeat (first | exact LeL.refl _ | exact LeA.refl _ | exact LeA.nil _ | refine LeL.cons ?_ ?_ | refine LeA.agg ?_)); first | done | fail)) rfl rfl ?_))
  refine ax_weakA [] (nw := []) (n := 165) (el := [(0, .f (frB old)), (1, .f (frB now)), (2, .f (.int .i64 least)), (3, .f (.int .i64 bits)), (4, .f (.int .i64 most)), (13, .f (frN lb)), (67, .f (frB old)), (68, .f (frN la))]) (hl := []) rfl ?_ ?_
  · refine ⟨rfl, (by first | exact small_0 | exact small_mk rfl | (repeat (first | exact small_0 | exact small_mk rfl | refine small_upd rfl ?_ | refine small_sw rfl rfl ?_))), rfl, rfl, (by rfl), ?_, ?_⟩ <;> simp only [so_mf, mapOfH_some, so_ptf, so_cc, so_ff', cellsOf_some, List.drop_zero, List.take_succ_cons, List.take_zero, Nat.zero_add, frN, zw1, zw2, swN, ElOk, HlOk, Nat.reduceEqDiff, Nat.reduceBEq, Nat.reduceLT, Nat.reduceLeDiff, reduceIte, reduceCtorEq, H0, AObj.cells.injEq]
    exact ⟨so_fN rfl rfl rfl, so_fN rfl rfl rfl⟩
  repeat' (first
    | (simp -implicitDefEqProofs only [*, zr1, zr2, zr3, zr4, zr5, zr6, zr7, effEqS, eqL, eqV, effIsNil, effMark, onesA, effBytesStr, effStrBytes, effCopy, effClear, effMapUpd, effLookup, lookV, AV.plainVal, copyN, copyS, copyR, idsS, idsC, effNil, effPick, effBox, effBuild, effBuildS, effLoad, effStore, fvX, effBin, effUn, effConvInt, effConvStr, effClo, effMake, boundsV, effSlice, effSlice0, effSliceS, effFieldAddr, effField, effIndex, effIndexS, effExtract, effLen, effMax, effMin, effAppend, binF, unF, FV.isOne, AV.isOne, AV.cellsN, splice, fillA, srcF, bornA, growA, resA, argsE, argsF, Nat.reduceAdd, Nat.reduceSub, Nat.reduceMul, Nat.reduceLT, Nat.reduceLeDiff, Nat.reduceEqDiff, Nat.reduceBEq, reduceIte, reduceCtorEq, Int.reduceLE, Int.reduceLT, Int.reduceToNat, Int.reduceEq, Int.reduceNe])
    | ((first | apply condS_splitN | apply condS_split | apply guardS_splitTN | apply guardS_splitFN | apply guardD_splitTN | apply guardD_splitFN | apply guardS_splitT | apply guardS_splitF | apply guardD_splitT | apply guardD_splitF) <;> intro hc)
    | (refine callP0 rfl ?_)
    | (refine callD0 rfl ?_)
    | (refine callP rfl (kA.out) rfl (by first | exact LeL.refl _ | ((repeat (first | exact LeL.refl _ | exact LeA.refl _ | exact LeA.nil _ | refine LeL.cons ?_ ?_ | refine LeA.agg ?_)); first | done | fail)) rfl (by first | exact free_0 | exact free_mk rfl | (repeat (first | exact free_0 | exact free_mk rfl | exact free_mk (by simp) | refine free_upd rfl ?_))) ?_)
    | (refine callD rfl (kA.out) rfl (by first | exact LeL.refl _ | ((repeat (first | exact LeL.refl _ | exact LeA.refl _ | exact LeA.nil _ | refine LeL.cons ?_ ?_ | refine LeA.agg ?_)); first | done | fail)) rfl rfl ?_)
    | (refine callP rfl (kB.out) rfl (by first | exact LeL.refl _ | ((repeat (first | exact LeL.refl _ | exact LeA.refl _ | exact LeA.nil _ | refine LeL.cons ?_ ?_ | refine LeA.agg ?_)); first | done | fail)) rfl (by first | exact free_0 | exact free_mk rfl | (repeat (first | exact free_0 | exact free_mk rfl | exact free_mk (by simp) | refine free_upd rfl ?_))) ?_)
    | (refine callD rfl (kB.out) rfl (by first | exact LeL.refl _ | ((repeat (first | exact LeL.refl _ | exact LeA.refl _ | exact LeA.nil _ | refine LeL.cons ?_ ?_ | refine LeA.agg ?_)); first | done | fail)) rfl rfl ?_))
  refine callF rfl kF.out rfl ?_ (by simp [RS.all, RC.all, FV.plain, fN]) (by first | exact free_mk rfl | exact free_mk (by simp) | (repeat (first | exact free_mk rfl | exact free_mk (by simp) | refine free_upd rfl ?_))) ?_
  · show SlotsOk _ _ _ [.sl 69 1 1 0 x.length, .sl 72 1 1 0 y.length] [.f (frBs x), .f (frBs y)]
    rw [so_cons, so_cons, so_nil]
    exact ⟨so_row0 (enc := encR) (fun _ => rfl) rfl rfl rfl, so_row0 (enc := encR) (fun _ => rfl) rfl rfl rfl, trivial⟩
  have rx : (rowF encR x).length = x.length := by rw [row_len (sz := 1) (fun _ => rfl), Nat.mul_one]
  have ry : (rowF encR y).length = y.length := by rw [row_len (sz := 1) (fun _ => rfl), Nat.mul_one]
  have tx : ((rowF encR x).map AV.f).take x.length = (rowF encR x).map AV.f := List.take_of_length_le (by rw [List.length_map, rx]; exact Nat.le_refl _)
  have h24 : (x.length * 24 ≤ 140737488355328) = True := by rw [eq_iff_iff, iff_true]; omega
  have hxx : (x.length ≤ x.length) = True := by simp
  repeat' (first
    | (simp -implicitDefEqProofs only [*, zr1, zr2, zr3, zr4, zr5, zr6, zr7, effEqS, eqL, eqV, effIsNil, effMark, onesA, effBytesStr, effStrBytes, effCopy, effClear, effMapUpd, effLookup, lookV, AV.plainVal, copyN, copyS, copyR, idsS, idsC, effNil, effPick, effBox, effBuild, effBuildS, effLoad, effStore, fvX, effBin, effUn, effConvInt, effConvStr, effClo, effMake, boundsV, effSlice, effSlice0, effSliceS, effFieldAddr, effField, effIndex, effIndexS, effExtract, effLen, effMax, effMin, effAppend, binF, unF, FV.isOne, AV.isOne, AV.cellsN, splice, fillA, srcF, bornA, growA, resA, argsE, argsF, Nat.reduceAdd, Nat.reduceSub, Nat.reduceMul, Nat.reduceLT, Nat.reduceLeDiff, Nat.reduceEqDiff, Nat.reduceBEq, reduceIte, reduceCtorEq, Int.reduceLE, Int.reduceLT, Int.reduceToNat, Int.reduceEq, Int.reduceNe])
    | ((first | apply condS_splitN | apply condS_split | apply guardS_splitTN | apply guardS_splitFN | apply guardD_splitTN | apply guardD_splitFN | apply guardS_splitT | apply guardS_splitF | apply guardD_splitT | apply guardD_splitF) <;> intro hc)
    | (refine callP0 rfl ?_)
    | (refine callD0 rfl ?_))
  refine ax_loopU (S := Nat) 165 [0, 1, 2, 3, 4, 16, 17, 18] [72, 76] (fun s => [(19, .f (.int .i64 (lens (pick y (F.take s)) : Nat))), (20, .sl 84 1 1 0 (x.length + s)), (21, .f (.int .i64 s))]) (fun s => [(84, 1, (rowF encR (x ++ pick y (F.take s))).map AV.f)]) (fun s => s ≤ F.length) (fun s => F.length - s) (0) [] ?_ ?_ fun s hs => ?_
  · exact Nat.zero_le _
  · refine ⟨rfl, (by first | exact small_0 | exact small_mk rfl | (repeat (first | exact small_0 | exact small_mk rfl | refine small_upd rfl ?_ | refine small_sw rfl rfl ?_))), rfl, rfl, (by rfl), ?_, ?_⟩ <;> simp only [List.take_zero, pick, show lens [] = 0 from rfl, Nat.add_zero, List.append_nil, zw1, zw2, swN, ElOk, HlOk, Nat.reduceEqDiff, Nat.reduceBEq, Nat.reduceLT, Nat.reduceLeDiff, reduceIte, reduceCtorEq, H0, AObj.cells.injEq]
  refine srun_sound 300 _ _ _ _ ?_
  rcases Nat.lt_or_ge s F.length with hlt | hge
  · obtain ⟨j, hj⟩ := get_some hlt
    have hjl := hLT.out j (List.mem_of_getElem? hj)
    obtain ⟨z, hz⟩ := get_some hjl
    have hgz : y.getD j [] = z := by rw [List.getD_eq_getElem?_getD, hz]; rfl
    have hpt := pick_take (y := y) hj
    rw [hgz] at hpt
    have h4 := inc64 hlt (by omega)
    have h2 := lt_t hlt
    have hls : lens (pick y (F.take (s + 1))) = lens (pick y (F.take s)) + z.length := by
      rw [hpt]; simp [lens]
    have hle : lens (pick y (F.take (s + 1))) ≤ lens (pick y F) := by
      have e : pick y (F.take (s + 1)) = (pick y F).take (s + 1) := by simp [pick, List.map_take]
      rw [e]; exact lens_take _ _
    have hw : IntKind.i64.wrap ((lens (pick y (F.take s)) : Nat) + (z.length : Int)) = ((lens (pick y (F.take s)) + z.length : Nat) : Int) := by rw [wrap64] <;> omega
    have hrs : rowF encR (x ++ pick y (F.take (s + 1))) = rowF encR (x ++ pick y (F.take s)) ++ encR z := by rw [hpt, ← List.append_assoc, row_snoc]
    have hrl : (rowF encR (x ++ pick y (F.take s))).length = x.length + s := by
      rw [row_len (sz := 1) (fun _ => rfl), Nat.mul_one, List.length_append, pick, List.length_map, List.length_take]; omega
    have hc1 : ((F.map fN).map AV.f)[s]? = some (.f (fN j)) := by rw [List.getElem?_map, List.getElem?_map, hj]; rfl
    have hc2 : ((rowF encR y).map AV.f)[j]? = some (.f (frB z)) := by
      have := row_cell (enc := encR) (sz := 1) (j := 0) (fun _ => rfl) hz rfl
      simpa using this
    have h8 : ((x.length + s + 1) * 24 ≤ 140737488355328) = True := by rw [eq_iff_iff, iff_true]; omega
    have kj : (j < y.length) = True := by simp [hjl]
    clear hpt hle hgz hz hj hjl
    generalize rowF encR (x ++ pick y (F.take s)) = R at hrs hrl ⊢
    generalize lens (pick y (F.take s)) = S at hls hw ⊢
    generalize hcy : (rowF encR y).map AV.f = cy at hc2 ⊢
    generalize hcf : (F.map fN).map AV.f = cf at hc1 ⊢
    replace hls := hide hls
    replace hrs := hide hrs
    repeat' (first
      | (simp -implicitDefEqProofs only [*, fN, frB, hcy, hcf, zr1, zr2, zr3, zr4, zr5, zr6, zr7, effEqS, eqL, eqV, effIsNil, effMark, onesA, effBytesStr, effStrBytes, effCopy, effClear, effMapUpd, effLookup, lookV, AV.plainVal, copyN, copyS, copyR, idsS, idsC, effNil, effPick, effBox, effBuild, effBuildS, effLoad, effStore, fvX, effBin, effUn, effConvInt, effConvStr, effClo, effMake, boundsV, effSlice, effSlice0, effSliceS, effFieldAddr, effField, effIndex, effIndexS, effExtract, effLen, effMax, effMin, effAppend, binF, unF, FV.isOne, AV.isOne, AV.cellsN, splice, fillA, srcF, bornA, growA, resA, argsE, argsF, Nat.reduceAdd, Nat.reduceSub, Nat.reduceMul, Nat.reduceLT, Nat.reduceLeDiff, Nat.reduceEqDiff, Nat.reduceBEq, reduceIte, reduceCtorEq, Int.reduceLE, Int.reduceLT, Int.reduceToNat, Int.reduceEq, Int.reduceNe])
      | ((first | apply condS_splitN | apply condS_split | apply guardS_splitTN | apply guardS_splitFN | apply guardD_splitTN | apply guardD_splitFN | apply guardS_splitT | apply guardS_splitF | apply guardD_splitT | apply guardD_splitF) <;> intro hc)
      | (refine callP0 rfl ?_)
      | (refine callD0 rfl ?_))
    subst hcy hcf
    refine ⟨s + 1, hlt, by omega, ?_⟩
    rw [hls.out, hrs.out]
    refine ⟨rfl, (by first | exact small_0 | exact small_mk rfl | (repeat (first | exact small_0 | exact small_mk rfl | refine small_upd rfl ?_ | refine small_sw rfl rfl ?_))), rfl, rfl, (by rfl), ?_, ?_⟩ <;> simp only [List.length_append, zw1, zw2, swN, ElOk, HlOk, Nat.reduceEqDiff, Nat.reduceBEq, Nat.reduceLT, Nat.reduceLeDiff, reduceIte, reduceCtorEq, H0, AObj.cells.injEq]
    all_goals first | exact SlotsOk.of_eq (by simp [encR, frB]) | rfl | omega
  obtain rfl : s = F.length := by omega
  have h2 := lt_f hge
  rw [List.take_length]
  repeat' (first
    | (simp -implicitDefEqProofs only [*, frB, zr1, zr2, zr3, zr4, zr5, zr6, zr7, effEqS, eqL, eqV, effIsNil, effMark, onesA, effBytesStr, effStrBytes, effCopy, effClear, effMapUpd, effLookup, lookV, AV.plainVal, copyN, copyS, copyR, idsS, idsC, effNil, effPick, effBox, effBuild, effBuildS, effLoad, effStore, fvX, effBin, effUn, effConvInt, effConvStr, effClo, effMake, boundsV, effSlice, effSlice0, effSliceS, effFieldAddr, effField, effIndex, effIndexS, effExtract, effLen, effMax, effMin, effAppend, binF, unF, FV.isOne, AV.isOne, AV.cellsN, splice, fillA, srcF, bornA, growA, resA, argsE, argsF, Nat.reduceAdd, Nat.reduceSub, Nat.reduceMul, Nat.reduceLT, Nat.reduceLeDiff, Nat.reduceEqDiff, Nat.reduceBEq, reduceIte, reduceCtorEq, Int.reduceLE, Int.reduceLT, Int.reduceToNat, Int.reduceEq, Int.reduceNe])
    | ((first | apply condS_splitN | apply condS_split | apply guardS_splitTN | apply guardS_splitFN | apply guardD_splitTN | apply guardD_splitFN | apply guardS_splitT | apply guardS_splitF | apply guardD_splitT | apply guardD_splitF) <;> intro hc)
    | (refine callP0 rfl ?_)
    | (refine callD0 rfl ?_))
  clear hge h2 hs
  have rt : (rowF encR (x ++ pick y F)).length = x.length + F.length := by
    rw [row_len (sz := 1) (fun _ => rfl), Nat.mul_one, List.length_append, pick, List.length_map]
  have hTl : (x ++ pick y F).length = x.length + F.length := by rw [List.length_append, pick, List.length_map]
  generalize x ++ pick y F = T at hall rt hTl ⊢
  rw [← hTl]
  refine ax_loopU (S := Nat) 165 [0, 1, 2, 3, 4, 16, 18, 19, 20] [72, 84] (fun s => [(22, .f (.int .i64 s))]) (fun s => []) (fun s => s ≤ y.length) (fun s => y.length - s) (0) [] ?_ ?_ fun s hs => ?_
  · exact Nat.zero_le _
  · refine ⟨rfl, (by first | exact small_0 | exact small_mk rfl | (repeat (first | exact small_0 | exact small_mk rfl | refine small_upd rfl ?_ | refine small_sw rfl rfl ?_))), rfl, rfl, (by rfl), ?_, ?_⟩ <;> simp only [zw1, zw2, swN, ElOk, HlOk, Nat.reduceEqDiff, Nat.reduceBEq, Nat.reduceLT, Nat.reduceLeDiff, reduceIte, reduceCtorEq, H0, AObj.cells.injEq]
  refine srun_sound 300 _ _ _ _ ?_
  rcases Nat.lt_or_ge s y.length with hlt | hge
  · obtain ⟨z, hz⟩ := get_some hlt
    have h4 := inc64 hlt (by omega)
    have h2 := lt_t hlt
    have hzT := hall.out z (List.mem_of_getElem? hz)
    have hc2 : ((rowF encR y).map AV.f)[s]? = some (.f (frB z)) := by
      have := row_cell (enc := encR) (sz := 1) (j := 0) (fun _ => rfl) hz rfl
      simpa using this
    repeat' (first
      | (simp -implicitDefEqProofs only [*, zr1, zr2, zr3, zr4, zr5, zr6, zr7, effEqS, eqL, eqV, effIsNil, effMark, onesA, effBytesStr, effStrBytes, effCopy, effClear, effMapUpd, effLookup, lookV, AV.plainVal, copyN, copyS, copyR, idsS, idsC, effNil, effPick, effBox, effBuild, effBuildS, effLoad, effStore, fvX, effBin, effUn, effConvInt, effConvStr, effClo, effMake, boundsV, effSlice, effSlice0, effSliceS, effFieldAddr, effField, effIndex, effIndexS, effExtract, effLen, effMax, effMin, effAppend, binF, unF, FV.isOne, AV.isOne, AV.cellsN, splice, fillA, srcF, bornA, growA, resA, argsE, argsF, Nat.reduceAdd, Nat.reduceSub, Nat.reduceMul, Nat.reduceLT, Nat.reduceLeDiff, Nat.reduceEqDiff, Nat.reduceBEq, reduceIte, reduceCtorEq, Int.reduceLE, Int.reduceLT, Int.reduceToNat, Int.reduceEq, Int.reduceNe])
      | ((first | apply condS_splitN | apply condS_split | apply guardS_splitTN | apply guardS_splitFN | apply guardD_splitTN | apply guardD_splitFN | apply guardS_splitT | apply guardS_splitF | apply guardD_splitT | apply guardD_splitF) <;> intro hc)
      | (refine callP0 rfl ?_)
      | (refine callD0 rfl ?_))
    obtain ⟨i, hi⟩ : ∃ i, i = s := ⟨s, rfl⟩
    subst hi
    refine ax_loopU (S := Nat × Bool) 165 [0, 1, 2, 3, 4, 16, 18, 19, 20, 22] [72, 84] (fun s => [(23, .f (.bool s.2)), (24, .f (.int .i64 s.1))]) (fun s => []) (fun s => s.1 ≤ T.length ∧ (s.2 = false → z ∉ T.take s.1)) (fun s => T.length - s.1) (0, false) [] ?_ ?_ fun s hs => ?_
    · exact ⟨Nat.zero_le _, fun _ => by simp⟩
    · refine ⟨rfl, (by first | exact small_0 | exact small_mk rfl | (repeat (first | exact small_0 | exact small_mk rfl | refine small_upd rfl ?_ | refine small_sw rfl rfl ?_))), rfl, rfl, (by rfl), ?_, ?_⟩ <;> simp only [zw1, zw2, swN, ElOk, HlOk, Nat.reduceEqDiff, Nat.reduceBEq, Nat.reduceLT, Nat.reduceLeDiff, reduceIte, reduceCtorEq, H0, AObj.cells.injEq]
    obtain ⟨k, b⟩ := s
    obtain ⟨hk, hkz⟩ := hs
    simp only at hk hkz ⊢
    refine srun_sound 300 _ _ _ _ ?_
    replace hkz := hide hkz
    cases b
    · rcases Nat.lt_or_ge k T.length with hk2 | hk2
      · obtain ⟨u, hu⟩ := get_some hk2
        have h5 := inc64 hk2 (by omega)
        have h6 : decide (k < x.length + F.length) = true := by rw [decide_eq_true_eq]; omega
        have h7 : (k < x.length + F.length) = True := by rw [eq_iff_iff, iff_true]; omega
        have hc3 : ((rowF encR T).map AV.f)[k]? = some (.f (frB u)) := by
          have := row_cell (enc := encR) (sz := 1) (j := 0) (fun _ => rfl) hu rfl
          simpa using this
        have h8 : (i < y.length) = True := by simp [hlt]
        generalize hcy : (rowF encR y).map AV.f = cy at hc2 ⊢
        generalize hct : (rowF encR T).map AV.f = ct at hc3 ⊢
        repeat' (first
          | (simp -implicitDefEqProofs only [*, frB, hcy, hct, zr1, zr2, zr3, zr4, zr5, zr6, zr7, effEqS, eqL, eqV, effIsNil, effMark, onesA, effBytesStr, effStrBytes, effCopy, effClear, effMapUpd, effLookup, lookV, AV.plainVal, copyN, copyS, copyR, idsS, idsC, effNil, effPick, effBox, effBuild, effBuildS, effLoad, effStore, fvX, effBin, effUn, effConvInt, effConvStr, effClo, effMake, boundsV, effSlice, effSlice0, effSliceS, effFieldAddr, effField, effIndex, effIndexS, effExtract, effLen, effMax, effMin, effAppend, binF, unF, FV.isOne, AV.isOne, AV.cellsN, splice, fillA, srcF, bornA, growA, resA, argsE, argsF, Nat.reduceAdd, Nat.reduceSub, Nat.reduceMul, Nat.reduceLT, Nat.reduceLeDiff, Nat.reduceEqDiff, Nat.reduceBEq, reduceIte, reduceCtorEq, Int.reduceLE, Int.reduceLT, Int.reduceToNat, Int.reduceEq, Int.reduceNe])
          | ((first | apply condS_splitN | apply condS_split | apply guardS_splitTN | apply guardS_splitFN | apply guardD_splitTN | apply guardD_splitFN | apply guardS_splitT | apply guardS_splitF | apply guardD_splitT | apply guardD_splitF) <;> intro hc)
          | (refine callP0 rfl ?_)
          | (refine callD0 rfl ?_)
          | (refine callP rfl (bytesEq_f u z) rfl (by first | exact LeL.refl _ | ((repeat (first | exact LeL.refl _ | exact LeA.refl _ | exact LeA.nil _ | refine LeL.cons ?_ ?_ | refine LeA.agg ?_)); first | done | fail)) rfl (by first | exact free_0 | exact free_mk rfl | (repeat (first | exact free_0 | exact free_mk rfl | exact free_mk (by simp) | refine free_upd rfl ?_))) ?_)
          | (refine callD rfl (bytesEq_f u z) rfl (by first | exact LeL.refl _ | ((repeat (first | exact LeL.refl _ | exact LeA.refl _ | exact LeA.nil _ | refine LeL.cons ?_ ?_ | refine LeA.agg ?_)); first | done | fail)) rfl rfl ?_))
        subst hcy hct
        refine ⟨(k + 1, decide (u = z)), ⟨by simp only; omega, fun hf => ?_⟩, by simp only; omega, ?_⟩
        · rw [List.take_add_one, hu, List.mem_append]
          rintro (h | h)
          · exact hkz.out rfl h
          · have : z = u := by simpa using h
            exact of_decide_eq_false hf this.symm
        · refine ⟨rfl, (by first | exact small_0 | exact small_mk rfl | (repeat (first | exact small_0 | exact small_mk rfl | refine small_upd rfl ?_ | refine small_sw rfl rfl ?_))), rfl, rfl, (by rfl), ?_, ?_⟩ <;> simp only [zw1, zw2, swN, ElOk, HlOk, Nat.reduceEqDiff, Nat.reduceBEq, Nat.reduceLT, Nat.reduceLeDiff, reduceIte, reduceCtorEq, H0, AObj.cells.injEq]
      · exfalso
        refine hkz.out rfl ?_
        rw [List.take_of_length_le hk2]; exact hzT
    · rcases Nat.lt_or_ge k T.length with hk2 | hk2
      · have h6 : decide (k < x.length + F.length) = true := by rw [decide_eq_true_eq]; omega
        repeat' (first
          | (simp -implicitDefEqProofs only [*, zr1, zr2, zr3, zr4, zr5, zr6, zr7, effEqS, eqL, eqV, effIsNil, effMark, onesA, effBytesStr, effStrBytes, effCopy, effClear, effMapUpd, effLookup, lookV, AV.plainVal, copyN, copyS, copyR, idsS, idsC, effNil, effPick, effBox, effBuild, effBuildS, effLoad, effStore, fvX, effBin, effUn, effConvInt, effConvStr, effClo, effMake, boundsV, effSlice, effSlice0, effSliceS, effFieldAddr, effField, effIndex, effIndexS, effExtract, effLen, effMax, effMin, effAppend, binF, unF, FV.isOne, AV.isOne, AV.cellsN, splice, fillA, srcF, bornA, growA, resA, argsE, argsF, Nat.reduceAdd, Nat.reduceSub, Nat.reduceMul, Nat.reduceLT, Nat.reduceLeDiff, Nat.reduceEqDiff, Nat.reduceBEq, reduceIte, reduceCtorEq, Int.reduceLE, Int.reduceLT, Int.reduceToNat, Int.reduceEq, Int.reduceNe])
          | ((first | apply condS_splitN | apply condS_split | apply guardS_splitTN | apply guardS_splitFN | apply guardD_splitTN | apply guardD_splitFN | apply guardS_splitT | apply guardS_splitF | apply guardD_splitT | apply guardD_splitF) <;> intro hc)
          | (refine callP0 rfl ?_)
          | (refine callD0 rfl ?_))
        refine ⟨i + 1, hlt, by omega, ?_⟩
        refine ⟨rfl, (by first | exact small_0 | exact small_mk rfl | (repeat (first | exact small_0 | exact small_mk rfl | refine small_upd rfl ?_ | refine small_sw rfl rfl ?_))), rfl, rfl, (by rfl), ?_, ?_⟩ <;> simp only [zw1, zw2, swN, ElOk, HlOk, Nat.reduceEqDiff, Nat.reduceBEq, Nat.reduceLT, Nat.reduceLeDiff, reduceIte, reduceCtorEq, H0, AObj.cells.injEq]
      · have h6 : decide (k < x.length + F.length) = false := by rw [decide_eq_false_iff_not]; omega
        repeat' (first
          | (simp -implicitDefEqProofs only [*, zr1, zr2, zr3, zr4, zr5, zr6, zr7, effEqS, eqL, eqV, effIsNil, effMark, onesA, effBytesStr, effStrBytes, effCopy, effClear, effMapUpd, effLookup, lookV, AV.plainVal, copyN, copyS, copyR, idsS, idsC, effNil, effPick, effBox, effBuild, effBuildS, effLoad, effStore, fvX, effBin, effUn, effConvInt, effConvStr, effClo, effMake, boundsV, effSlice, effSlice0, effSliceS, effFieldAddr, effField, effIndex, effIndexS, effExtract, effLen, effMax, effMin, effAppend, binF, unF, FV.isOne, AV.isOne, AV.cellsN, splice, fillA, srcF, bornA, growA, resA, argsE, argsF, Nat.reduceAdd, Nat.reduceSub, Nat.reduceMul, Nat.reduceLT, Nat.reduceLeDiff, Nat.reduceEqDiff, Nat.reduceBEq, reduceIte, reduceCtorEq, Int.reduceLE, Int.reduceLT, Int.reduceToNat, Int.reduceEq, Int.reduceNe])
          | ((first | apply condS_splitN | apply condS_split | apply guardS_splitTN | apply guardS_splitFN | apply guardD_splitTN | apply guardD_splitFN | apply guardS_splitT | apply guardS_splitF | apply guardD_splitT | apply guardD_splitF) <;> intro hc)
          | (refine callP0 rfl ?_)
          | (refine callD0 rfl ?_))
        refine ⟨i + 1, hlt, by omega, ?_⟩
        refine ⟨rfl, (by first | exact small_0 | exact small_mk rfl | (repeat (first | exact small_0 | exact small_mk rfl | refine small_upd rfl ?_ | refine small_sw rfl rfl ?_))), rfl, rfl, (by rfl), ?_, ?_⟩ <;> simp only [zw1, zw2, swN, ElOk, HlOk, Nat.reduceEqDiff, Nat.reduceBEq, Nat.reduceLT, Nat.reduceLeDiff, reduceIte, reduceCtorEq, H0, AObj.cells.injEq]
  · obtain rfl : s = y.length := by omega
    have h2 := lt_f hge
    have hw : IntKind.i64.wrap ((lens (pick y F) : Nat) + (shSum x y : Nat)) = ((lens (pick y F) + shSum x y : Nat) : Int) := by rw [wrap64] <;> omega
    have hd : decide (((lens (pick y F) + shSum x y : Nat) : Int) ≤ (now.length : Int)) = true := by rw [decide_eq_true_eq]; omega
    generalize lens (pick y F) + shSum x y = S at hw hd
    repeat' (first
      | (simp -implicitDefEqProofs only [*, frB, zr1, zr2, zr3, zr4, zr5, zr6, zr7, effEqS, eqL, eqV, effIsNil, effMark, onesA, effBytesStr, effStrBytes, effCopy, effClear, effMapUpd, effLookup, lookV, AV.plainVal, copyN, copyS, copyR, idsS, idsC, effNil, effPick, effBox, effBuild, effBuildS, effLoad, effStore, fvX, effBin, effUn, effConvInt, effConvStr, effClo, effMake, boundsV, effSlice, effSlice0, effSliceS, effFieldAddr, effField, effIndex, effIndexS, effExtract, effLen, effMax, effMin, effAppend, binF, unF, FV.isOne, AV.isOne, AV.cellsN, splice, fillA, srcF, bornA, growA, resA, argsE, argsF, Nat.reduceAdd, Nat.reduceSub, Nat.reduceMul, Nat.reduceLT, Nat.reduceLeDiff, Nat.reduceEqDiff, Nat.reduceBEq, reduceIte, reduceCtorEq, Int.reduceLE, Int.reduceLT, Int.reduceToNat, Int.reduceEq, Int.reduceNe])
      | ((first | apply condS_splitN | apply condS_split | apply guardS_splitTN | apply guardS_splitFN | apply guardD_splitTN | apply guardD_splitFN | apply guardS_splitT | apply guardS_splitF | apply guardD_splitT | apply guardD_splitF) <;> intro hc)
      | (refine callP0 rfl ?_)
      | (refine callD0 rfl ?_)
      | (refine callP rfl (hS.out) rfl (by first | exact LeL.refl _ | ((repeat (first | exact LeL.refl _ | exact LeA.refl _ | exact LeA.nil _ | refine LeL.cons ?_ ?_ | refine LeA.agg ?_)); first | done | fail)) rfl (by first | exact free_0 | exact free_mk rfl | (repeat (first | exact free_0 | exact free_mk rfl | exact free_mk (by simp) | refine free_upd rfl ?_))) ?_)
      | (refine callD rfl (hS.out) rfl (by first | exact LeL.refl _ | ((repeat (first | exact LeL.refl _ | exact LeA.refl _ | exact LeA.nil _ | refine LeL.cons ?_ ?_ | refine LeA.agg ?_)); first | done | fail)) rfl rfl ?_)
      | (refine callP rfl (lives_f) rfl (by first | exact LeL.refl _ | ((repeat (first | exact LeL.refl _ | exact LeA.refl _ | exact LeA.nil _ | refine LeL.cons ?_ ?_ | refine LeA.agg ?_)); first | done | fail)) rfl (by first | exact free_0 | exact free_mk rfl | (repeat (first | exact free_0 | exact free_mk rfl | exact free_mk (by simp) | refine free_upd rfl ?_))) ?_)
      | (refine callD rfl (lives_f) rfl (by first | exact LeL.refl _ | ((repeat (first | exact LeL.refl _ | exact LeA.refl _ | exact LeA.nil _ | refine LeL.cons ?_ ?_ | refine LeA.agg ?_)); first | done | fail)) rfl rfl ?_))
    exact ret_v
theorem pieces_law (old now : List UInt8) (least bits most : Int) : FRet Try.prog 3 [.f (frB old), .f (frB now), .f (.int .i64 least), .f (.int .i64 bits), .f (.int .i64 most)] [.c (.v (.bool true))] := by
  by_cases h : pcErr old least bits most = 0 ∧ pcErr now least bits most = 0
  · exact pieces_good old now least bits most h.1 h.2
  · exact pieces_bad old now least bits most h
theorem pieces_any (A1 A2 : Option Addr) (n1 c1 n2 c2 : Nat) (old now : List UInt8) (least bits most : Int) (W : World) (h1 : rSl 1 1 rByte W W.heap.size old [.slice A1 n1 c1]) (h2 : rSl 1 1 rByte W W.heap.size now [.slice A2 n2 c2]) :
    Calls Try.prog 3 #[.slice A1 n1 c1, .slice A2 n2 c2, .int .i64 least, .int .i64 bits, .int .i64 most] W fun e w' => e = .returned (.bool true) ∧ Below W.heap.size W w' := by
  refine FRet.calls (xs := [frB old, frB now, .int .i64 least, .int .i64 bits, .int .i64 most]) (pieces_law old now least bits most) rfl fun j x v hx hv => ?_
  rcases j with _ | _ | _ | _ | _ | j
  · obtain rfl := Option.some.inj hx; obtain rfl := Option.some.inj hv; exact (fz_sl fz_byte).one h1
  · obtain rfl := Option.some.inj hx; obtain rfl := Option.some.inj hv; exact (fz_sl fz_byte).one h2
  · obtain rfl := Option.some.inj hx; obtain rfl := Option.some.inj hv; exact .int _ _
  · obtain rfl := Option.some.inj hx; obtain rfl := Option.some.inj hv; exact .int _ _
  · obtain rfl := Option.some.inj hx; obtain rfl := Option.some.inj hv; exact .int _ _
  · simp at hx
end Go.Proofs.Ytchhcmblajmehaa
