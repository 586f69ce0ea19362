/-
  The reference's checks of a cache on the machine. No statement of the seat is proved here; no conditions.
-/
import Derived.Test.YteeemcghdhdodaaDoorCaC
namespace Go.Proofs.YteeemcghdhdodaaDoor
open Go.RowKit Go.Shelf
set_option linter.unusedVariables false
set_option linter.unusedSimpArgs false
set_option maxRecDepth 100000

def hexB (b : UInt8) : Bool := decide ((48 : Int) ≤ (b.toNat : Int)) && decide ((b.toNat : Int) ≤ 57) || decide ((97 : Int) ≤ (b.toNat : Int)) && decide ((b.toNat : Int) ≤ 102)
theorem hexB_eq (b : UInt8) : hexS.contains b = hexB b := by
  obtain ⟨⟨n, hn⟩⟩ := b
  have : ∀ k : _root_.Fin 256, hexS.contains ⟨⟨k⟩⟩ = hexB ⟨⟨k⟩⟩ := by decide +kernel
  exact this ⟨n, hn⟩
theorem dropWhile_nil {α : Type} (p : α → Bool) : ∀ l : List α, (l.dropWhile p).isEmpty = l.all p
  | [] => rfl
  | a :: l => by
    cases h : p a
    · simp [List.dropWhile, h]
    · simp [List.dropWhile, h, dropWhile_nil p l]
theorem trimS_nil (l cs : List UInt8) : (Lib.trimS l cs).isEmpty = l.all (cs.contains ·) := by
  unfold Lib.trimS Lib.trimLeftS Lib.trimRightS
  rw [dropWhile_nil]
  cases h : l.all (cs.contains ·)
  · have h2 : (l.reverse.dropWhile (cs.contains ·)).isEmpty = false := by rw [dropWhile_nil, List.all_reverse]; exact h
    cases h3 : l.reverse.dropWhile (cs.contains ·) with
    | nil => rw [h3] at h2; cases h2
    | cons a r =>
      have h4 : cs.contains a = false := by
        have := List.head?_dropWhile_not (cs.contains ·) l.reverse
        rw [h3] at this
        simpa using this
      rw [List.all_reverse, List.all_cons, h4]; rfl
  · have h2 : (l.reverse.dropWhile (cs.contains ·)).isEmpty = true := by rw [dropWhile_nil, List.all_reverse]; exact h
    rw [List.isEmpty_iff.1 h2]; rfl
theorem isDig_hex (s : ByteArray) : isDig s = (s.data.toList.all hexB && decide (s.size = 16)) := by
  unfold isDig
  rw [trimS_nil, show (fun x => hexS.contains x) = hexB from funext hexB_eq, Bool.and_comm]; rfl
theorem isDigestR_f (s0 : ByteArray) (hl : (s0.size : Int) ≤ 9223372036854775807) : FRet Tryd.prog 30 [.f (.str s0)] [.c (.v (.bool (isDig s0)))] := by
  rw [isDig_hex]
  have hsz : s0.size = s0.data.toList.length := by simp
  refine FCall.of_ax low_ref1_IsDigest ?_
  dsimp only [l_ref1_IsDigest]
  refine srun_sound 300 _ _ _ _ ?_
  repeat' (first
    | (simp -implicitDefEqProofs only [*, srun_s, srun_0, st_nil, st_skip, st_seq, st_block, st_blk, st_ret, st_exit, st_cond, st_reg, st_draw, st_opsNil, st_dNil, st_call, st_dCall, st_op, st_opG, st_d, st_dG, st_again, st_loop, ic_move, ic_nilChk, ic_pick, ic_alloc, ic_box, ic_build, ic_buildSlice, ic_load, ic_store, ic_bin, ic_un, ic_isNil, ic_eqS, effEqS, ef_eqS, eqL, eqV, Bool.bne_false, Bool.bne_true, effIsNil, ef_isNil, condS_bit, ic_convInt, ic_convStr, ic_clo, ic_makeSlice, ic_slice, ic_slice0, ic_sliceS, ic_fieldAddr, ic_field, ic_indexAddr, ic_indexS, ic_extract, ic_len, ic_maxI, ic_minI, ic_append, ev_tmp, ev_func, ev_int, ev_bool, ev_str, ev_nil, ev_ptr, ev_map, ev_agg, of_int, of_bool, of_str, of_nil, of_ptr, ex_pure, ex_rd, ex_md, ex_rm, ex_new, rdX_some, mdX_some, newX_none, alive_some, cellsOf_some, rds_pure, rds_rd, rds_md, rds_rm, rds_new, wrs_pure, wrs_rd, wrs_md, wrs_rm, wrs_new, noConf_nil, noConf_cons, fpOk, disj_nil, disj_cons, addFp_nil, addFp_cons, effNil, effPick, effBox, effBuild, effBuildS, effLoad, effStore, fvX, effBin, effUn, effConvInt, effConvStr, ef_move, ef_nil, ef_pick, ef_alloc, ef_box, ef_build, ef_buildS, ef_load, ef_store, ef_bin, ef_un, ef_convInt, ef_convStr, effClo, effMake, boundsV, bounds_v, effSlice, effSlice0, effSliceS, effFieldAddr, effField, effIndex, effIndexS, effExtract, effLen, effMax, effMin, effAppend, ef_clo, ef_make, ef_slice, ef_slice0, ef_sliceS, ef_fieldAddr, ef_field, ef_index, ef_indexS, ef_extract, ef_len, ef_max, ef_min, ef_append, toI_int, condS_true, condS_false, execS_some, guardS_tt, guardS_ff, guardS_tf, guardS_ft, guardS_tup, guardD_tup, execD_some, guardD_tt, guardD_ff, guardD_tf, guardD_ft, exitS_some, popTo_blk, popTo_again, popTo_code, putE_some, putE_none, upd_get, upd_same, pickA_true, pickA_false, pickA_bool, binF, unF, FV.isOne, AV.isOne, AV.cellsN, splice, fillA, srcF, bornA, growA, resA, argsE, argsF, List.map_cons, List.map_nil, List.set_cons_zero, List.set_cons_succ, List.getElem?_cons_zero, List.getElem?_cons_succ, List.drop_zero, List.drop_succ_cons, List.take_succ_cons, List.take_zero, List.length_cons, List.length_map, List.length_nil, List.append_nil, List.nil_append, List.cons_append, List.contains_cons, List.contains_nil, Nat.reduceAdd, Nat.reduceSub, Nat.reduceMul, Nat.reduceLT, Nat.reduceLeDiff, Nat.reduceEqDiff, Nat.reduceBEq, Nat.max_def, Nat.zero_add, Nat.add_zero, decide_true, decide_false, reduceIte, Option.getD_some, Option.getD_none, if_true, ite_self, Bool.false_eq_true, reduceCtorEq, Bool.not_true, Bool.not_false, Bool.or_true, Bool.true_or, Bool.and_true, Bool.true_and, Bool.or_false, Bool.false_or, and_true, true_and, and_self, ne_eq, not_false_eq_true, Int.reduceLE, Int.reduceLT, Int.reduceToNat, Int.toNat_natCast, Int.natCast_nonneg, Int.ofNat_lt, H0_at, cellsG_some, mkE_eq, mkE_f, mkE_n, mkH_at, look_cons, look_nil, lookH_cons, lookH_nil, zeros_0, zeros_1, zeros_2, zeros_3, zeros_4, zeros_5, zeros_6, zeros_7, zeros_8, zeros_9, zeros_10, zeros_11, zeros_12, zeros_13, zeros_14, zeros_15, zeros_16, Nat.reduceLeDiff, List.length_set, eq_self, Nat.mul_one, Nat.one_mul, Int.reduceEq, Int.reduceNe, put_S, put_Sn, put_Sa, put_Cs, put_Csn, put_v, put_o, nx_v, nx_o, nx_s, nx_n, pH_S, pH_Sa, pH_n, pH_cs, pH_csn, pH_v, pH_o, oot_1, oot_2, oot_0, Nat.mul_zero, Bool.not_not, beq_self_eq_true, Bool.not_eq_true', Bool.not_eq_false'])
    | (refine condS_splitN (fun hc => ?_) (fun hc => ?_))
    | (refine condS_split (fun hc => ?_) (fun hc => ?_))
    | (refine guardS_splitTN (fun hc => ?_) (fun hc => ?_))
    | (refine guardS_splitFN (fun hc => ?_) (fun hc => ?_))
    | (refine guardD_splitTN (fun hc => ?_) (fun hc => ?_))
    | (refine guardD_splitFN (fun hc => ?_) (fun hc => ?_))
    | (refine guardS_splitT (fun hc => ?_) (fun hc => ?_))
    | (refine guardS_splitF (fun hc => ?_) (fun hc => ?_))
    | (refine guardD_splitT (fun hc => ?_) (fun hc => ?_))
    | (refine guardD_splitF (fun hc => ?_) (fun hc => ?_))
    | (refine callP0 rfl ?_)
    | (refine callD0 rfl ?_))
  refine ax_loopU (S := Nat) 36 [0] [] (fun s => [(3, .f (.int .i64 s))]) (fun s => []) (fun s => s ≤ s0.size ∧ ∀ (m : Nat) b, m < s → s0.data.toList[m]? = some b → hexB b = true) (fun s => s0.size - s) (0) [] ?_ ?_ fun s hs => ?_
  · exact ⟨Nat.zero_le _, fun m b h => absurd h (by omega)⟩
  · refine ⟨rfl, (by first | exact small_0 | exact small_mk rfl | (repeat (first | exact small_0 | exact small_mk rfl | refine small_upd rfl ?_))), rfl, rfl, ?_, ?_⟩ <;> simp (config := { decide := false }) only [Int.natCast_zero, List.map_cons, List.cons_append, List.nil_append, List.append_nil, cellsG_some, so_nil, so_cons, so_same, ElOk, so_ff, so_fs, so_ss, so_pp, so_mm, so_aa, HlOk, upd_get, upd_same, mkE_f, mkE_n, mkH_at, look_cons, look_nil, lookH_cons, lookH_nil, List.contains_cons, List.contains_nil, Nat.reduceEqDiff, Nat.reduceBEq, Nat.reduceLT, Nat.reduceLeDiff, Bool.or_false, Bool.or_true, Bool.false_or, Bool.true_or, Bool.false_eq_true, reduceIte, if_true, and_true, true_and, and_self, reduceCtorEq, Option.isSome_some, Option.isSome_none, List.mem_cons, List.not_mem_nil, or_false, false_or, or_true, true_or, not_false_eq_true, List.map_nil, List.length_nil, putE_some, putE_none, H0, Option.some.injEq, AObj.cells.injEq, exists_eq_left', exists_eq_left, List.length_cons, exists_false, false_and, and_false]
  obtain ⟨hi, hall⟩ := hs
  refine srun_sound 300 _ _ _ _ ?_
  rcases Nat.lt_or_ge s s0.size with hlt | hge
  · obtain ⟨x, hx⟩ := get_some (l := s0.data.toList) (i := s) (by omega)
    have h4 := inc64 hlt hl
    have h2 := lt_t hlt
    have hE : hexB x = (decide ((48 : Int) ≤ (x.toNat : Int)) && decide ((x.toNat : Int) ≤ 57) || decide ((97 : Int) ≤ (x.toNat : Int)) && decide ((x.toNat : Int) ≤ 102)) := rfl
    have hmem := List.mem_of_getElem? hx
    clear hsz
    repeat' (first
      | (simp -implicitDefEqProofs only [*, srun_s, srun_0, st_nil, st_skip, st_seq, st_block, st_blk, st_ret, st_exit, st_cond, st_reg, st_draw, st_opsNil, st_dNil, st_call, st_dCall, st_op, st_opG, st_d, st_dG, st_again, st_loop, ic_move, ic_nilChk, ic_pick, ic_alloc, ic_box, ic_build, ic_buildSlice, ic_load, ic_store, ic_bin, ic_un, ic_isNil, ic_eqS, effEqS, ef_eqS, eqL, eqV, Bool.bne_false, Bool.bne_true, effIsNil, ef_isNil, condS_bit, ic_convInt, ic_convStr, ic_clo, ic_makeSlice, ic_slice, ic_slice0, ic_sliceS, ic_fieldAddr, ic_field, ic_indexAddr, ic_indexS, ic_extract, ic_len, ic_maxI, ic_minI, ic_append, ev_tmp, ev_func, ev_int, ev_bool, ev_str, ev_nil, ev_ptr, ev_map, ev_agg, of_int, of_bool, of_str, of_nil, of_ptr, ex_pure, ex_rd, ex_md, ex_rm, ex_new, rdX_some, mdX_some, newX_none, alive_some, cellsOf_some, rds_pure, rds_rd, rds_md, rds_rm, rds_new, wrs_pure, wrs_rd, wrs_md, wrs_rm, wrs_new, noConf_nil, noConf_cons, fpOk, disj_nil, disj_cons, addFp_nil, addFp_cons, effNil, effPick, effBox, effBuild, effBuildS, effLoad, effStore, fvX, effBin, effUn, effConvInt, effConvStr, ef_move, ef_nil, ef_pick, ef_alloc, ef_box, ef_build, ef_buildS, ef_load, ef_store, ef_bin, ef_un, ef_convInt, ef_convStr, effClo, effMake, boundsV, bounds_v, effSlice, effSlice0, effSliceS, effFieldAddr, effField, effIndex, effIndexS, effExtract, effLen, effMax, effMin, effAppend, ef_clo, ef_make, ef_slice, ef_slice0, ef_sliceS, ef_fieldAddr, ef_field, ef_index, ef_indexS, ef_extract, ef_len, ef_max, ef_min, ef_append, toI_int, condS_true, condS_false, execS_some, guardS_tt, guardS_ff, guardS_tf, guardS_ft, guardS_tup, guardD_tup, execD_some, guardD_tt, guardD_ff, guardD_tf, guardD_ft, exitS_some, popTo_blk, popTo_again, popTo_code, putE_some, putE_none, upd_get, upd_same, pickA_true, pickA_false, pickA_bool, binF, unF, FV.isOne, AV.isOne, AV.cellsN, splice, fillA, srcF, bornA, growA, resA, argsE, argsF, List.map_cons, List.map_nil, List.set_cons_zero, List.set_cons_succ, List.getElem?_cons_zero, List.getElem?_cons_succ, List.drop_zero, List.drop_succ_cons, List.take_succ_cons, List.take_zero, List.length_cons, List.length_map, List.length_nil, List.append_nil, List.nil_append, List.cons_append, List.contains_cons, List.contains_nil, Nat.reduceAdd, Nat.reduceSub, Nat.reduceMul, Nat.reduceLT, Nat.reduceLeDiff, Nat.reduceEqDiff, Nat.reduceBEq, Nat.max_def, Nat.zero_add, Nat.add_zero, decide_true, decide_false, reduceIte, Option.getD_some, Option.getD_none, if_true, ite_self, Bool.false_eq_true, reduceCtorEq, Bool.not_true, Bool.not_false, Bool.or_true, Bool.true_or, Bool.and_true, Bool.true_and, Bool.or_false, Bool.false_or, and_true, true_and, and_self, ne_eq, not_false_eq_true, Int.reduceLE, Int.reduceLT, Int.reduceToNat, Int.toNat_natCast, Int.natCast_nonneg, Int.ofNat_lt, H0_at, cellsG_some, mkE_eq, mkE_f, mkE_n, mkH_at, look_cons, look_nil, lookH_cons, lookH_nil, zeros_0, zeros_1, zeros_2, zeros_3, zeros_4, zeros_5, zeros_6, zeros_7, zeros_8, zeros_9, zeros_10, zeros_11, zeros_12, zeros_13, zeros_14, zeros_15, zeros_16, Nat.reduceLeDiff, List.length_set, eq_self, Nat.mul_one, Nat.one_mul, Int.reduceEq, Int.reduceNe, put_S, put_Sn, put_Sa, put_Cs, put_Csn, put_v, put_o, nx_v, nx_o, nx_s, nx_n, pH_S, pH_Sa, pH_n, pH_cs, pH_csn, pH_v, pH_o, oot_1, oot_2, oot_0, Nat.mul_zero, Bool.not_not, beq_self_eq_true, Bool.not_eq_true', Bool.not_eq_false'])
      | (refine condS_splitN (fun hc => ?_) (fun hc => ?_))
      | (refine condS_split (fun hc => ?_) (fun hc => ?_))
      | (refine guardS_splitTN (fun hc => ?_) (fun hc => ?_))
      | (refine guardS_splitFN (fun hc => ?_) (fun hc => ?_))
      | (refine guardD_splitTN (fun hc => ?_) (fun hc => ?_))
      | (refine guardD_splitFN (fun hc => ?_) (fun hc => ?_))
      | (refine guardS_splitT (fun hc => ?_) (fun hc => ?_))
      | (refine guardS_splitF (fun hc => ?_) (fun hc => ?_))
      | (refine guardD_splitT (fun hc => ?_) (fun hc => ?_))
      | (refine guardD_splitF (fun hc => ?_) (fun hc => ?_))
      | (refine callP0 rfl ?_)
      | (refine callD0 rfl ?_))
    all_goals simp only [*, Bool.false_and, Bool.and_false, Bool.true_and, Bool.and_true, Bool.or_true, Bool.true_or, Bool.or_false, Bool.false_or] at hE
    all_goals first
      | (refine ret_ve ?_; rw [List.all_eq_false.2 ⟨x, hmem, by simp [hE]⟩, Bool.false_and])
      | (refine ⟨s + 1, ⟨hlt, fun m b hm hb => ?_⟩, by omega, ?_⟩
         · rcases Nat.lt_succ_iff_lt_or_eq.1 hm with h1 | rfl
           · exact hall m b h1 hb
           · rw [hx] at hb; obtain rfl := Option.some.inj hb; exact hE
         · refine ⟨rfl, (by first | exact small_0 | exact small_mk rfl | (repeat (first | exact small_0 | exact small_mk rfl | refine small_upd rfl ?_))), rfl, rfl, ?_, ?_⟩ <;> simp (config := { decide := false }) only [Int.natCast_zero, List.map_cons, List.cons_append, List.nil_append, List.append_nil, cellsG_some, so_nil, so_cons, so_same, ElOk, so_ff, so_fs, so_ss, so_pp, so_mm, so_aa, HlOk, upd_get, upd_same, mkE_f, mkE_n, mkH_at, look_cons, look_nil, lookH_cons, lookH_nil, List.contains_cons, List.contains_nil, Nat.reduceEqDiff, Nat.reduceBEq, Nat.reduceLT, Nat.reduceLeDiff, Bool.or_false, Bool.or_true, Bool.false_or, Bool.true_or, Bool.false_eq_true, reduceIte, if_true, and_true, true_and, and_self, reduceCtorEq, Option.isSome_some, Option.isSome_none, List.mem_cons, List.not_mem_nil, or_false, false_or, or_true, true_or, not_false_eq_true, List.map_nil, List.length_nil, putE_some, putE_none, H0, Option.some.injEq, AObj.cells.injEq, exists_eq_left', exists_eq_left, List.length_cons, exists_false, false_and, and_false])
  · obtain rfl : s = s0.size := by omega
    have h2 := lt_f hge
    have ha : s0.data.toList.all hexB = true := List.all_eq_true.2 fun b hb => by
      obtain ⟨m, hm⟩ := List.mem_iff_getElem?.1 hb
      exact hall m b (by have := (List.getElem?_eq_some_iff.1 hm).1; omega) hm
    rw [ha, Bool.true_and]
    clear hsz
    repeat' (first
      | (simp -implicitDefEqProofs only [*, srun_s, srun_0, st_nil, st_skip, st_seq, st_block, st_blk, st_ret, st_exit, st_cond, st_reg, st_draw, st_opsNil, st_dNil, st_call, st_dCall, st_op, st_opG, st_d, st_dG, st_again, st_loop, ic_move, ic_nilChk, ic_pick, ic_alloc, ic_box, ic_build, ic_buildSlice, ic_load, ic_store, ic_bin, ic_un, ic_isNil, ic_eqS, effEqS, ef_eqS, eqL, eqV, Bool.bne_false, Bool.bne_true, effIsNil, ef_isNil, condS_bit, ic_convInt, ic_convStr, ic_clo, ic_makeSlice, ic_slice, ic_slice0, ic_sliceS, ic_fieldAddr, ic_field, ic_indexAddr, ic_indexS, ic_extract, ic_len, ic_maxI, ic_minI, ic_append, ev_tmp, ev_func, ev_int, ev_bool, ev_str, ev_nil, ev_ptr, ev_map, ev_agg, of_int, of_bool, of_str, of_nil, of_ptr, ex_pure, ex_rd, ex_md, ex_rm, ex_new, rdX_some, mdX_some, newX_none, alive_some, cellsOf_some, rds_pure, rds_rd, rds_md, rds_rm, rds_new, wrs_pure, wrs_rd, wrs_md, wrs_rm, wrs_new, noConf_nil, noConf_cons, fpOk, disj_nil, disj_cons, addFp_nil, addFp_cons, effNil, effPick, effBox, effBuild, effBuildS, effLoad, effStore, fvX, effBin, effUn, effConvInt, effConvStr, ef_move, ef_nil, ef_pick, ef_alloc, ef_box, ef_build, ef_buildS, ef_load, ef_store, ef_bin, ef_un, ef_convInt, ef_convStr, effClo, effMake, boundsV, bounds_v, effSlice, effSlice0, effSliceS, effFieldAddr, effField, effIndex, effIndexS, effExtract, effLen, effMax, effMin, effAppend, ef_clo, ef_make, ef_slice, ef_slice0, ef_sliceS, ef_fieldAddr, ef_field, ef_index, ef_indexS, ef_extract, ef_len, ef_max, ef_min, ef_append, toI_int, condS_true, condS_false, execS_some, guardS_tt, guardS_ff, guardS_tf, guardS_ft, guardS_tup, guardD_tup, execD_some, guardD_tt, guardD_ff, guardD_tf, guardD_ft, exitS_some, popTo_blk, popTo_again, popTo_code, putE_some, putE_none, upd_get, upd_same, pickA_true, pickA_false, pickA_bool, binF, unF, FV.isOne, AV.isOne, AV.cellsN, splice, fillA, srcF, bornA, growA, resA, argsE, argsF, List.map_cons, List.map_nil, List.set_cons_zero, List.set_cons_succ, List.getElem?_cons_zero, List.getElem?_cons_succ, List.drop_zero, List.drop_succ_cons, List.take_succ_cons, List.take_zero, List.length_cons, List.length_map, List.length_nil, List.append_nil, List.nil_append, List.cons_append, List.contains_cons, List.contains_nil, Nat.reduceAdd, Nat.reduceSub, Nat.reduceMul, Nat.reduceLT, Nat.reduceLeDiff, Nat.reduceEqDiff, Nat.reduceBEq, Nat.max_def, Nat.zero_add, Nat.add_zero, decide_true, decide_false, reduceIte, Option.getD_some, Option.getD_none, if_true, ite_self, Bool.false_eq_true, reduceCtorEq, Bool.not_true, Bool.not_false, Bool.or_true, Bool.true_or, Bool.and_true, Bool.true_and, Bool.or_false, Bool.false_or, and_true, true_and, and_self, ne_eq, not_false_eq_true, Int.reduceLE, Int.reduceLT, Int.reduceToNat, Int.toNat_natCast, Int.natCast_nonneg, Int.ofNat_lt, H0_at, cellsG_some, mkE_eq, mkE_f, mkE_n, mkH_at, look_cons, look_nil, lookH_cons, lookH_nil, zeros_0, zeros_1, zeros_2, zeros_3, zeros_4, zeros_5, zeros_6, zeros_7, zeros_8, zeros_9, zeros_10, zeros_11, zeros_12, zeros_13, zeros_14, zeros_15, zeros_16, Nat.reduceLeDiff, List.length_set, eq_self, Nat.mul_one, Nat.one_mul, Int.reduceEq, Int.reduceNe, put_S, put_Sn, put_Sa, put_Cs, put_Csn, put_v, put_o, nx_v, nx_o, nx_s, nx_n, pH_S, pH_Sa, pH_n, pH_cs, pH_csn, pH_v, pH_o, oot_1, oot_2, oot_0, Nat.mul_zero, Bool.not_not, beq_self_eq_true, Bool.not_eq_true', Bool.not_eq_false'])
      | (refine condS_splitN (fun hc => ?_) (fun hc => ?_))
      | (refine condS_split (fun hc => ?_) (fun hc => ?_))
      | (refine guardS_splitTN (fun hc => ?_) (fun hc => ?_))
      | (refine guardS_splitFN (fun hc => ?_) (fun hc => ?_))
      | (refine guardD_splitTN (fun hc => ?_) (fun hc => ?_))
      | (refine guardD_splitFN (fun hc => ?_) (fun hc => ?_))
      | (refine guardS_splitT (fun hc => ?_) (fun hc => ?_))
      | (refine guardS_splitF (fun hc => ?_) (fun hc => ?_))
      | (refine guardD_splitT (fun hc => ?_) (fun hc => ?_))
      | (refine guardD_splitF (fun hc => ?_) (fun hc => ?_))
      | (refine callP0 rfl ?_)
      | (refine callD0 rfl ?_))
    refine ret_ve ?_
    congr 1
    simp
    omega
theorem rising_f (l : List ByteArray) (hl : (l.length : Int) ≤ 9223372036854775807) (hs : ∀ d ∈ l, (d.size : Int) ≤ 9223372036854775807) : FRet Tryd.prog 32 [.f (frStrs l)] [.c (.v (.int .i64 (ckDigs l)))] := by
  refine FCall.of_ax low_ref7_rising ?_
  dsimp only [l_ref7_rising, frStrs]
  refine srun_sound 300 _ _ _ _ ?_
  repeat' (first
    | (simp -implicitDefEqProofs only [*, srun_s, srun_0, st_nil, st_skip, st_seq, st_block, st_blk, st_ret, st_exit, st_cond, st_reg, st_draw, st_opsNil, st_dNil, st_call, st_dCall, st_op, st_opG, st_d, st_dG, st_again, st_loop, ic_move, ic_nilChk, ic_pick, ic_alloc, ic_box, ic_build, ic_buildSlice, ic_load, ic_store, ic_bin, ic_un, ic_isNil, ic_eqS, effEqS, ef_eqS, eqL, eqV, Bool.bne_false, Bool.bne_true, effIsNil, ef_isNil, condS_bit, ic_convInt, ic_convStr, ic_clo, ic_makeSlice, ic_slice, ic_slice0, ic_sliceS, ic_fieldAddr, ic_field, ic_indexAddr, ic_indexS, ic_extract, ic_len, ic_maxI, ic_minI, ic_append, ev_tmp, ev_func, ev_int, ev_bool, ev_str, ev_nil, ev_ptr, ev_map, ev_agg, of_int, of_bool, of_str, of_nil, of_ptr, ex_pure, ex_rd, ex_md, ex_rm, ex_new, rdX_some, mdX_some, newX_none, alive_some, cellsOf_some, rds_pure, rds_rd, rds_md, rds_rm, rds_new, wrs_pure, wrs_rd, wrs_md, wrs_rm, wrs_new, noConf_nil, noConf_cons, fpOk, disj_nil, disj_cons, addFp_nil, addFp_cons, effNil, effPick, effBox, effBuild, effBuildS, effLoad, effStore, fvX, effBin, effUn, effConvInt, effConvStr, ef_move, ef_nil, ef_pick, ef_alloc, ef_box, ef_build, ef_buildS, ef_load, ef_store, ef_bin, ef_un, ef_convInt, ef_convStr, effClo, effMake, boundsV, bounds_v, effSlice, effSlice0, effSliceS, effFieldAddr, effField, effIndex, effIndexS, effExtract, effLen, effMax, effMin, effAppend, ef_clo, ef_make, ef_slice, ef_slice0, ef_sliceS, ef_fieldAddr, ef_field, ef_index, ef_indexS, ef_extract, ef_len, ef_max, ef_min, ef_append, toI_int, condS_true, condS_false, execS_some, guardS_tt, guardS_ff, guardS_tf, guardS_ft, guardS_tup, guardD_tup, execD_some, guardD_tt, guardD_ff, guardD_tf, guardD_ft, exitS_some, popTo_blk, popTo_again, popTo_code, putE_some, putE_none, upd_get, upd_same, pickA_true, pickA_false, pickA_bool, binF, unF, FV.isOne, AV.isOne, AV.cellsN, splice, fillA, srcF, bornA, growA, resA, argsE, argsF, List.map_cons, List.map_nil, List.set_cons_zero, List.set_cons_succ, List.getElem?_cons_zero, List.getElem?_cons_succ, List.drop_zero, List.drop_succ_cons, List.take_succ_cons, List.take_zero, List.length_cons, List.length_map, List.length_nil, List.append_nil, List.nil_append, List.cons_append, List.contains_cons, List.contains_nil, Nat.reduceAdd, Nat.reduceSub, Nat.reduceMul, Nat.reduceLT, Nat.reduceLeDiff, Nat.reduceEqDiff, Nat.reduceBEq, Nat.max_def, Nat.zero_add, Nat.add_zero, decide_true, decide_false, reduceIte, Option.getD_some, Option.getD_none, if_true, ite_self, Bool.false_eq_true, reduceCtorEq, Bool.not_true, Bool.not_false, Bool.or_true, Bool.true_or, Bool.and_true, Bool.true_and, Bool.or_false, Bool.false_or, and_true, true_and, and_self, ne_eq, not_false_eq_true, Int.reduceLE, Int.reduceLT, Int.reduceToNat, Int.toNat_natCast, Int.natCast_nonneg, Int.ofNat_lt, H0_at, cellsG_some, mkE_eq, mkE_f, mkE_n, mkH_at, look_cons, look_nil, lookH_cons, lookH_nil, zeros_0, zeros_1, zeros_2, zeros_3, zeros_4, zeros_5, zeros_6, zeros_7, zeros_8, zeros_9, zeros_10, zeros_11, zeros_12, zeros_13, zeros_14, zeros_15, zeros_16, Nat.reduceLeDiff, List.length_set, eq_self, Nat.mul_one, Nat.one_mul, Int.reduceEq, Int.reduceNe, put_S, put_Sn, put_Sa, put_Cs, put_Csn, put_v, put_o, nx_v, nx_o, nx_s, nx_n, pH_S, pH_Sa, pH_n, pH_cs, pH_csn, pH_v, pH_o, oot_1, oot_2, oot_0, Nat.mul_zero, Bool.not_not, beq_self_eq_true, Bool.not_eq_true', Bool.not_eq_false'])
    | (refine condS_splitN (fun hc => ?_) (fun hc => ?_))
    | (refine condS_split (fun hc => ?_) (fun hc => ?_))
    | (refine guardS_splitTN (fun hc => ?_) (fun hc => ?_))
    | (refine guardS_splitFN (fun hc => ?_) (fun hc => ?_))
    | (refine guardD_splitTN (fun hc => ?_) (fun hc => ?_))
    | (refine guardD_splitFN (fun hc => ?_) (fun hc => ?_))
    | (refine guardS_splitT (fun hc => ?_) (fun hc => ?_))
    | (refine guardS_splitF (fun hc => ?_) (fun hc => ?_))
    | (refine guardD_splitT (fun hc => ?_) (fun hc => ?_))
    | (refine guardD_splitF (fun hc => ?_) (fun hc => ?_))
    | (refine callP0 rfl ?_)
    | (refine callD0 rfl ?_))
  refine ax_loopU (S := Nat) 30 [0] [] (fun s => [(3, .f (.int .i64 s))]) (fun s => []) (fun s => s ≤ l.length ∧ ∀ m, m < s → digErr l m = 0) (fun s => l.length - s) (0) [] ?_ ?_ fun s hs => ?_
  · exact ⟨Nat.zero_le _, fe_0⟩
  · refine ⟨rfl, (by first | exact small_0 | exact small_mk rfl | (repeat (first | exact small_0 | exact small_mk rfl | refine small_upd rfl ?_))), rfl, rfl, ?_, ?_⟩ <;> simp (config := { decide := false }) only [Int.natCast_zero, List.map_cons, List.cons_append, List.nil_append, List.append_nil, cellsG_some, so_nil, so_cons, so_same, ElOk, so_ff, so_fs, so_ss, so_pp, so_mm, so_aa, HlOk, upd_get, upd_same, mkE_f, mkE_n, mkH_at, look_cons, look_nil, lookH_cons, lookH_nil, List.contains_cons, List.contains_nil, Nat.reduceEqDiff, Nat.reduceBEq, Nat.reduceLT, Nat.reduceLeDiff, Bool.or_false, Bool.or_true, Bool.false_or, Bool.true_or, Bool.false_eq_true, reduceIte, if_true, and_true, true_and, and_self, reduceCtorEq, Option.isSome_some, Option.isSome_none, List.mem_cons, List.not_mem_nil, or_false, false_or, or_true, true_or, not_false_eq_true, List.map_nil, List.length_nil, putE_some, putE_none, H0, Option.some.injEq, AObj.cells.injEq, exists_eq_left', exists_eq_left, List.length_cons, exists_false, false_and, and_false]
  rename_i hsz
  obtain ⟨hi, hall⟩ := hs
  refine srun_sound 300 _ _ _ _ ?_
  rcases Nat.lt_or_ge s l.length with hlt | hge
  · obtain ⟨x, hx⟩ := get_some hlt
    have h4 := inc64 hlt hl
    have hE := digErr_of hx
    have h2 := lt_t hlt
    have h6 := dec64' hlt hl
    obtain ⟨y, hy, hf⟩ := prev_of hx
    rw [hf] at hE
    clear hf
    unfold leS at hE
    repeat' (first
      | (simp -implicitDefEqProofs only [*, List.getElem?_map, Option.map_some, srun_s, srun_0, st_nil, st_skip, st_seq, st_block, st_blk, st_ret, st_exit, st_cond, st_reg, st_draw, st_opsNil, st_dNil, st_call, st_dCall, st_op, st_opG, st_d, st_dG, st_again, st_loop, ic_move, ic_nilChk, ic_pick, ic_alloc, ic_box, ic_build, ic_buildSlice, ic_load, ic_store, ic_bin, ic_un, ic_isNil, ic_eqS, effEqS, ef_eqS, eqL, eqV, Bool.bne_false, Bool.bne_true, effIsNil, ef_isNil, condS_bit, ic_convInt, ic_convStr, ic_clo, ic_makeSlice, ic_slice, ic_slice0, ic_sliceS, ic_fieldAddr, ic_field, ic_indexAddr, ic_indexS, ic_extract, ic_len, ic_maxI, ic_minI, ic_append, ev_tmp, ev_func, ev_int, ev_bool, ev_str, ev_nil, ev_ptr, ev_map, ev_agg, of_int, of_bool, of_str, of_nil, of_ptr, ex_pure, ex_rd, ex_md, ex_rm, ex_new, rdX_some, mdX_some, newX_none, alive_some, cellsOf_some, rds_pure, rds_rd, rds_md, rds_rm, rds_new, wrs_pure, wrs_rd, wrs_md, wrs_rm, wrs_new, noConf_nil, noConf_cons, fpOk, disj_nil, disj_cons, addFp_nil, addFp_cons, effNil, effPick, effBox, effBuild, effBuildS, effLoad, effStore, fvX, effBin, effUn, effConvInt, effConvStr, ef_move, ef_nil, ef_pick, ef_alloc, ef_box, ef_build, ef_buildS, ef_load, ef_store, ef_bin, ef_un, ef_convInt, ef_convStr, effClo, effMake, boundsV, bounds_v, effSlice, effSlice0, effSliceS, effFieldAddr, effField, effIndex, effIndexS, effExtract, effLen, effMax, effMin, effAppend, ef_clo, ef_make, ef_slice, ef_slice0, ef_sliceS, ef_fieldAddr, ef_field, ef_index, ef_indexS, ef_extract, ef_len, ef_max, ef_min, ef_append, toI_int, condS_true, condS_false, execS_some, guardS_tt, guardS_ff, guardS_tf, guardS_ft, guardS_tup, guardD_tup, execD_some, guardD_tt, guardD_ff, guardD_tf, guardD_ft, exitS_some, popTo_blk, popTo_again, popTo_code, putE_some, putE_none, upd_get, upd_same, pickA_true, pickA_false, pickA_bool, binF, unF, FV.isOne, AV.isOne, AV.cellsN, splice, fillA, srcF, bornA, growA, resA, argsE, argsF, List.map_cons, List.map_nil, List.set_cons_zero, List.set_cons_succ, List.getElem?_cons_zero, List.getElem?_cons_succ, List.drop_zero, List.drop_succ_cons, List.take_succ_cons, List.take_zero, List.length_cons, List.length_map, List.length_nil, List.append_nil, List.nil_append, List.cons_append, List.contains_cons, List.contains_nil, Nat.reduceAdd, Nat.reduceSub, Nat.reduceMul, Nat.reduceLT, Nat.reduceLeDiff, Nat.reduceEqDiff, Nat.reduceBEq, Nat.max_def, Nat.zero_add, Nat.add_zero, decide_true, decide_false, reduceIte, Option.getD_some, Option.getD_none, if_true, ite_self, Bool.false_eq_true, reduceCtorEq, Bool.not_true, Bool.not_false, Bool.or_true, Bool.true_or, Bool.and_true, Bool.true_and, Bool.or_false, Bool.false_or, and_true, true_and, and_self, ne_eq, not_false_eq_true, Int.reduceLE, Int.reduceLT, Int.reduceToNat, Int.toNat_natCast, Int.natCast_nonneg, Int.ofNat_lt, H0_at, cellsG_some, mkE_eq, mkE_f, mkE_n, mkH_at, look_cons, look_nil, lookH_cons, lookH_nil, zeros_0, zeros_1, zeros_2, zeros_3, zeros_4, zeros_5, zeros_6, zeros_7, zeros_8, zeros_9, zeros_10, zeros_11, zeros_12, zeros_13, zeros_14, zeros_15, zeros_16, Nat.reduceLeDiff, List.length_set, eq_self, Nat.mul_one, Nat.one_mul, Int.reduceEq, Int.reduceNe, put_S, put_Sn, put_Sa, put_Cs, put_Csn, put_v, put_o, nx_v, nx_o, nx_s, nx_n, pH_S, pH_Sa, pH_n, pH_cs, pH_csn, pH_v, pH_o, oot_1, oot_2, oot_0, Nat.mul_zero, Bool.not_not, beq_self_eq_true, Bool.not_eq_true', Bool.not_eq_false'])
      | (refine condS_splitN (fun hc => ?_) (fun hc => ?_))
      | (refine condS_split (fun hc => ?_) (fun hc => ?_))
      | (refine guardS_splitTN (fun hc => ?_) (fun hc => ?_))
      | (refine guardS_splitFN (fun hc => ?_) (fun hc => ?_))
      | (refine guardD_splitTN (fun hc => ?_) (fun hc => ?_))
      | (refine guardD_splitFN (fun hc => ?_) (fun hc => ?_))
      | (refine guardS_splitT (fun hc => ?_) (fun hc => ?_))
      | (refine guardS_splitF (fun hc => ?_) (fun hc => ?_))
      | (refine guardD_splitT (fun hc => ?_) (fun hc => ?_))
      | (refine guardD_splitF (fun hc => ?_) (fun hc => ?_))
      | (refine callP0 rfl ?_)
      | (refine callD0 rfl ?_)
      | (refine callP rfl (isDigestR_f x (hsz x (List.mem_of_getElem? hx))) rfl (by first | exact LeL.refl _ | (repeat (first | exact LeL.refl _ | exact LeA.refl _ | exact LeA.nil _ | refine LeL.cons ?_ ?_ | refine LeA.agg ?_))) rfl (by first | exact free_0 | exact free_mk rfl | (repeat (first | exact free_0 | exact free_mk rfl | refine free_upd rfl ?_))) ?_)
      | (refine callD rfl (isDigestR_f x (hsz x (List.mem_of_getElem? hx))) rfl (by first | exact LeL.refl _ | (repeat (first | exact LeL.refl _ | exact LeA.refl _ | exact LeA.nil _ | refine LeL.cons ?_ ?_ | refine LeA.agg ?_))) rfl rfl ?_))
    all_goals simp only [*, if_true, if_false, Bool.false_eq_true] at hE
    all_goals first
      | exact ret_ve (by rw [ckDigs, fe_hit hall hlt (by rw [hE]; decide), hE])
      | (refine ⟨s + 1, ⟨hlt, fe_step hall hE⟩, by omega, ?_⟩; refine ⟨rfl, (by first | exact small_0 | exact small_mk rfl | (repeat (first | exact small_0 | exact small_mk rfl | refine small_upd rfl ?_))), rfl, rfl, ?_, ?_⟩ <;> simp (config := { decide := false }) only [Int.natCast_zero, List.map_cons, List.cons_append, List.nil_append, List.append_nil, cellsG_some, so_nil, so_cons, so_same, ElOk, so_ff, so_fs, so_ss, so_pp, so_mm, so_aa, HlOk, upd_get, upd_same, mkE_f, mkE_n, mkH_at, look_cons, look_nil, lookH_cons, lookH_nil, List.contains_cons, List.contains_nil, Nat.reduceEqDiff, Nat.reduceBEq, Nat.reduceLT, Nat.reduceLeDiff, Bool.or_false, Bool.or_true, Bool.false_or, Bool.true_or, Bool.false_eq_true, reduceIte, if_true, and_true, true_and, and_self, reduceCtorEq, Option.isSome_some, Option.isSome_none, List.mem_cons, List.not_mem_nil, or_false, false_or, or_true, true_or, not_false_eq_true, List.map_nil, List.length_nil, putE_some, putE_none, H0, Option.some.injEq, AObj.cells.injEq, exists_eq_left', exists_eq_left, List.length_cons, exists_false, false_and, and_false])
  · obtain rfl : s = l.length := by omega
    have h2 := lt_f hge
    rw [ckDigs, fe_none hall]
    repeat' (first
      | (simp -implicitDefEqProofs only [*, srun_s, srun_0, st_nil, st_skip, st_seq, st_block, st_blk, st_ret, st_exit, st_cond, st_reg, st_draw, st_opsNil, st_dNil, st_call, st_dCall, st_op, st_opG, st_d, st_dG, st_again, st_loop, ic_move, ic_nilChk, ic_pick, ic_alloc, ic_box, ic_build, ic_buildSlice, ic_load, ic_store, ic_bin, ic_un, ic_isNil, ic_eqS, effEqS, ef_eqS, eqL, eqV, Bool.bne_false, Bool.bne_true, effIsNil, ef_isNil, condS_bit, ic_convInt, ic_convStr, ic_clo, ic_makeSlice, ic_slice, ic_slice0, ic_sliceS, ic_fieldAddr, ic_field, ic_indexAddr, ic_indexS, ic_extract, ic_len, ic_maxI, ic_minI, ic_append, ev_tmp, ev_func, ev_int, ev_bool, ev_str, ev_nil, ev_ptr, ev_map, ev_agg, of_int, of_bool, of_str, of_nil, of_ptr, ex_pure, ex_rd, ex_md, ex_rm, ex_new, rdX_some, mdX_some, newX_none, alive_some, cellsOf_some, rds_pure, rds_rd, rds_md, rds_rm, rds_new, wrs_pure, wrs_rd, wrs_md, wrs_rm, wrs_new, noConf_nil, noConf_cons, fpOk, disj_nil, disj_cons, addFp_nil, addFp_cons, effNil, effPick, effBox, effBuild, effBuildS, effLoad, effStore, fvX, effBin, effUn, effConvInt, effConvStr, ef_move, ef_nil, ef_pick, ef_alloc, ef_box, ef_build, ef_buildS, ef_load, ef_store, ef_bin, ef_un, ef_convInt, ef_convStr, effClo, effMake, boundsV, bounds_v, effSlice, effSlice0, effSliceS, effFieldAddr, effField, effIndex, effIndexS, effExtract, effLen, effMax, effMin, effAppend, ef_clo, ef_make, ef_slice, ef_slice0, ef_sliceS, ef_fieldAddr, ef_field, ef_index, ef_indexS, ef_extract, ef_len, ef_max, ef_min, ef_append, toI_int, condS_true, condS_false, execS_some, guardS_tt, guardS_ff, guardS_tf, guardS_ft, guardS_tup, guardD_tup, execD_some, guardD_tt, guardD_ff, guardD_tf, guardD_ft, exitS_some, popTo_blk, popTo_again, popTo_code, putE_some, putE_none, upd_get, upd_same, pickA_true, pickA_false, pickA_bool, binF, unF, FV.isOne, AV.isOne, AV.cellsN, splice, fillA, srcF, bornA, growA, resA, argsE, argsF, List.map_cons, List.map_nil, List.set_cons_zero, List.set_cons_succ, List.getElem?_cons_zero, List.getElem?_cons_succ, List.drop_zero, List.drop_succ_cons, List.take_succ_cons, List.take_zero, List.length_cons, List.length_map, List.length_nil, List.append_nil, List.nil_append, List.cons_append, List.contains_cons, List.contains_nil, Nat.reduceAdd, Nat.reduceSub, Nat.reduceMul, Nat.reduceLT, Nat.reduceLeDiff, Nat.reduceEqDiff, Nat.reduceBEq, Nat.max_def, Nat.zero_add, Nat.add_zero, decide_true, decide_false, reduceIte, Option.getD_some, Option.getD_none, if_true, ite_self, Bool.false_eq_true, reduceCtorEq, Bool.not_true, Bool.not_false, Bool.or_true, Bool.true_or, Bool.and_true, Bool.true_and, Bool.or_false, Bool.false_or, and_true, true_and, and_self, ne_eq, not_false_eq_true, Int.reduceLE, Int.reduceLT, Int.reduceToNat, Int.toNat_natCast, Int.natCast_nonneg, Int.ofNat_lt, H0_at, cellsG_some, mkE_eq, mkE_f, mkE_n, mkH_at, look_cons, look_nil, lookH_cons, lookH_nil, zeros_0, zeros_1, zeros_2, zeros_3, zeros_4, zeros_5, zeros_6, zeros_7, zeros_8, zeros_9, zeros_10, zeros_11, zeros_12, zeros_13, zeros_14, zeros_15, zeros_16, Nat.reduceLeDiff, List.length_set, eq_self, Nat.mul_one, Nat.one_mul, Int.reduceEq, Int.reduceNe, put_S, put_Sn, put_Sa, put_Cs, put_Csn, put_v, put_o, nx_v, nx_o, nx_s, nx_n, pH_S, pH_Sa, pH_n, pH_cs, pH_csn, pH_v, pH_o, oot_1, oot_2, oot_0, Nat.mul_zero, Bool.not_not, beq_self_eq_true, Bool.not_eq_true', Bool.not_eq_false'])
      | (refine condS_splitN (fun hc => ?_) (fun hc => ?_))
      | (refine condS_split (fun hc => ?_) (fun hc => ?_))
      | (refine guardS_splitTN (fun hc => ?_) (fun hc => ?_))
      | (refine guardS_splitFN (fun hc => ?_) (fun hc => ?_))
      | (refine guardD_splitTN (fun hc => ?_) (fun hc => ?_))
      | (refine guardD_splitFN (fun hc => ?_) (fun hc => ?_))
      | (refine guardS_splitT (fun hc => ?_) (fun hc => ?_))
      | (refine guardS_splitF (fun hc => ?_) (fun hc => ?_))
      | (refine guardD_splitT (fun hc => ?_) (fun hc => ?_))
      | (refine guardD_splitF (fun hc => ?_) (fun hc => ?_))
      | (refine callP0 rfl ?_)
      | (refine callD0 rfl ?_))
    exact ret_v
theorem bytesOf_f (bl : List Blob) (hb : (bl.length : Int) ≤ 9223372036854775807) : FRet Tryd.prog 31 [.f (frBlobs bl)] [.c (.v (.int .i64 (wsum bl)))] := by
  refine FCall.of_ax low_ref7_bytesOf ?_
  dsimp only [l_ref7_bytesOf, frBlobs]
  refine srun_sound 300 _ _ _ _ ?_
  repeat' (first
    | (simp -implicitDefEqProofs only [*, srun_s, srun_0, st_nil, st_skip, st_seq, st_block, st_blk, st_ret, st_exit, st_cond, st_reg, st_draw, st_opsNil, st_dNil, st_call, st_dCall, st_op, st_opG, st_d, st_dG, st_again, st_loop, ic_move, ic_nilChk, ic_pick, ic_alloc, ic_box, ic_build, ic_buildSlice, ic_load, ic_store, ic_bin, ic_un, ic_isNil, ic_eqS, effEqS, ef_eqS, eqL, eqV, Bool.bne_false, Bool.bne_true, effIsNil, ef_isNil, condS_bit, ic_convInt, ic_convStr, ic_clo, ic_makeSlice, ic_slice, ic_slice0, ic_sliceS, ic_fieldAddr, ic_field, ic_indexAddr, ic_indexS, ic_extract, ic_len, ic_maxI, ic_minI, ic_append, ev_tmp, ev_func, ev_int, ev_bool, ev_str, ev_nil, ev_ptr, ev_map, ev_agg, of_int, of_bool, of_str, of_nil, of_ptr, ex_pure, ex_rd, ex_md, ex_rm, ex_new, rdX_some, mdX_some, newX_none, alive_some, cellsOf_some, rds_pure, rds_rd, rds_md, rds_rm, rds_new, wrs_pure, wrs_rd, wrs_md, wrs_rm, wrs_new, noConf_nil, noConf_cons, fpOk, disj_nil, disj_cons, addFp_nil, addFp_cons, effNil, effPick, effBox, effBuild, effBuildS, effLoad, effStore, fvX, effBin, effUn, effConvInt, effConvStr, ef_move, ef_nil, ef_pick, ef_alloc, ef_box, ef_build, ef_buildS, ef_load, ef_store, ef_bin, ef_un, ef_convInt, ef_convStr, effClo, effMake, boundsV, bounds_v, effSlice, effSlice0, effSliceS, effFieldAddr, effField, effIndex, effIndexS, effExtract, effLen, effMax, effMin, effAppend, ef_clo, ef_make, ef_slice, ef_slice0, ef_sliceS, ef_fieldAddr, ef_field, ef_index, ef_indexS, ef_extract, ef_len, ef_max, ef_min, ef_append, toI_int, condS_true, condS_false, execS_some, guardS_tt, guardS_ff, guardS_tf, guardS_ft, guardS_tup, guardD_tup, execD_some, guardD_tt, guardD_ff, guardD_tf, guardD_ft, exitS_some, popTo_blk, popTo_again, popTo_code, putE_some, putE_none, upd_get, upd_same, pickA_true, pickA_false, pickA_bool, binF, unF, FV.isOne, AV.isOne, AV.cellsN, splice, fillA, srcF, bornA, growA, resA, argsE, argsF, List.map_cons, List.map_nil, List.set_cons_zero, List.set_cons_succ, List.getElem?_cons_zero, List.getElem?_cons_succ, List.drop_zero, List.drop_succ_cons, List.take_succ_cons, List.take_zero, List.length_cons, List.length_map, List.length_nil, List.append_nil, List.nil_append, List.cons_append, List.contains_cons, List.contains_nil, Nat.reduceAdd, Nat.reduceSub, Nat.reduceMul, Nat.reduceLT, Nat.reduceLeDiff, Nat.reduceEqDiff, Nat.reduceBEq, Nat.max_def, Nat.zero_add, Nat.add_zero, decide_true, decide_false, reduceIte, Option.getD_some, Option.getD_none, if_true, ite_self, Bool.false_eq_true, reduceCtorEq, Bool.not_true, Bool.not_false, Bool.or_true, Bool.true_or, Bool.and_true, Bool.true_and, Bool.or_false, Bool.false_or, and_true, true_and, and_self, ne_eq, not_false_eq_true, Int.reduceLE, Int.reduceLT, Int.reduceToNat, Int.toNat_natCast, Int.natCast_nonneg, Int.ofNat_lt, H0_at, cellsG_some, mkE_eq, mkE_f, mkE_n, mkH_at, look_cons, look_nil, lookH_cons, lookH_nil, zeros_0, zeros_1, zeros_2, zeros_3, zeros_4, zeros_5, zeros_6, zeros_7, zeros_8, zeros_9, zeros_10, zeros_11, zeros_12, zeros_13, zeros_14, zeros_15, zeros_16, Nat.reduceLeDiff, List.length_set, eq_self, Nat.mul_one, Nat.one_mul, Int.reduceEq, Int.reduceNe, put_S, put_Sn, put_Sa, put_Cs, put_Csn, put_v, put_o, nx_v, nx_o, nx_s, nx_n, pH_S, pH_Sa, pH_n, pH_cs, pH_csn, pH_v, pH_o, oot_1, oot_2, oot_0, Nat.mul_zero, Bool.not_not, beq_self_eq_true, Bool.not_eq_true', Bool.not_eq_false'])
    | (refine condS_splitN (fun hc => ?_) (fun hc => ?_))
    | (refine condS_split (fun hc => ?_) (fun hc => ?_))
    | (refine guardS_splitTN (fun hc => ?_) (fun hc => ?_))
    | (refine guardS_splitFN (fun hc => ?_) (fun hc => ?_))
    | (refine guardD_splitTN (fun hc => ?_) (fun hc => ?_))
    | (refine guardD_splitFN (fun hc => ?_) (fun hc => ?_))
    | (refine guardS_splitT (fun hc => ?_) (fun hc => ?_))
    | (refine guardS_splitF (fun hc => ?_) (fun hc => ?_))
    | (refine guardD_splitT (fun hc => ?_) (fun hc => ?_))
    | (refine guardD_splitF (fun hc => ?_) (fun hc => ?_))
    | (refine callP0 rfl ?_)
    | (refine callD0 rfl ?_))
  refine ax_loopU (S := Nat) 19 [0] [] (fun s => [(4, .f (.int .i64 s)), (3, .f (.int .i64 (wsum (bl.take s))))]) (fun s => []) (fun s => s ≤ bl.length) (fun s => bl.length - s) (0) [] ?_ ?_ fun s hs => ?_
  · exact Nat.zero_le _
  · refine ⟨rfl, (by first | exact small_0 | exact small_mk rfl | (repeat (first | exact small_0 | exact small_mk rfl | refine small_upd rfl ?_))), rfl, rfl, ?_, ?_⟩ <;> simp (config := { decide := false }) only [List.take_zero, wsum_nil, Int.natCast_zero, List.map_cons, List.cons_append, List.nil_append, List.append_nil, cellsG_some, so_nil, so_cons, so_same, ElOk, so_ff, so_fs, so_ss, so_pp, so_mm, so_aa, HlOk, upd_get, upd_same, mkE_f, mkE_n, mkH_at, look_cons, look_nil, lookH_cons, lookH_nil, List.contains_cons, List.contains_nil, Nat.reduceEqDiff, Nat.reduceBEq, Nat.reduceLT, Nat.reduceLeDiff, Bool.or_false, Bool.or_true, Bool.false_or, Bool.true_or, Bool.false_eq_true, reduceIte, if_true, and_true, true_and, and_self, reduceCtorEq, Option.isSome_some, Option.isSome_none, List.mem_cons, List.not_mem_nil, or_false, false_or, or_true, true_or, not_false_eq_true, List.map_nil, List.length_nil, putE_some, putE_none, H0, Option.some.injEq, AObj.cells.injEq, exists_eq_left', exists_eq_left, List.length_cons, exists_false, false_and, and_false]
  refine srun_sound 300 _ _ _ _ ?_
  rcases Nat.lt_or_ge s bl.length with hlt | hge
  · obtain ⟨x, hx⟩ := get_some hlt
    have h4 := inc64 hlt hb
    have h2 := lt_t hlt
    have hsum := (wsum_snoc hx).symm
    obtain ⟨xd, xs, xu, xn, xp⟩ := x
    simp only at hsum
    repeat' (first
      | (simp -implicitDefEqProofs only [*, List.getElem?_map, Option.map_some, fBlob, srun_s, srun_0, st_nil, st_skip, st_seq, st_block, st_blk, st_ret, st_exit, st_cond, st_reg, st_draw, st_opsNil, st_dNil, st_call, st_dCall, st_op, st_opG, st_d, st_dG, st_again, st_loop, ic_move, ic_nilChk, ic_pick, ic_alloc, ic_box, ic_build, ic_buildSlice, ic_load, ic_store, ic_bin, ic_un, ic_isNil, ic_eqS, effEqS, ef_eqS, eqL, eqV, Bool.bne_false, Bool.bne_true, effIsNil, ef_isNil, condS_bit, ic_convInt, ic_convStr, ic_clo, ic_makeSlice, ic_slice, ic_slice0, ic_sliceS, ic_fieldAddr, ic_field, ic_indexAddr, ic_indexS, ic_extract, ic_len, ic_maxI, ic_minI, ic_append, ev_tmp, ev_func, ev_int, ev_bool, ev_str, ev_nil, ev_ptr, ev_map, ev_agg, of_int, of_bool, of_str, of_nil, of_ptr, ex_pure, ex_rd, ex_md, ex_rm, ex_new, rdX_some, mdX_some, newX_none, alive_some, cellsOf_some, rds_pure, rds_rd, rds_md, rds_rm, rds_new, wrs_pure, wrs_rd, wrs_md, wrs_rm, wrs_new, noConf_nil, noConf_cons, fpOk, disj_nil, disj_cons, addFp_nil, addFp_cons, effNil, effPick, effBox, effBuild, effBuildS, effLoad, effStore, fvX, effBin, effUn, effConvInt, effConvStr, ef_move, ef_nil, ef_pick, ef_alloc, ef_box, ef_build, ef_buildS, ef_load, ef_store, ef_bin, ef_un, ef_convInt, ef_convStr, effClo, effMake, boundsV, bounds_v, effSlice, effSlice0, effSliceS, effFieldAddr, effField, effIndex, effIndexS, effExtract, effLen, effMax, effMin, effAppend, ef_clo, ef_make, ef_slice, ef_slice0, ef_sliceS, ef_fieldAddr, ef_field, ef_index, ef_indexS, ef_extract, ef_len, ef_max, ef_min, ef_append, toI_int, condS_true, condS_false, execS_some, guardS_tt, guardS_ff, guardS_tf, guardS_ft, guardS_tup, guardD_tup, execD_some, guardD_tt, guardD_ff, guardD_tf, guardD_ft, exitS_some, popTo_blk, popTo_again, popTo_code, putE_some, putE_none, upd_get, upd_same, pickA_true, pickA_false, pickA_bool, binF, unF, FV.isOne, AV.isOne, AV.cellsN, splice, fillA, srcF, bornA, growA, resA, argsE, argsF, List.map_cons, List.map_nil, List.set_cons_zero, List.set_cons_succ, List.getElem?_cons_zero, List.getElem?_cons_succ, List.drop_zero, List.drop_succ_cons, List.take_succ_cons, List.take_zero, List.length_cons, List.length_map, List.length_nil, List.append_nil, List.nil_append, List.cons_append, List.contains_cons, List.contains_nil, Nat.reduceAdd, Nat.reduceSub, Nat.reduceMul, Nat.reduceLT, Nat.reduceLeDiff, Nat.reduceEqDiff, Nat.reduceBEq, Nat.max_def, Nat.zero_add, Nat.add_zero, decide_true, decide_false, reduceIte, Option.getD_some, Option.getD_none, if_true, ite_self, Bool.false_eq_true, reduceCtorEq, Bool.not_true, Bool.not_false, Bool.or_true, Bool.true_or, Bool.and_true, Bool.true_and, Bool.or_false, Bool.false_or, and_true, true_and, and_self, ne_eq, not_false_eq_true, Int.reduceLE, Int.reduceLT, Int.reduceToNat, Int.toNat_natCast, Int.natCast_nonneg, Int.ofNat_lt, H0_at, cellsG_some, mkE_eq, mkE_f, mkE_n, mkH_at, look_cons, look_nil, lookH_cons, lookH_nil, zeros_0, zeros_1, zeros_2, zeros_3, zeros_4, zeros_5, zeros_6, zeros_7, zeros_8, zeros_9, zeros_10, zeros_11, zeros_12, zeros_13, zeros_14, zeros_15, zeros_16, Nat.reduceLeDiff, List.length_set, eq_self, Nat.mul_one, Nat.one_mul, Int.reduceEq, Int.reduceNe, put_S, put_Sn, put_Sa, put_Cs, put_Csn, put_v, put_o, nx_v, nx_o, nx_s, nx_n, pH_S, pH_Sa, pH_n, pH_cs, pH_csn, pH_v, pH_o, oot_1, oot_2, oot_0, Nat.mul_zero, Bool.not_not, beq_self_eq_true, Bool.not_eq_true', Bool.not_eq_false'])
      | (refine condS_splitN (fun hc => ?_) (fun hc => ?_))
      | (refine condS_split (fun hc => ?_) (fun hc => ?_))
      | (refine guardS_splitTN (fun hc => ?_) (fun hc => ?_))
      | (refine guardS_splitFN (fun hc => ?_) (fun hc => ?_))
      | (refine guardD_splitTN (fun hc => ?_) (fun hc => ?_))
      | (refine guardD_splitFN (fun hc => ?_) (fun hc => ?_))
      | (refine guardS_splitT (fun hc => ?_) (fun hc => ?_))
      | (refine guardS_splitF (fun hc => ?_) (fun hc => ?_))
      | (refine guardD_splitT (fun hc => ?_) (fun hc => ?_))
      | (refine guardD_splitF (fun hc => ?_) (fun hc => ?_))
      | (refine callP0 rfl ?_)
      | (refine callD0 rfl ?_))
    refine ⟨s + 1, hlt, by omega, ?_⟩
    refine ⟨rfl, (by first | exact small_0 | exact small_mk rfl | (repeat (first | exact small_0 | exact small_mk rfl | refine small_upd rfl ?_))), rfl, rfl, ?_, ?_⟩ <;> simp (config := { decide := false }) only [Int.natCast_zero, List.map_cons, List.cons_append, List.nil_append, List.append_nil, cellsG_some, so_nil, so_cons, so_same, ElOk, so_ff, so_fs, so_ss, so_pp, so_mm, so_aa, HlOk, upd_get, upd_same, mkE_f, mkE_n, mkH_at, look_cons, look_nil, lookH_cons, lookH_nil, List.contains_cons, List.contains_nil, Nat.reduceEqDiff, Nat.reduceBEq, Nat.reduceLT, Nat.reduceLeDiff, Bool.or_false, Bool.or_true, Bool.false_or, Bool.true_or, Bool.false_eq_true, reduceIte, if_true, and_true, true_and, and_self, reduceCtorEq, Option.isSome_some, Option.isSome_none, List.mem_cons, List.not_mem_nil, or_false, false_or, or_true, true_or, not_false_eq_true, List.map_nil, List.length_nil, putE_some, putE_none, H0, Option.some.injEq, AObj.cells.injEq, exists_eq_left', exists_eq_left, List.length_cons, exists_false, false_and, and_false]
  · obtain rfl : s = bl.length := by omega
    have h2 := lt_f hge
    have h3 := List.take_length (l := bl)
    repeat' (first
      | (simp -implicitDefEqProofs only [*, srun_s, srun_0, st_nil, st_skip, st_seq, st_block, st_blk, st_ret, st_exit, st_cond, st_reg, st_draw, st_opsNil, st_dNil, st_call, st_dCall, st_op, st_opG, st_d, st_dG, st_again, st_loop, ic_move, ic_nilChk, ic_pick, ic_alloc, ic_box, ic_build, ic_buildSlice, ic_load, ic_store, ic_bin, ic_un, ic_isNil, ic_eqS, effEqS, ef_eqS, eqL, eqV, Bool.bne_false, Bool.bne_true, effIsNil, ef_isNil, condS_bit, ic_convInt, ic_convStr, ic_clo, ic_makeSlice, ic_slice, ic_slice0, ic_sliceS, ic_fieldAddr, ic_field, ic_indexAddr, ic_indexS, ic_extract, ic_len, ic_maxI, ic_minI, ic_append, ev_tmp, ev_func, ev_int, ev_bool, ev_str, ev_nil, ev_ptr, ev_map, ev_agg, of_int, of_bool, of_str, of_nil, of_ptr, ex_pure, ex_rd, ex_md, ex_rm, ex_new, rdX_some, mdX_some, newX_none, alive_some, cellsOf_some, rds_pure, rds_rd, rds_md, rds_rm, rds_new, wrs_pure, wrs_rd, wrs_md, wrs_rm, wrs_new, noConf_nil, noConf_cons, fpOk, disj_nil, disj_cons, addFp_nil, addFp_cons, effNil, effPick, effBox, effBuild, effBuildS, effLoad, effStore, fvX, effBin, effUn, effConvInt, effConvStr, ef_move, ef_nil, ef_pick, ef_alloc, ef_box, ef_build, ef_buildS, ef_load, ef_store, ef_bin, ef_un, ef_convInt, ef_convStr, effClo, effMake, boundsV, bounds_v, effSlice, effSlice0, effSliceS, effFieldAddr, effField, effIndex, effIndexS, effExtract, effLen, effMax, effMin, effAppend, ef_clo, ef_make, ef_slice, ef_slice0, ef_sliceS, ef_fieldAddr, ef_field, ef_index, ef_indexS, ef_extract, ef_len, ef_max, ef_min, ef_append, toI_int, condS_true, condS_false, execS_some, guardS_tt, guardS_ff, guardS_tf, guardS_ft, guardS_tup, guardD_tup, execD_some, guardD_tt, guardD_ff, guardD_tf, guardD_ft, exitS_some, popTo_blk, popTo_again, popTo_code, putE_some, putE_none, upd_get, upd_same, pickA_true, pickA_false, pickA_bool, binF, unF, FV.isOne, AV.isOne, AV.cellsN, splice, fillA, srcF, bornA, growA, resA, argsE, argsF, List.map_cons, List.map_nil, List.set_cons_zero, List.set_cons_succ, List.getElem?_cons_zero, List.getElem?_cons_succ, List.drop_zero, List.drop_succ_cons, List.take_succ_cons, List.take_zero, List.length_cons, List.length_map, List.length_nil, List.append_nil, List.nil_append, List.cons_append, List.contains_cons, List.contains_nil, Nat.reduceAdd, Nat.reduceSub, Nat.reduceMul, Nat.reduceLT, Nat.reduceLeDiff, Nat.reduceEqDiff, Nat.reduceBEq, Nat.max_def, Nat.zero_add, Nat.add_zero, decide_true, decide_false, reduceIte, Option.getD_some, Option.getD_none, if_true, ite_self, Bool.false_eq_true, reduceCtorEq, Bool.not_true, Bool.not_false, Bool.or_true, Bool.true_or, Bool.and_true, Bool.true_and, Bool.or_false, Bool.false_or, and_true, true_and, and_self, ne_eq, not_false_eq_true, Int.reduceLE, Int.reduceLT, Int.reduceToNat, Int.toNat_natCast, Int.natCast_nonneg, Int.ofNat_lt, H0_at, cellsG_some, mkE_eq, mkE_f, mkE_n, mkH_at, look_cons, look_nil, lookH_cons, lookH_nil, zeros_0, zeros_1, zeros_2, zeros_3, zeros_4, zeros_5, zeros_6, zeros_7, zeros_8, zeros_9, zeros_10, zeros_11, zeros_12, zeros_13, zeros_14, zeros_15, zeros_16, Nat.reduceLeDiff, List.length_set, eq_self, Nat.mul_one, Nat.one_mul, Int.reduceEq, Int.reduceNe, put_S, put_Sn, put_Sa, put_Cs, put_Csn, put_v, put_o, nx_v, nx_o, nx_s, nx_n, pH_S, pH_Sa, pH_n, pH_cs, pH_csn, pH_v, pH_o, oot_1, oot_2, oot_0, Nat.mul_zero, Bool.not_not, beq_self_eq_true, Bool.not_eq_true', Bool.not_eq_false'])
      | (refine condS_splitN (fun hc => ?_) (fun hc => ?_))
      | (refine condS_split (fun hc => ?_) (fun hc => ?_))
      | (refine guardS_splitTN (fun hc => ?_) (fun hc => ?_))
      | (refine guardS_splitFN (fun hc => ?_) (fun hc => ?_))
      | (refine guardD_splitTN (fun hc => ?_) (fun hc => ?_))
      | (refine guardD_splitFN (fun hc => ?_) (fun hc => ?_))
      | (refine guardS_splitT (fun hc => ?_) (fun hc => ?_))
      | (refine guardS_splitF (fun hc => ?_) (fun hc => ?_))
      | (refine guardD_splitT (fun hc => ?_) (fun hc => ?_))
      | (refine guardD_splitF (fun hc => ?_) (fun hc => ?_))
      | (refine callP0 rfl ?_)
      | (refine callD0 rfl ?_))
    exact ret_v
/-- .. with the sizes of all strings. -/
def SBound (c : Cache) : Prop := CBound c ∧ (∀ b ∈ c.2.2.1, (b.1.size : Int) ≤ 9223372036854775807) ∧ ∀ e ∈ c.2.2.2, (e.1.size : Int) ≤ 9223372036854775807 ∧ ∀ d ∈ e.2.1, (d.size : Int) ≤ 9223372036854775807
set_option maxHeartbeats 1000000 in
theorem CheckCacheR_f (c : Cache) (hb : SBound c) : FRet Tryd.prog 11 [aCache c] [.c (.v (.int .i64 (ckCache c)))] := by
  obtain ⟨room, lease, bl, en⟩ := c
  obtain ⟨⟨hb1, hb2, hb3⟩, hb4, hb5⟩ := hb
  simp only at hb1 hb2 hb3 hb4 hb5
  refine FCall.of_ax low_ref7_CheckCache ?_
  dsimp only [l_ref7_CheckCache, aCache]
  unfold ckCache
  dsimp only
  refine srun_sound 300 _ _ _ _ ?_
  repeat' (first
    | (simp -implicitDefEqProofs only [*, frEntries, frBlobs, frStrs, srun_s, srun_0, st_nil, st_skip, st_seq, st_block, st_blk, st_ret, st_exit, st_cond, st_reg, st_draw, st_opsNil, st_dNil, st_call, st_dCall, st_op, st_opG, st_d, st_dG, st_again, st_loop, ic_move, ic_nilChk, ic_pick, ic_alloc, ic_box, ic_build, ic_buildSlice, ic_load, ic_store, ic_bin, ic_un, ic_isNil, ic_eqS, effEqS, ef_eqS, eqL, eqV, Bool.bne_false, Bool.bne_true, effIsNil, ef_isNil, condS_bit, ic_convInt, ic_convStr, ic_clo, ic_makeSlice, ic_slice, ic_slice0, ic_sliceS, ic_fieldAddr, ic_field, ic_indexAddr, ic_indexS, ic_extract, ic_len, ic_maxI, ic_minI, ic_append, ev_tmp, ev_func, ev_int, ev_bool, ev_str, ev_nil, ev_ptr, ev_map, ev_agg, of_int, of_bool, of_str, of_nil, of_ptr, ex_pure, ex_rd, ex_md, ex_rm, ex_new, rdX_some, mdX_some, newX_none, alive_some, cellsOf_some, rds_pure, rds_rd, rds_md, rds_rm, rds_new, wrs_pure, wrs_rd, wrs_md, wrs_rm, wrs_new, noConf_nil, noConf_cons, fpOk, disj_nil, disj_cons, addFp_nil, addFp_cons, effNil, effPick, effBox, effBuild, effBuildS, effLoad, effStore, fvX, effBin, effUn, effConvInt, effConvStr, ef_move, ef_nil, ef_pick, ef_alloc, ef_box, ef_build, ef_buildS, ef_load, ef_store, ef_bin, ef_un, ef_convInt, ef_convStr, effClo, effMake, boundsV, bounds_v, effSlice, effSlice0, effSliceS, effFieldAddr, effField, effIndex, effIndexS, effExtract, effLen, effMax, effMin, effAppend, ef_clo, ef_make, ef_slice, ef_slice0, ef_sliceS, ef_fieldAddr, ef_field, ef_index, ef_indexS, ef_extract, ef_len, ef_max, ef_min, ef_append, toI_int, condS_true, condS_false, execS_some, guardS_tt, guardS_ff, guardS_tf, guardS_ft, guardS_tup, guardD_tup, execD_some, guardD_tt, guardD_ff, guardD_tf, guardD_ft, exitS_some, popTo_blk, popTo_again, popTo_code, putE_some, putE_none, upd_get, upd_same, pickA_true, pickA_false, pickA_bool, binF, unF, FV.isOne, AV.isOne, AV.cellsN, splice, fillA, srcF, bornA, growA, resA, argsE, argsF, List.map_cons, List.map_nil, List.set_cons_zero, List.set_cons_succ, List.getElem?_cons_zero, List.getElem?_cons_succ, List.drop_zero, List.drop_succ_cons, List.take_succ_cons, List.take_zero, List.length_cons, List.length_map, List.length_nil, List.append_nil, List.nil_append, List.cons_append, List.contains_cons, List.contains_nil, Nat.reduceAdd, Nat.reduceSub, Nat.reduceMul, Nat.reduceLT, Nat.reduceLeDiff, Nat.reduceEqDiff, Nat.reduceBEq, Nat.max_def, Nat.zero_add, Nat.add_zero, decide_true, decide_false, reduceIte, Option.getD_some, Option.getD_none, if_true, ite_self, Bool.false_eq_true, reduceCtorEq, Bool.not_true, Bool.not_false, Bool.or_true, Bool.true_or, Bool.and_true, Bool.true_and, Bool.or_false, Bool.false_or, and_true, true_and, and_self, ne_eq, not_false_eq_true, Int.reduceLE, Int.reduceLT, Int.reduceToNat, Int.toNat_natCast, Int.natCast_nonneg, Int.ofNat_lt, H0_at, cellsG_some, mkE_eq, mkE_f, mkE_n, mkH_at, look_cons, look_nil, lookH_cons, lookH_nil, zeros_0, zeros_1, zeros_2, zeros_3, zeros_4, zeros_5, zeros_6, zeros_7, zeros_8, zeros_9, zeros_10, zeros_11, zeros_12, zeros_13, zeros_14, zeros_15, zeros_16, Nat.reduceLeDiff, List.length_set, eq_self, Nat.mul_one, Nat.one_mul, Int.reduceEq, Int.reduceNe, put_S, put_Sn, put_Sa, put_Cs, put_Csn, put_v, put_o, nx_v, nx_o, nx_s, nx_n, pH_S, pH_Sa, pH_n, pH_cs, pH_csn, pH_v, pH_o, oot_1, oot_2, oot_0, Nat.mul_zero, Bool.not_not, beq_self_eq_true, Bool.not_eq_true', Bool.not_eq_false'])
    | (refine condS_splitN (fun hc => ?_) (fun hc => ?_))
    | (refine condS_split (fun hc => ?_) (fun hc => ?_))
    | (refine guardS_splitTN (fun hc => ?_) (fun hc => ?_))
    | (refine guardS_splitFN (fun hc => ?_) (fun hc => ?_))
    | (refine guardD_splitTN (fun hc => ?_) (fun hc => ?_))
    | (refine guardD_splitFN (fun hc => ?_) (fun hc => ?_))
    | (refine guardS_splitT (fun hc => ?_) (fun hc => ?_))
    | (refine guardS_splitF (fun hc => ?_) (fun hc => ?_))
    | (refine guardD_splitT (fun hc => ?_) (fun hc => ?_))
    | (refine guardD_splitF (fun hc => ?_) (fun hc => ?_))
    | (refine callP0 rfl ?_)
    | (refine callD0 rfl ?_)
    | (refine callP rfl (withinR_f _ _ _) rfl (by first | exact LeL.refl _ | (repeat (first | exact LeL.refl _ | exact LeA.refl _ | exact LeA.nil _ | refine LeL.cons ?_ ?_ | refine LeA.agg ?_))) rfl (by first | exact free_0 | exact free_mk rfl | (repeat (first | exact free_0 | exact free_mk rfl | refine free_upd rfl ?_))) ?_)
    | (refine callD rfl (withinR_f _ _ _) rfl (by first | exact LeL.refl _ | (repeat (first | exact LeL.refl _ | exact LeA.refl _ | exact LeA.nil _ | refine LeL.cons ?_ ?_ | refine LeA.agg ?_))) rfl rfl ?_))
  all_goals try (refine ret_ve ?_; simp only [*, Int.reduceEq, Int.reduceNe, if_true, if_false, ne_eq, not_true_eq_false, not_false_eq_true, reduceIte, Bool.false_eq_true, Bool.true_and, Bool.and_true, Bool.false_and, Bool.and_false, Bool.not_true, Bool.not_false, Bool.true_or, Bool.or_true, Bool.false_or, Bool.or_false, decide_true, decide_false, reduceCtorEq]; done)
  · refine ret_ve ?_
    rw [ckBlobs, if_pos (of_decide_eq_true hc)]; rfl
  have h3000 := of_decide_eq_false hc
  refine ax_loopU (S := Nat) 128 [1] [1] (fun s => [(3, .f (.int .i64 s))]) (fun s => []) (fun s => s ≤ bl.length ∧ ∀ m, m < s → blobErr bl m = 0) (fun s => bl.length - s) (0) [] ?_ ?_ fun s hs => ?_
  · exact ⟨Nat.zero_le _, fe_0⟩
  · refine ⟨rfl, (by first | exact small_0 | exact small_mk rfl | (repeat (first | exact small_0 | exact small_mk rfl | refine small_upd rfl ?_))), rfl, rfl, ?_, ?_⟩ <;> simp (config := { decide := false }) only [Int.natCast_zero, List.map_cons, List.cons_append, List.nil_append, List.append_nil, cellsG_some, so_nil, so_cons, so_same, ElOk, so_ff, so_fs, so_ss, so_pp, so_mm, so_aa, HlOk, upd_get, upd_same, mkE_f, mkE_n, mkH_at, look_cons, look_nil, lookH_cons, lookH_nil, List.contains_cons, List.contains_nil, Nat.reduceEqDiff, Nat.reduceBEq, Nat.reduceLT, Nat.reduceLeDiff, Bool.or_false, Bool.or_true, Bool.false_or, Bool.true_or, Bool.false_eq_true, reduceIte, if_true, and_true, true_and, and_self, reduceCtorEq, Option.isSome_some, Option.isSome_none, List.mem_cons, List.not_mem_nil, or_false, false_or, or_true, true_or, not_false_eq_true, List.map_nil, List.length_nil, putE_some, putE_none, H0, Option.some.injEq, AObj.cells.injEq, exists_eq_left', exists_eq_left, List.length_cons, exists_false, false_and, and_false]
  obtain ⟨hi, hall⟩ := hs
  refine srun_sound 300 _ _ _ _ ?_
  rcases Nat.lt_or_ge s bl.length with hlt | hge
  · obtain ⟨x, hx⟩ := get_some hlt
    have h4 := inc64 hlt hb1
    have hE := blobErr_of hx
    have hsx := hb4 x (List.mem_of_getElem? hx)
    obtain ⟨xd, xs, xu, xn, xp⟩ := x
    simp only [leS] at hE
    have h2 := lt_t hlt
    have h6 := dec64' hlt hb1
    obtain ⟨y, hy, hf⟩ := prev_of hx
    rw [hf] at hE
    clear hf
    obtain ⟨yd, ys, yu, yn, yp⟩ := y
    simp only at hE
    repeat' (first
      | (simp -implicitDefEqProofs only [*, List.getElem?_map, Option.map_some, fBlob, srun_s, srun_0, st_nil, st_skip, st_seq, st_block, st_blk, st_ret, st_exit, st_cond, st_reg, st_draw, st_opsNil, st_dNil, st_call, st_dCall, st_op, st_opG, st_d, st_dG, st_again, st_loop, ic_move, ic_nilChk, ic_pick, ic_alloc, ic_box, ic_build, ic_buildSlice, ic_load, ic_store, ic_bin, ic_un, ic_isNil, ic_eqS, effEqS, ef_eqS, eqL, eqV, Bool.bne_false, Bool.bne_true, effIsNil, ef_isNil, condS_bit, ic_convInt, ic_convStr, ic_clo, ic_makeSlice, ic_slice, ic_slice0, ic_sliceS, ic_fieldAddr, ic_field, ic_indexAddr, ic_indexS, ic_extract, ic_len, ic_maxI, ic_minI, ic_append, ev_tmp, ev_func, ev_int, ev_bool, ev_str, ev_nil, ev_ptr, ev_map, ev_agg, of_int, of_bool, of_str, of_nil, of_ptr, ex_pure, ex_rd, ex_md, ex_rm, ex_new, rdX_some, mdX_some, newX_none, alive_some, cellsOf_some, rds_pure, rds_rd, rds_md, rds_rm, rds_new, wrs_pure, wrs_rd, wrs_md, wrs_rm, wrs_new, noConf_nil, noConf_cons, fpOk, disj_nil, disj_cons, addFp_nil, addFp_cons, effNil, effPick, effBox, effBuild, effBuildS, effLoad, effStore, fvX, effBin, effUn, effConvInt, effConvStr, ef_move, ef_nil, ef_pick, ef_alloc, ef_box, ef_build, ef_buildS, ef_load, ef_store, ef_bin, ef_un, ef_convInt, ef_convStr, effClo, effMake, boundsV, bounds_v, effSlice, effSlice0, effSliceS, effFieldAddr, effField, effIndex, effIndexS, effExtract, effLen, effMax, effMin, effAppend, ef_clo, ef_make, ef_slice, ef_slice0, ef_sliceS, ef_fieldAddr, ef_field, ef_index, ef_indexS, ef_extract, ef_len, ef_max, ef_min, ef_append, toI_int, condS_true, condS_false, execS_some, guardS_tt, guardS_ff, guardS_tf, guardS_ft, guardS_tup, guardD_tup, execD_some, guardD_tt, guardD_ff, guardD_tf, guardD_ft, exitS_some, popTo_blk, popTo_again, popTo_code, putE_some, putE_none, upd_get, upd_same, pickA_true, pickA_false, pickA_bool, binF, unF, FV.isOne, AV.isOne, AV.cellsN, splice, fillA, srcF, bornA, growA, resA, argsE, argsF, List.map_cons, List.map_nil, List.set_cons_zero, List.set_cons_succ, List.getElem?_cons_zero, List.getElem?_cons_succ, List.drop_zero, List.drop_succ_cons, List.take_succ_cons, List.take_zero, List.length_cons, List.length_map, List.length_nil, List.append_nil, List.nil_append, List.cons_append, List.contains_cons, List.contains_nil, Nat.reduceAdd, Nat.reduceSub, Nat.reduceMul, Nat.reduceLT, Nat.reduceLeDiff, Nat.reduceEqDiff, Nat.reduceBEq, Nat.max_def, Nat.zero_add, Nat.add_zero, decide_true, decide_false, reduceIte, Option.getD_some, Option.getD_none, if_true, ite_self, Bool.false_eq_true, reduceCtorEq, Bool.not_true, Bool.not_false, Bool.or_true, Bool.true_or, Bool.and_true, Bool.true_and, Bool.or_false, Bool.false_or, and_true, true_and, and_self, ne_eq, not_false_eq_true, Int.reduceLE, Int.reduceLT, Int.reduceToNat, Int.toNat_natCast, Int.natCast_nonneg, Int.ofNat_lt, H0_at, cellsG_some, mkE_eq, mkE_f, mkE_n, mkH_at, look_cons, look_nil, lookH_cons, lookH_nil, zeros_0, zeros_1, zeros_2, zeros_3, zeros_4, zeros_5, zeros_6, zeros_7, zeros_8, zeros_9, zeros_10, zeros_11, zeros_12, zeros_13, zeros_14, zeros_15, zeros_16, Nat.reduceLeDiff, List.length_set, eq_self, Nat.mul_one, Nat.one_mul, Int.reduceEq, Int.reduceNe, put_S, put_Sn, put_Sa, put_Cs, put_Csn, put_v, put_o, nx_v, nx_o, nx_s, nx_n, pH_S, pH_Sa, pH_n, pH_cs, pH_csn, pH_v, pH_o, oot_1, oot_2, oot_0, Nat.mul_zero, Bool.not_not, beq_self_eq_true, Bool.not_eq_true', Bool.not_eq_false'])
      | (refine condS_splitN (fun hc => ?_) (fun hc => ?_))
      | (refine condS_split (fun hc => ?_) (fun hc => ?_))
      | (refine guardS_splitTN (fun hc => ?_) (fun hc => ?_))
      | (refine guardS_splitFN (fun hc => ?_) (fun hc => ?_))
      | (refine guardD_splitTN (fun hc => ?_) (fun hc => ?_))
      | (refine guardD_splitFN (fun hc => ?_) (fun hc => ?_))
      | (refine guardS_splitT (fun hc => ?_) (fun hc => ?_))
      | (refine guardS_splitF (fun hc => ?_) (fun hc => ?_))
      | (refine guardD_splitT (fun hc => ?_) (fun hc => ?_))
      | (refine guardD_splitF (fun hc => ?_) (fun hc => ?_))
      | (refine callP0 rfl ?_)
      | (refine callD0 rfl ?_)
      | (refine callP rfl (isDigestR_f _ hsx) rfl (by first | exact LeL.refl _ | (repeat (first | exact LeL.refl _ | exact LeA.refl _ | exact LeA.nil _ | refine LeL.cons ?_ ?_ | refine LeA.agg ?_))) rfl (by first | exact free_0 | exact free_mk rfl | (repeat (first | exact free_0 | exact free_mk rfl | refine free_upd rfl ?_))) ?_)
      | (refine callD rfl (isDigestR_f _ hsx) rfl (by first | exact LeL.refl _ | (repeat (first | exact LeL.refl _ | exact LeA.refl _ | exact LeA.nil _ | refine LeL.cons ?_ ?_ | refine LeA.agg ?_))) rfl rfl ?_)
      | (refine callP rfl (withinR_f _ _ _) rfl (by first | exact LeL.refl _ | (repeat (first | exact LeL.refl _ | exact LeA.refl _ | exact LeA.nil _ | refine LeL.cons ?_ ?_ | refine LeA.agg ?_))) rfl (by first | exact free_0 | exact free_mk rfl | (repeat (first | exact free_0 | exact free_mk rfl | refine free_upd rfl ?_))) ?_)
      | (refine callD rfl (withinR_f _ _ _) rfl (by first | exact LeL.refl _ | (repeat (first | exact LeL.refl _ | exact LeA.refl _ | exact LeA.nil _ | refine LeL.cons ?_ ?_ | refine LeA.agg ?_))) rfl rfl ?_))
    all_goals simp only [*, if_true, if_false, Bool.false_eq_true, Bool.true_and, Bool.and_true, Bool.false_and, Bool.and_false] at hE
    all_goals first
      | (have hk : ckBlobs bl room ≠ 0 ∧ ckBlobs bl room = blobErr bl s := by
           rw [ckBlobs, if_neg h3000, fe_hit hall hlt (by rw [hE]; decide), if_pos (by rw [hE]; decide), hE]; exact ⟨by decide, rfl⟩
         refine ret_ve ?_
         rw [if_pos hk.1, hk.2, hE])
      | (refine ⟨s + 1, ⟨hlt, fe_step hall hE⟩, by omega, ?_⟩; refine ⟨rfl, (by first | exact small_0 | exact small_mk rfl | (repeat (first | exact small_0 | exact small_mk rfl | refine small_upd rfl ?_))), rfl, rfl, ?_, ?_⟩ <;> simp (config := { decide := false }) only [Int.natCast_zero, List.map_cons, List.cons_append, List.nil_append, List.append_nil, cellsG_some, so_nil, so_cons, so_same, ElOk, so_ff, so_fs, so_ss, so_pp, so_mm, so_aa, HlOk, upd_get, upd_same, mkE_f, mkE_n, mkH_at, look_cons, look_nil, lookH_cons, lookH_nil, List.contains_cons, List.contains_nil, Nat.reduceEqDiff, Nat.reduceBEq, Nat.reduceLT, Nat.reduceLeDiff, Bool.or_false, Bool.or_true, Bool.false_or, Bool.true_or, Bool.false_eq_true, reduceIte, if_true, and_true, true_and, and_self, reduceCtorEq, Option.isSome_some, Option.isSome_none, List.mem_cons, List.not_mem_nil, or_false, false_or, or_true, true_or, not_false_eq_true, List.map_nil, List.length_nil, putE_some, putE_none, H0, Option.some.injEq, AObj.cells.injEq, exists_eq_left', exists_eq_left, List.length_cons, exists_false, false_and, and_false])
  obtain rfl : s = bl.length := by omega
  have hws : wsum bl = sumSz bl := wsum_eq (by omega) (by have := take_range (Nat.le_refl _) hall; rwa [List.take_length] at this)
  have hck : ckBlobs bl room = if room < sumSz bl then 16 else 0 := by rw [ckBlobs, if_neg h3000, fe_none hall]; rfl
  rw [← hws] at hck
  have h2 := lt_f hge
  clear hall hws h3000
  cases hroom : decide (room < wsum bl)
  case true =>
    rw [if_pos (of_decide_eq_true hroom)] at hck
    repeat' (first
      | (simp -implicitDefEqProofs only [*, srun_s, srun_0, st_nil, st_skip, st_seq, st_block, st_blk, st_ret, st_exit, st_cond, st_reg, st_draw, st_opsNil, st_dNil, st_call, st_dCall, st_op, st_opG, st_d, st_dG, st_again, st_loop, ic_move, ic_nilChk, ic_pick, ic_alloc, ic_box, ic_build, ic_buildSlice, ic_load, ic_store, ic_bin, ic_un, ic_isNil, ic_eqS, effEqS, ef_eqS, eqL, eqV, Bool.bne_false, Bool.bne_true, effIsNil, ef_isNil, condS_bit, ic_convInt, ic_convStr, ic_clo, ic_makeSlice, ic_slice, ic_slice0, ic_sliceS, ic_fieldAddr, ic_field, ic_indexAddr, ic_indexS, ic_extract, ic_len, ic_maxI, ic_minI, ic_append, ev_tmp, ev_func, ev_int, ev_bool, ev_str, ev_nil, ev_ptr, ev_map, ev_agg, of_int, of_bool, of_str, of_nil, of_ptr, ex_pure, ex_rd, ex_md, ex_rm, ex_new, rdX_some, mdX_some, newX_none, alive_some, cellsOf_some, rds_pure, rds_rd, rds_md, rds_rm, rds_new, wrs_pure, wrs_rd, wrs_md, wrs_rm, wrs_new, noConf_nil, noConf_cons, fpOk, disj_nil, disj_cons, addFp_nil, addFp_cons, effNil, effPick, effBox, effBuild, effBuildS, effLoad, effStore, fvX, effBin, effUn, effConvInt, effConvStr, ef_move, ef_nil, ef_pick, ef_alloc, ef_box, ef_build, ef_buildS, ef_load, ef_store, ef_bin, ef_un, ef_convInt, ef_convStr, effClo, effMake, boundsV, bounds_v, effSlice, effSlice0, effSliceS, effFieldAddr, effField, effIndex, effIndexS, effExtract, effLen, effMax, effMin, effAppend, ef_clo, ef_make, ef_slice, ef_slice0, ef_sliceS, ef_fieldAddr, ef_field, ef_index, ef_indexS, ef_extract, ef_len, ef_max, ef_min, ef_append, toI_int, condS_true, condS_false, execS_some, guardS_tt, guardS_ff, guardS_tf, guardS_ft, guardS_tup, guardD_tup, execD_some, guardD_tt, guardD_ff, guardD_tf, guardD_ft, exitS_some, popTo_blk, popTo_again, popTo_code, putE_some, putE_none, upd_get, upd_same, pickA_true, pickA_false, pickA_bool, binF, unF, FV.isOne, AV.isOne, AV.cellsN, splice, fillA, srcF, bornA, growA, resA, argsE, argsF, List.map_cons, List.map_nil, List.set_cons_zero, List.set_cons_succ, List.getElem?_cons_zero, List.getElem?_cons_succ, List.drop_zero, List.drop_succ_cons, List.take_succ_cons, List.take_zero, List.length_cons, List.length_map, List.length_nil, List.append_nil, List.nil_append, List.cons_append, List.contains_cons, List.contains_nil, Nat.reduceAdd, Nat.reduceSub, Nat.reduceMul, Nat.reduceLT, Nat.reduceLeDiff, Nat.reduceEqDiff, Nat.reduceBEq, Nat.max_def, Nat.zero_add, Nat.add_zero, decide_true, decide_false, reduceIte, Option.getD_some, Option.getD_none, if_true, ite_self, Bool.false_eq_true, reduceCtorEq, Bool.not_true, Bool.not_false, Bool.or_true, Bool.true_or, Bool.and_true, Bool.true_and, Bool.or_false, Bool.false_or, and_true, true_and, and_self, ne_eq, not_false_eq_true, Int.reduceLE, Int.reduceLT, Int.reduceToNat, Int.toNat_natCast, Int.natCast_nonneg, Int.ofNat_lt, H0_at, cellsG_some, mkE_eq, mkE_f, mkE_n, mkH_at, look_cons, look_nil, lookH_cons, lookH_nil, zeros_0, zeros_1, zeros_2, zeros_3, zeros_4, zeros_5, zeros_6, zeros_7, zeros_8, zeros_9, zeros_10, zeros_11, zeros_12, zeros_13, zeros_14, zeros_15, zeros_16, Nat.reduceLeDiff, List.length_set, eq_self, Nat.mul_one, Nat.one_mul, Int.reduceEq, Int.reduceNe, put_S, put_Sn, put_Sa, put_Cs, put_Csn, put_v, put_o, nx_v, nx_o, nx_s, nx_n, pH_S, pH_Sa, pH_n, pH_cs, pH_csn, pH_v, pH_o, oot_1, oot_2, oot_0, Nat.mul_zero, Bool.not_not, beq_self_eq_true, Bool.not_eq_true', Bool.not_eq_false'])
      | (refine condS_splitN (fun hc => ?_) (fun hc => ?_))
      | (refine condS_split (fun hc => ?_) (fun hc => ?_))
      | (refine guardS_splitTN (fun hc => ?_) (fun hc => ?_))
      | (refine guardS_splitFN (fun hc => ?_) (fun hc => ?_))
      | (refine guardD_splitTN (fun hc => ?_) (fun hc => ?_))
      | (refine guardD_splitFN (fun hc => ?_) (fun hc => ?_))
      | (refine guardS_splitT (fun hc => ?_) (fun hc => ?_))
      | (refine guardS_splitF (fun hc => ?_) (fun hc => ?_))
      | (refine guardD_splitT (fun hc => ?_) (fun hc => ?_))
      | (refine guardD_splitF (fun hc => ?_) (fun hc => ?_))
      | (refine callP0 rfl ?_)
      | (refine callD0 rfl ?_)
      | (refine callP rfl (bytesOf_f _ hb1) rfl (by first | exact LeL.refl _ | (repeat (first | exact LeL.refl _ | exact LeA.refl _ | exact LeA.nil _ | refine LeL.cons ?_ ?_ | refine LeA.agg ?_))) rfl (by first | exact free_0 | exact free_mk rfl | (repeat (first | exact free_0 | exact free_mk rfl | refine free_upd rfl ?_))) ?_)
      | (refine callD rfl (bytesOf_f _ hb1) rfl (by first | exact LeL.refl _ | (repeat (first | exact LeL.refl _ | exact LeA.refl _ | exact LeA.nil _ | refine LeL.cons ?_ ?_ | refine LeA.agg ?_))) rfl rfl ?_))
    exact ret_v
  rw [if_neg (of_decide_eq_false hroom)] at hck
  cases hen : decide ((1000 : Int) < en.length)
  case true =>
    have hen' := of_decide_eq_true hen
    repeat' (first
      | (simp -implicitDefEqProofs only [*, srun_s, srun_0, st_nil, st_skip, st_seq, st_block, st_blk, st_ret, st_exit, st_cond, st_reg, st_draw, st_opsNil, st_dNil, st_call, st_dCall, st_op, st_opG, st_d, st_dG, st_again, st_loop, ic_move, ic_nilChk, ic_pick, ic_alloc, ic_box, ic_build, ic_buildSlice, ic_load, ic_store, ic_bin, ic_un, ic_isNil, ic_eqS, effEqS, ef_eqS, eqL, eqV, Bool.bne_false, Bool.bne_true, effIsNil, ef_isNil, condS_bit, ic_convInt, ic_convStr, ic_clo, ic_makeSlice, ic_slice, ic_slice0, ic_sliceS, ic_fieldAddr, ic_field, ic_indexAddr, ic_indexS, ic_extract, ic_len, ic_maxI, ic_minI, ic_append, ev_tmp, ev_func, ev_int, ev_bool, ev_str, ev_nil, ev_ptr, ev_map, ev_agg, of_int, of_bool, of_str, of_nil, of_ptr, ex_pure, ex_rd, ex_md, ex_rm, ex_new, rdX_some, mdX_some, newX_none, alive_some, cellsOf_some, rds_pure, rds_rd, rds_md, rds_rm, rds_new, wrs_pure, wrs_rd, wrs_md, wrs_rm, wrs_new, noConf_nil, noConf_cons, fpOk, disj_nil, disj_cons, addFp_nil, addFp_cons, effNil, effPick, effBox, effBuild, effBuildS, effLoad, effStore, fvX, effBin, effUn, effConvInt, effConvStr, ef_move, ef_nil, ef_pick, ef_alloc, ef_box, ef_build, ef_buildS, ef_load, ef_store, ef_bin, ef_un, ef_convInt, ef_convStr, effClo, effMake, boundsV, bounds_v, effSlice, effSlice0, effSliceS, effFieldAddr, effField, effIndex, effIndexS, effExtract, effLen, effMax, effMin, effAppend, ef_clo, ef_make, ef_slice, ef_slice0, ef_sliceS, ef_fieldAddr, ef_field, ef_index, ef_indexS, ef_extract, ef_len, ef_max, ef_min, ef_append, toI_int, condS_true, condS_false, execS_some, guardS_tt, guardS_ff, guardS_tf, guardS_ft, guardS_tup, guardD_tup, execD_some, guardD_tt, guardD_ff, guardD_tf, guardD_ft, exitS_some, popTo_blk, popTo_again, popTo_code, putE_some, putE_none, upd_get, upd_same, pickA_true, pickA_false, pickA_bool, binF, unF, FV.isOne, AV.isOne, AV.cellsN, splice, fillA, srcF, bornA, growA, resA, argsE, argsF, List.map_cons, List.map_nil, List.set_cons_zero, List.set_cons_succ, List.getElem?_cons_zero, List.getElem?_cons_succ, List.drop_zero, List.drop_succ_cons, List.take_succ_cons, List.take_zero, List.length_cons, List.length_map, List.length_nil, List.append_nil, List.nil_append, List.cons_append, List.contains_cons, List.contains_nil, Nat.reduceAdd, Nat.reduceSub, Nat.reduceMul, Nat.reduceLT, Nat.reduceLeDiff, Nat.reduceEqDiff, Nat.reduceBEq, Nat.max_def, Nat.zero_add, Nat.add_zero, decide_true, decide_false, reduceIte, Option.getD_some, Option.getD_none, if_true, ite_self, Bool.false_eq_true, reduceCtorEq, Bool.not_true, Bool.not_false, Bool.or_true, Bool.true_or, Bool.and_true, Bool.true_and, Bool.or_false, Bool.false_or, and_true, true_and, and_self, ne_eq, not_false_eq_true, Int.reduceLE, Int.reduceLT, Int.reduceToNat, Int.toNat_natCast, Int.natCast_nonneg, Int.ofNat_lt, H0_at, cellsG_some, mkE_eq, mkE_f, mkE_n, mkH_at, look_cons, look_nil, lookH_cons, lookH_nil, zeros_0, zeros_1, zeros_2, zeros_3, zeros_4, zeros_5, zeros_6, zeros_7, zeros_8, zeros_9, zeros_10, zeros_11, zeros_12, zeros_13, zeros_14, zeros_15, zeros_16, Nat.reduceLeDiff, List.length_set, eq_self, Nat.mul_one, Nat.one_mul, Int.reduceEq, Int.reduceNe, put_S, put_Sn, put_Sa, put_Cs, put_Csn, put_v, put_o, nx_v, nx_o, nx_s, nx_n, pH_S, pH_Sa, pH_n, pH_cs, pH_csn, pH_v, pH_o, oot_1, oot_2, oot_0, Nat.mul_zero, Bool.not_not, beq_self_eq_true, Bool.not_eq_true', Bool.not_eq_false'])
      | (refine condS_splitN (fun hc => ?_) (fun hc => ?_))
      | (refine condS_split (fun hc => ?_) (fun hc => ?_))
      | (refine guardS_splitTN (fun hc => ?_) (fun hc => ?_))
      | (refine guardS_splitFN (fun hc => ?_) (fun hc => ?_))
      | (refine guardD_splitTN (fun hc => ?_) (fun hc => ?_))
      | (refine guardD_splitFN (fun hc => ?_) (fun hc => ?_))
      | (refine guardS_splitT (fun hc => ?_) (fun hc => ?_))
      | (refine guardS_splitF (fun hc => ?_) (fun hc => ?_))
      | (refine guardD_splitT (fun hc => ?_) (fun hc => ?_))
      | (refine guardD_splitF (fun hc => ?_) (fun hc => ?_))
      | (refine callP0 rfl ?_)
      | (refine callD0 rfl ?_)
      | (refine callP rfl (bytesOf_f _ hb1) rfl (by first | exact LeL.refl _ | (repeat (first | exact LeL.refl _ | exact LeA.refl _ | exact LeA.nil _ | refine LeL.cons ?_ ?_ | refine LeA.agg ?_))) rfl (by first | exact free_0 | exact free_mk rfl | (repeat (first | exact free_0 | exact free_mk rfl | refine free_upd rfl ?_))) ?_)
      | (refine callD rfl (bytesOf_f _ hb1) rfl (by first | exact LeL.refl _ | (repeat (first | exact LeL.refl _ | exact LeA.refl _ | exact LeA.nil _ | refine LeL.cons ?_ ?_ | refine LeA.agg ?_))) rfl rfl ?_))
    exact ret_v
  have hR : (if ckBlobs bl room ≠ 0 then ckBlobs bl room else if (1000 : Int) < en.length then 2 else firstErr (entErr en) 0 en.length) = firstErr (entErr en) 0 en.length := by
    rw [hck, if_neg (by decide), if_neg (of_decide_eq_false hen)]
  clear hck
  repeat' (first
    | (simp -implicitDefEqProofs only [*, srun_s, srun_0, st_nil, st_skip, st_seq, st_block, st_blk, st_ret, st_exit, st_cond, st_reg, st_draw, st_opsNil, st_dNil, st_call, st_dCall, st_op, st_opG, st_d, st_dG, st_again, st_loop, ic_move, ic_nilChk, ic_pick, ic_alloc, ic_box, ic_build, ic_buildSlice, ic_load, ic_store, ic_bin, ic_un, ic_isNil, ic_eqS, effEqS, ef_eqS, eqL, eqV, Bool.bne_false, Bool.bne_true, effIsNil, ef_isNil, condS_bit, ic_convInt, ic_convStr, ic_clo, ic_makeSlice, ic_slice, ic_slice0, ic_sliceS, ic_fieldAddr, ic_field, ic_indexAddr, ic_indexS, ic_extract, ic_len, ic_maxI, ic_minI, ic_append, ev_tmp, ev_func, ev_int, ev_bool, ev_str, ev_nil, ev_ptr, ev_map, ev_agg, of_int, of_bool, of_str, of_nil, of_ptr, ex_pure, ex_rd, ex_md, ex_rm, ex_new, rdX_some, mdX_some, newX_none, alive_some, cellsOf_some, rds_pure, rds_rd, rds_md, rds_rm, rds_new, wrs_pure, wrs_rd, wrs_md, wrs_rm, wrs_new, noConf_nil, noConf_cons, fpOk, disj_nil, disj_cons, addFp_nil, addFp_cons, effNil, effPick, effBox, effBuild, effBuildS, effLoad, effStore, fvX, effBin, effUn, effConvInt, effConvStr, ef_move, ef_nil, ef_pick, ef_alloc, ef_box, ef_build, ef_buildS, ef_load, ef_store, ef_bin, ef_un, ef_convInt, ef_convStr, effClo, effMake, boundsV, bounds_v, effSlice, effSlice0, effSliceS, effFieldAddr, effField, effIndex, effIndexS, effExtract, effLen, effMax, effMin, effAppend, ef_clo, ef_make, ef_slice, ef_slice0, ef_sliceS, ef_fieldAddr, ef_field, ef_index, ef_indexS, ef_extract, ef_len, ef_max, ef_min, ef_append, toI_int, condS_true, condS_false, execS_some, guardS_tt, guardS_ff, guardS_tf, guardS_ft, guardS_tup, guardD_tup, execD_some, guardD_tt, guardD_ff, guardD_tf, guardD_ft, exitS_some, popTo_blk, popTo_again, popTo_code, putE_some, putE_none, upd_get, upd_same, pickA_true, pickA_false, pickA_bool, binF, unF, FV.isOne, AV.isOne, AV.cellsN, splice, fillA, srcF, bornA, growA, resA, argsE, argsF, List.map_cons, List.map_nil, List.set_cons_zero, List.set_cons_succ, List.getElem?_cons_zero, List.getElem?_cons_succ, List.drop_zero, List.drop_succ_cons, List.take_succ_cons, List.take_zero, List.length_cons, List.length_map, List.length_nil, List.append_nil, List.nil_append, List.cons_append, List.contains_cons, List.contains_nil, Nat.reduceAdd, Nat.reduceSub, Nat.reduceMul, Nat.reduceLT, Nat.reduceLeDiff, Nat.reduceEqDiff, Nat.reduceBEq, Nat.max_def, Nat.zero_add, Nat.add_zero, decide_true, decide_false, reduceIte, Option.getD_some, Option.getD_none, if_true, ite_self, Bool.false_eq_true, reduceCtorEq, Bool.not_true, Bool.not_false, Bool.or_true, Bool.true_or, Bool.and_true, Bool.true_and, Bool.or_false, Bool.false_or, and_true, true_and, and_self, ne_eq, not_false_eq_true, Int.reduceLE, Int.reduceLT, Int.reduceToNat, Int.toNat_natCast, Int.natCast_nonneg, Int.ofNat_lt, H0_at, cellsG_some, mkE_eq, mkE_f, mkE_n, mkH_at, look_cons, look_nil, lookH_cons, lookH_nil, zeros_0, zeros_1, zeros_2, zeros_3, zeros_4, zeros_5, zeros_6, zeros_7, zeros_8, zeros_9, zeros_10, zeros_11, zeros_12, zeros_13, zeros_14, zeros_15, zeros_16, Nat.reduceLeDiff, List.length_set, eq_self, Nat.mul_one, Nat.one_mul, Int.reduceEq, Int.reduceNe, put_S, put_Sn, put_Sa, put_Cs, put_Csn, put_v, put_o, nx_v, nx_o, nx_s, nx_n, pH_S, pH_Sa, pH_n, pH_cs, pH_csn, pH_v, pH_o, oot_1, oot_2, oot_0, Nat.mul_zero, Bool.not_not, beq_self_eq_true, Bool.not_eq_true', Bool.not_eq_false'])
    | (refine condS_splitN (fun hc => ?_) (fun hc => ?_))
    | (refine condS_split (fun hc => ?_) (fun hc => ?_))
    | (refine guardS_splitTN (fun hc => ?_) (fun hc => ?_))
    | (refine guardS_splitFN (fun hc => ?_) (fun hc => ?_))
    | (refine guardD_splitTN (fun hc => ?_) (fun hc => ?_))
    | (refine guardD_splitFN (fun hc => ?_) (fun hc => ?_))
    | (refine guardS_splitT (fun hc => ?_) (fun hc => ?_))
    | (refine guardS_splitF (fun hc => ?_) (fun hc => ?_))
    | (refine guardD_splitT (fun hc => ?_) (fun hc => ?_))
    | (refine guardD_splitF (fun hc => ?_) (fun hc => ?_))
    | (refine callP0 rfl ?_)
    | (refine callD0 rfl ?_)
    | (refine callP rfl (bytesOf_f _ hb1) rfl (by first | exact LeL.refl _ | (repeat (first | exact LeL.refl _ | exact LeA.refl _ | exact LeA.nil _ | refine LeL.cons ?_ ?_ | refine LeA.agg ?_))) rfl (by first | exact free_0 | exact free_mk rfl | (repeat (first | exact free_0 | exact free_mk rfl | refine free_upd rfl ?_))) ?_)
    | (refine callD rfl (bytesOf_f _ hb1) rfl (by first | exact LeL.refl _ | (repeat (first | exact LeL.refl _ | exact LeA.refl _ | exact LeA.nil _ | refine LeL.cons ?_ ?_ | refine LeA.agg ?_))) rfl rfl ?_))
  refine ax_loopU (S := Nat) 128 [1] [1] (fun s => [(5, .f (.int .i64 s))]) (fun s => []) (fun s => s ≤ en.length ∧ ∀ m, m < s → entErr en m = 0) (fun s => en.length - s) (0) [] ?_ ?_ fun s hs => ?_
  · exact ⟨Nat.zero_le _, fe_0⟩
  · refine ⟨rfl, (by first | exact small_0 | exact small_mk rfl | (repeat (first | exact small_0 | exact small_mk rfl | refine small_upd rfl ?_))), rfl, rfl, ?_, ?_⟩ <;> simp (config := { decide := false }) only [Int.natCast_zero, List.map_cons, List.cons_append, List.nil_append, List.append_nil, cellsG_some, so_nil, so_cons, so_same, ElOk, so_ff, so_fs, so_ss, so_pp, so_mm, so_aa, HlOk, upd_get, upd_same, mkE_f, mkE_n, mkH_at, look_cons, look_nil, lookH_cons, lookH_nil, List.contains_cons, List.contains_nil, Nat.reduceEqDiff, Nat.reduceBEq, Nat.reduceLT, Nat.reduceLeDiff, Bool.or_false, Bool.or_true, Bool.false_or, Bool.true_or, Bool.false_eq_true, reduceIte, if_true, and_true, true_and, and_self, reduceCtorEq, Option.isSome_some, Option.isSome_none, List.mem_cons, List.not_mem_nil, or_false, false_or, or_true, true_or, not_false_eq_true, List.map_nil, List.length_nil, putE_some, putE_none, H0, Option.some.injEq, AObj.cells.injEq, exists_eq_left', exists_eq_left, List.length_cons, exists_false, false_and, and_false]
  obtain ⟨hi, hall⟩ := hs
  refine srun_sound 300 _ _ _ _ ?_
  rcases Nat.lt_or_ge s en.length with hlt | hge
  · obtain ⟨x, hx⟩ := get_some hlt
    have h4 := inc64 hlt hb2
    have hE := entErr_of hx
    have hxl := hb3 x (List.mem_of_getElem? hx)
    have hxs := hb5 x (List.mem_of_getElem? hx)
    obtain ⟨xk, xr, xu⟩ := x
    simp only [leS] at hE hxl hxs
    have h2 := lt_t hlt
    have h6 := dec64' hlt hb2
    obtain ⟨y, hy, hf⟩ := prev_of hx
    rw [hf] at hE
    clear hf
    obtain ⟨yk, yr, yu⟩ := y
    simp only at hE
    unfold ckDigsM at hE
    repeat' (first
      | (simp -implicitDefEqProofs only [*, List.getElem?_map, Option.map_some, fEntry, frStrs, srun_s, srun_0, st_nil, st_skip, st_seq, st_block, st_blk, st_ret, st_exit, st_cond, st_reg, st_draw, st_opsNil, st_dNil, st_call, st_dCall, st_op, st_opG, st_d, st_dG, st_again, st_loop, ic_move, ic_nilChk, ic_pick, ic_alloc, ic_box, ic_build, ic_buildSlice, ic_load, ic_store, ic_bin, ic_un, ic_isNil, ic_eqS, effEqS, ef_eqS, eqL, eqV, Bool.bne_false, Bool.bne_true, effIsNil, ef_isNil, condS_bit, ic_convInt, ic_convStr, ic_clo, ic_makeSlice, ic_slice, ic_slice0, ic_sliceS, ic_fieldAddr, ic_field, ic_indexAddr, ic_indexS, ic_extract, ic_len, ic_maxI, ic_minI, ic_append, ev_tmp, ev_func, ev_int, ev_bool, ev_str, ev_nil, ev_ptr, ev_map, ev_agg, of_int, of_bool, of_str, of_nil, of_ptr, ex_pure, ex_rd, ex_md, ex_rm, ex_new, rdX_some, mdX_some, newX_none, alive_some, cellsOf_some, rds_pure, rds_rd, rds_md, rds_rm, rds_new, wrs_pure, wrs_rd, wrs_md, wrs_rm, wrs_new, noConf_nil, noConf_cons, fpOk, disj_nil, disj_cons, addFp_nil, addFp_cons, effNil, effPick, effBox, effBuild, effBuildS, effLoad, effStore, fvX, effBin, effUn, effConvInt, effConvStr, ef_move, ef_nil, ef_pick, ef_alloc, ef_box, ef_build, ef_buildS, ef_load, ef_store, ef_bin, ef_un, ef_convInt, ef_convStr, effClo, effMake, boundsV, bounds_v, effSlice, effSlice0, effSliceS, effFieldAddr, effField, effIndex, effIndexS, effExtract, effLen, effMax, effMin, effAppend, ef_clo, ef_make, ef_slice, ef_slice0, ef_sliceS, ef_fieldAddr, ef_field, ef_index, ef_indexS, ef_extract, ef_len, ef_max, ef_min, ef_append, toI_int, condS_true, condS_false, execS_some, guardS_tt, guardS_ff, guardS_tf, guardS_ft, guardS_tup, guardD_tup, execD_some, guardD_tt, guardD_ff, guardD_tf, guardD_ft, exitS_some, popTo_blk, popTo_again, popTo_code, putE_some, putE_none, upd_get, upd_same, pickA_true, pickA_false, pickA_bool, binF, unF, FV.isOne, AV.isOne, AV.cellsN, splice, fillA, srcF, bornA, growA, resA, argsE, argsF, List.map_cons, List.map_nil, List.set_cons_zero, List.set_cons_succ, List.getElem?_cons_zero, List.getElem?_cons_succ, List.drop_zero, List.drop_succ_cons, List.take_succ_cons, List.take_zero, List.length_cons, List.length_map, List.length_nil, List.append_nil, List.nil_append, List.cons_append, List.contains_cons, List.contains_nil, Nat.reduceAdd, Nat.reduceSub, Nat.reduceMul, Nat.reduceLT, Nat.reduceLeDiff, Nat.reduceEqDiff, Nat.reduceBEq, Nat.max_def, Nat.zero_add, Nat.add_zero, decide_true, decide_false, reduceIte, Option.getD_some, Option.getD_none, if_true, ite_self, Bool.false_eq_true, reduceCtorEq, Bool.not_true, Bool.not_false, Bool.or_true, Bool.true_or, Bool.and_true, Bool.true_and, Bool.or_false, Bool.false_or, and_true, true_and, and_self, ne_eq, not_false_eq_true, Int.reduceLE, Int.reduceLT, Int.reduceToNat, Int.toNat_natCast, Int.natCast_nonneg, Int.ofNat_lt, H0_at, cellsG_some, mkE_eq, mkE_f, mkE_n, mkH_at, look_cons, look_nil, lookH_cons, lookH_nil, zeros_0, zeros_1, zeros_2, zeros_3, zeros_4, zeros_5, zeros_6, zeros_7, zeros_8, zeros_9, zeros_10, zeros_11, zeros_12, zeros_13, zeros_14, zeros_15, zeros_16, Nat.reduceLeDiff, List.length_set, eq_self, Nat.mul_one, Nat.one_mul, Int.reduceEq, Int.reduceNe, put_S, put_Sn, put_Sa, put_Cs, put_Csn, put_v, put_o, nx_v, nx_o, nx_s, nx_n, pH_S, pH_Sa, pH_n, pH_cs, pH_csn, pH_v, pH_o, oot_1, oot_2, oot_0, Nat.mul_zero, Bool.not_not, beq_self_eq_true, Bool.not_eq_true', Bool.not_eq_false'])
      | (refine condS_splitN (fun hc => ?_) (fun hc => ?_))
      | (refine condS_split (fun hc => ?_) (fun hc => ?_))
      | (refine guardS_splitTN (fun hc => ?_) (fun hc => ?_))
      | (refine guardS_splitFN (fun hc => ?_) (fun hc => ?_))
      | (refine guardD_splitTN (fun hc => ?_) (fun hc => ?_))
      | (refine guardD_splitFN (fun hc => ?_) (fun hc => ?_))
      | (refine guardS_splitT (fun hc => ?_) (fun hc => ?_))
      | (refine guardS_splitF (fun hc => ?_) (fun hc => ?_))
      | (refine guardD_splitT (fun hc => ?_) (fun hc => ?_))
      | (refine guardD_splitF (fun hc => ?_) (fun hc => ?_))
      | (refine callP0 rfl ?_)
      | (refine callD0 rfl ?_)
      | (refine callP rfl (isDigestR_f _ hxs.1) rfl (by first | exact LeL.refl _ | (repeat (first | exact LeL.refl _ | exact LeA.refl _ | exact LeA.nil _ | refine LeL.cons ?_ ?_ | refine LeA.agg ?_))) rfl (by first | exact free_0 | exact free_mk rfl | (repeat (first | exact free_0 | exact free_mk rfl | refine free_upd rfl ?_))) ?_)
      | (refine callD rfl (isDigestR_f _ hxs.1) rfl (by first | exact LeL.refl _ | (repeat (first | exact LeL.refl _ | exact LeA.refl _ | exact LeA.nil _ | refine LeL.cons ?_ ?_ | refine LeA.agg ?_))) rfl rfl ?_)
      | (refine callP rfl (withinR_f _ _ _) rfl (by first | exact LeL.refl _ | (repeat (first | exact LeL.refl _ | exact LeA.refl _ | exact LeA.nil _ | refine LeL.cons ?_ ?_ | refine LeA.agg ?_))) rfl (by first | exact free_0 | exact free_mk rfl | (repeat (first | exact free_0 | exact free_mk rfl | refine free_upd rfl ?_))) ?_)
      | (refine callD rfl (withinR_f _ _ _) rfl (by first | exact LeL.refl _ | (repeat (first | exact LeL.refl _ | exact LeA.refl _ | exact LeA.nil _ | refine LeL.cons ?_ ?_ | refine LeA.agg ?_))) rfl rfl ?_)
      | (refine callP rfl (rising_f _ hxl hxs.2) rfl (by first | exact LeL.refl _ | (repeat (first | exact LeL.refl _ | exact LeA.refl _ | exact LeA.nil _ | refine LeL.cons ?_ ?_ | refine LeA.agg ?_))) rfl (by first | exact free_0 | exact free_mk rfl | (repeat (first | exact free_0 | exact free_mk rfl | refine free_upd rfl ?_))) ?_)
      | (refine callD rfl (rising_f _ hxl hxs.2) rfl (by first | exact LeL.refl _ | (repeat (first | exact LeL.refl _ | exact LeA.refl _ | exact LeA.nil _ | refine LeL.cons ?_ ?_ | refine LeA.agg ?_))) rfl rfl ?_))
    all_goals try simp only [decide_eq_true_eq, decide_eq_false_iff_not] at *
    all_goals simp only [*, Int.reduceEq, Int.reduceNe, if_true, if_false, ne_eq, not_true_eq_false, not_false_eq_true, reduceIte, Bool.false_eq_true, Bool.true_and, Bool.and_true, Bool.false_and, Bool.and_false, Bool.not_true, Bool.not_false, Bool.true_or, Bool.or_true, Bool.false_or, Bool.or_false, decide_true, decide_false, reduceCtorEq] at hE
    all_goals first
      | exact ret_ve (by rw [fe_hit hall hlt (by rw [hE]; decide), hE])
      | exact ret_ve (by rw [fe_hit hall hlt (by rw [hE]; assumption), hE])
      | (refine ⟨s + 1, ⟨hlt, fe_step hall hE⟩, by omega, ?_⟩; refine ⟨rfl, (by first | exact small_0 | exact small_mk rfl | (repeat (first | exact small_0 | exact small_mk rfl | refine small_upd rfl ?_))), rfl, rfl, ?_, ?_⟩ <;> simp (config := { decide := false }) only [Int.natCast_zero, List.map_cons, List.cons_append, List.nil_append, List.append_nil, cellsG_some, so_nil, so_cons, so_same, ElOk, so_ff, so_fs, so_ss, so_pp, so_mm, so_aa, HlOk, upd_get, upd_same, mkE_f, mkE_n, mkH_at, look_cons, look_nil, lookH_cons, lookH_nil, List.contains_cons, List.contains_nil, Nat.reduceEqDiff, Nat.reduceBEq, Nat.reduceLT, Nat.reduceLeDiff, Bool.or_false, Bool.or_true, Bool.false_or, Bool.true_or, Bool.false_eq_true, reduceIte, if_true, and_true, true_and, and_self, reduceCtorEq, Option.isSome_some, Option.isSome_none, List.mem_cons, List.not_mem_nil, or_false, false_or, or_true, true_or, not_false_eq_true, List.map_nil, List.length_nil, putE_some, putE_none, H0, Option.some.injEq, AObj.cells.injEq, exists_eq_left', exists_eq_left, List.length_cons, exists_false, false_and, and_false])
  · obtain rfl : s = en.length := by omega
    have h0 := fe_none hall
    have h2 := lt_f hge
    rw [h0] at hR
    repeat' (first
      | (simp -implicitDefEqProofs only [*, srun_s, srun_0, st_nil, st_skip, st_seq, st_block, st_blk, st_ret, st_exit, st_cond, st_reg, st_draw, st_opsNil, st_dNil, st_call, st_dCall, st_op, st_opG, st_d, st_dG, st_again, st_loop, ic_move, ic_nilChk, ic_pick, ic_alloc, ic_box, ic_build, ic_buildSlice, ic_load, ic_store, ic_bin, ic_un, ic_isNil, ic_eqS, effEqS, ef_eqS, eqL, eqV, Bool.bne_false, Bool.bne_true, effIsNil, ef_isNil, condS_bit, ic_convInt, ic_convStr, ic_clo, ic_makeSlice, ic_slice, ic_slice0, ic_sliceS, ic_fieldAddr, ic_field, ic_indexAddr, ic_indexS, ic_extract, ic_len, ic_maxI, ic_minI, ic_append, ev_tmp, ev_func, ev_int, ev_bool, ev_str, ev_nil, ev_ptr, ev_map, ev_agg, of_int, of_bool, of_str, of_nil, of_ptr, ex_pure, ex_rd, ex_md, ex_rm, ex_new, rdX_some, mdX_some, newX_none, alive_some, cellsOf_some, rds_pure, rds_rd, rds_md, rds_rm, rds_new, wrs_pure, wrs_rd, wrs_md, wrs_rm, wrs_new, noConf_nil, noConf_cons, fpOk, disj_nil, disj_cons, addFp_nil, addFp_cons, effNil, effPick, effBox, effBuild, effBuildS, effLoad, effStore, fvX, effBin, effUn, effConvInt, effConvStr, ef_move, ef_nil, ef_pick, ef_alloc, ef_box, ef_build, ef_buildS, ef_load, ef_store, ef_bin, ef_un, ef_convInt, ef_convStr, effClo, effMake, boundsV, bounds_v, effSlice, effSlice0, effSliceS, effFieldAddr, effField, effIndex, effIndexS, effExtract, effLen, effMax, effMin, effAppend, ef_clo, ef_make, ef_slice, ef_slice0, ef_sliceS, ef_fieldAddr, ef_field, ef_index, ef_indexS, ef_extract, ef_len, ef_max, ef_min, ef_append, toI_int, condS_true, condS_false, execS_some, guardS_tt, guardS_ff, guardS_tf, guardS_ft, guardS_tup, guardD_tup, execD_some, guardD_tt, guardD_ff, guardD_tf, guardD_ft, exitS_some, popTo_blk, popTo_again, popTo_code, putE_some, putE_none, upd_get, upd_same, pickA_true, pickA_false, pickA_bool, binF, unF, FV.isOne, AV.isOne, AV.cellsN, splice, fillA, srcF, bornA, growA, resA, argsE, argsF, List.map_cons, List.map_nil, List.set_cons_zero, List.set_cons_succ, List.getElem?_cons_zero, List.getElem?_cons_succ, List.drop_zero, List.drop_succ_cons, List.take_succ_cons, List.take_zero, List.length_cons, List.length_map, List.length_nil, List.append_nil, List.nil_append, List.cons_append, List.contains_cons, List.contains_nil, Nat.reduceAdd, Nat.reduceSub, Nat.reduceMul, Nat.reduceLT, Nat.reduceLeDiff, Nat.reduceEqDiff, Nat.reduceBEq, Nat.max_def, Nat.zero_add, Nat.add_zero, decide_true, decide_false, reduceIte, Option.getD_some, Option.getD_none, if_true, ite_self, Bool.false_eq_true, reduceCtorEq, Bool.not_true, Bool.not_false, Bool.or_true, Bool.true_or, Bool.and_true, Bool.true_and, Bool.or_false, Bool.false_or, and_true, true_and, and_self, ne_eq, not_false_eq_true, Int.reduceLE, Int.reduceLT, Int.reduceToNat, Int.toNat_natCast, Int.natCast_nonneg, Int.ofNat_lt, H0_at, cellsG_some, mkE_eq, mkE_f, mkE_n, mkH_at, look_cons, look_nil, lookH_cons, lookH_nil, zeros_0, zeros_1, zeros_2, zeros_3, zeros_4, zeros_5, zeros_6, zeros_7, zeros_8, zeros_9, zeros_10, zeros_11, zeros_12, zeros_13, zeros_14, zeros_15, zeros_16, Nat.reduceLeDiff, List.length_set, eq_self, Nat.mul_one, Nat.one_mul, Int.reduceEq, Int.reduceNe, put_S, put_Sn, put_Sa, put_Cs, put_Csn, put_v, put_o, nx_v, nx_o, nx_s, nx_n, pH_S, pH_Sa, pH_n, pH_cs, pH_csn, pH_v, pH_o, oot_1, oot_2, oot_0, Nat.mul_zero, Bool.not_not, beq_self_eq_true, Bool.not_eq_true', Bool.not_eq_false'])
      | (refine condS_splitN (fun hc => ?_) (fun hc => ?_))
      | (refine condS_split (fun hc => ?_) (fun hc => ?_))
      | (refine guardS_splitTN (fun hc => ?_) (fun hc => ?_))
      | (refine guardS_splitFN (fun hc => ?_) (fun hc => ?_))
      | (refine guardD_splitTN (fun hc => ?_) (fun hc => ?_))
      | (refine guardD_splitFN (fun hc => ?_) (fun hc => ?_))
      | (refine guardS_splitT (fun hc => ?_) (fun hc => ?_))
      | (refine guardS_splitF (fun hc => ?_) (fun hc => ?_))
      | (refine guardD_splitT (fun hc => ?_) (fun hc => ?_))
      | (refine guardD_splitF (fun hc => ?_) (fun hc => ?_))
      | (refine callP0 rfl ?_)
      | (refine callD0 rfl ?_))
    exact ret_v
end Go.Proofs.YteeemcghdhdodaaDoor
