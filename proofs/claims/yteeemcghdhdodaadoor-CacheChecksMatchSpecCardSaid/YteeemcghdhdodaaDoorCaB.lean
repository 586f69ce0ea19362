/-
  The cache's searches on the machine. No statement of the seat is proved here; no conditions.
-/
import Derived.Test.YteeemcghdhdodaaDoorCaA
import Derived.Test.YteeemcghdhdodaaDoorEngU
import Derived.Test.YteeemcghdhdodaaDoorLay
namespace Go.Proofs.YteeemcghdhdodaaDoor
open Go.RowKit Go.Shelf
set_option linter.unusedVariables false
set_option linter.unusedSimpArgs false
set_option maxRecDepth 100000

theorem trim_f (s : ByteArray) (hs : s.size ≤ 9223372036854775807) : FRet Tryd.prog 51 [.f (.str s), .f (.str ⟨#[48, 49, 50, 51, 52, 53, 54, 55, 56, 57, 97, 98, 99, 100, 101, 102]⟩)] [.c (.v (.str ⟨(Lib.trimS s.data.toList hexS).toArray⟩))] :=
  fret_calls (by kernel_rfl) fun G Z w vs h1 h2 => by
    obtain ⟨v0, v1, rfl, r0, r1⟩ := args2 h1 h2
    obtain rfl := r0.str_
    obtain rfl := r1.str_
    have hcon := Any.strings_Trim_laid Tryd.lays160 (by kernel_rfl) s ⟨#[48, 49, 50, 51, 52, 53, 54, 55, 56, 57, 97, 98, 99, 100, 101, 102]⟩ w hs (by decide) (ascii_of_all (by decide))
    change Calls Tryd.prog 51 _ _ _ at hcon
    exact hcon.mono fun e w' ⟨he, hb⟩ => ⟨_, he, fun Z' => .str _, hb⟩
def cmpB (a b : ByteArray) : Int := Lib.compareBytes a.data.toList b.data.toList
theorem compare_f (a b : ByteArray) : FRet Tryd.prog 60 [.f (.str a), .f (.str b)] [.c (.v (.int .i64 (cmpB a b)))] :=
  fret_calls (by kernel_rfl) fun G Z w vs h1 h2 => by
    obtain ⟨v0, v1, rfl, r0, r1⟩ := args2 h1 h2
    obtain rfl := r0.str_
    obtain rfl := r1.str_
    have hcon := Any.strings_Compare Tryd.lays106 a b w
    change Calls Tryd.prog 60 _ _ _ at hcon
    exact hcon.mono fun e w' ⟨he, hb⟩ => ⟨_, he, fun Z' => .int _ _, by rw [hb]; exact Below.refl _ _⟩
theorem isDigest_f (s : ByteArray) : FRet Tryd.prog 26 [.f (.str s)] [.c (.v (.bool (isDig s)))] := by
  refine FCall.of_ax low_blob_IsDigest ?_
  dsimp only [l_blob_IsDigest]
  refine srun_sound 300 _ _ _ _ ?_
  by_cases h16 : s.size = 16
  · have h1 : decide ((s.size : Int) = 16) = true := by simp; omega
    have h2 : isDig s = decide ((⟨(Lib.trimS s.data.toList hexS).toArray⟩ : ByteArray) = ⟨#[]⟩) := by
      unfold isDig
      rw [show (s.size == 16) = true by simpa using h16, Bool.true_and]
      cases h : Lib.trimS s.data.toList hexS <;> simp
    rw [h2]
    clear h16 h2
    repeat' (first
      | (simp -implicitDefEqProofs only [*, srun_s, srun_0, st_nil, st_skip, st_seq, st_block, st_blk, st_ret, st_exit, st_cond, st_reg, st_draw, st_opsNil, st_dNil, st_call, st_dCall, st_op, st_opG, st_d, st_dG, st_again, st_loop, ic_move, ic_nilChk, ic_pick, ic_alloc, ic_box, ic_build, ic_buildSlice, ic_load, ic_store, ic_bin, ic_un, ic_isNil, ic_eqS, effEqS, ef_eqS, eqL, eqV, Bool.bne_false, Bool.bne_true, effIsNil, ef_isNil, condS_bit, ic_convInt, ic_convStr, ic_clo, ic_makeSlice, ic_slice, ic_slice0, ic_sliceS, ic_fieldAddr, ic_field, ic_indexAddr, ic_indexS, ic_extract, ic_len, ic_maxI, ic_minI, ic_append, ev_tmp, ev_func, ev_int, ev_bool, ev_str, ev_nil, ev_ptr, ev_map, ev_agg, of_int, of_bool, of_str, of_nil, of_ptr, ex_pure, ex_rd, ex_md, ex_rm, ex_new, rdX_some, mdX_some, newX_none, alive_some, cellsOf_some, rds_pure, rds_rd, rds_md, rds_rm, rds_new, wrs_pure, wrs_rd, wrs_md, wrs_rm, wrs_new, noConf_nil, noConf_cons, fpOk, disj_nil, disj_cons, addFp_nil, addFp_cons, effNil, effPick, effBox, effBuild, effBuildS, effLoad, effStore, fvX, effBin, effUn, effConvInt, effConvStr, ef_move, ef_nil, ef_pick, ef_alloc, ef_box, ef_build, ef_buildS, ef_load, ef_store, ef_bin, ef_un, ef_convInt, ef_convStr, effClo, effMake, boundsV, bounds_v, effSlice, effSlice0, effSliceS, effFieldAddr, effField, effIndex, effIndexS, effExtract, effLen, effMax, effMin, effAppend, ef_clo, ef_make, ef_slice, ef_slice0, ef_sliceS, ef_fieldAddr, ef_field, ef_index, ef_indexS, ef_extract, ef_len, ef_max, ef_min, ef_append, toI_int, condS_true, condS_false, execS_some, guardS_tt, guardS_ff, guardS_tf, guardS_ft, guardS_tup, guardD_tup, execD_some, guardD_tt, guardD_ff, guardD_tf, guardD_ft, exitS_some, popTo_blk, popTo_again, popTo_code, putE_some, putE_none, upd_get, upd_same, pickA_true, pickA_false, pickA_bool, binF, unF, FV.isOne, AV.isOne, AV.cellsN, splice, fillA, srcF, bornA, growA, resA, argsE, argsF, List.map_cons, List.map_nil, List.set_cons_zero, List.set_cons_succ, List.getElem?_cons_zero, List.getElem?_cons_succ, List.drop_zero, List.drop_succ_cons, List.take_succ_cons, List.take_zero, List.length_cons, List.length_map, List.length_nil, List.append_nil, List.nil_append, List.cons_append, List.contains_cons, List.contains_nil, Nat.reduceAdd, Nat.reduceSub, Nat.reduceMul, Nat.reduceLT, Nat.reduceLeDiff, Nat.reduceEqDiff, Nat.reduceBEq, Nat.max_def, Nat.zero_add, Nat.add_zero, decide_true, decide_false, reduceIte, Option.getD_some, Option.getD_none, if_true, ite_self, Bool.false_eq_true, reduceCtorEq, Bool.not_true, Bool.not_false, Bool.or_true, Bool.true_or, Bool.and_true, Bool.true_and, Bool.or_false, Bool.false_or, and_true, true_and, and_self, ne_eq, not_false_eq_true, Int.reduceLE, Int.reduceLT, Int.reduceToNat, Int.toNat_natCast, Int.natCast_nonneg, Int.ofNat_lt, H0_at, cellsG_some, mkE_eq, mkE_f, mkE_n, mkH_at, look_cons, look_nil, lookH_cons, lookH_nil, zeros_0, zeros_1, zeros_2, zeros_3, zeros_4, zeros_5, zeros_6, zeros_7, zeros_8, zeros_9, zeros_10, zeros_11, zeros_12, zeros_13, zeros_14, zeros_15, zeros_16, Nat.reduceLeDiff, List.length_set, eq_self, Nat.mul_one, Nat.one_mul, Int.reduceEq, Int.reduceNe, put_S, put_Sn, put_Sa, put_Cs, put_Csn, put_v, put_o, nx_v, nx_o, nx_s, nx_n, pH_S, pH_Sa, pH_n, pH_cs, pH_csn, pH_v, pH_o, oot_1, oot_2, oot_0, Nat.mul_zero, Bool.not_not, beq_self_eq_true, Bool.not_eq_true', Bool.not_eq_false'])
      | (refine condS_splitN (fun hc => ?_) (fun hc => ?_))
      | (refine condS_split (fun hc => ?_) (fun hc => ?_))
      | (refine guardS_splitTN (fun hc => ?_) (fun hc => ?_))
      | (refine guardS_splitFN (fun hc => ?_) (fun hc => ?_))
      | (refine guardD_splitTN (fun hc => ?_) (fun hc => ?_))
      | (refine guardD_splitFN (fun hc => ?_) (fun hc => ?_))
      | (refine guardS_splitT (fun hc => ?_) (fun hc => ?_))
      | (refine guardS_splitF (fun hc => ?_) (fun hc => ?_))
      | (refine guardD_splitT (fun hc => ?_) (fun hc => ?_))
      | (refine guardD_splitF (fun hc => ?_) (fun hc => ?_))
      | (refine callP0 rfl ?_)
      | (refine callD0 rfl ?_)
      | (refine callP rfl (trim_f s (by simp at h1; omega)) rfl (by first | exact LeL.refl _ | (repeat (first | exact LeL.refl _ | exact LeA.refl _ | exact LeA.nil _ | refine LeL.cons ?_ ?_ | refine LeA.agg ?_))) rfl (by first | exact free_0 | exact free_mk rfl | (repeat (first | exact free_0 | exact free_mk rfl | refine free_upd rfl ?_))) ?_)
      | (refine callD rfl (trim_f s (by simp at h1; omega)) rfl (by first | exact LeL.refl _ | (repeat (first | exact LeL.refl _ | exact LeA.refl _ | exact LeA.nil _ | refine LeL.cons ?_ ?_ | refine LeA.agg ?_))) rfl rfl ?_))
    exact ret_v
  · have h1 : decide ((s.size : Int) = 16) = false := by simp; omega
    have h2 : isDig s = false := by unfold isDig; rw [show (s.size == 16) = false by simpa using h16]; rfl
    rw [h2]
    clear h16 h2
    repeat' (first
      | (simp -implicitDefEqProofs only [*, srun_s, srun_0, st_nil, st_skip, st_seq, st_block, st_blk, st_ret, st_exit, st_cond, st_reg, st_draw, st_opsNil, st_dNil, st_call, st_dCall, st_op, st_opG, st_d, st_dG, st_again, st_loop, ic_move, ic_nilChk, ic_pick, ic_alloc, ic_box, ic_build, ic_buildSlice, ic_load, ic_store, ic_bin, ic_un, ic_isNil, ic_eqS, effEqS, ef_eqS, eqL, eqV, Bool.bne_false, Bool.bne_true, effIsNil, ef_isNil, condS_bit, ic_convInt, ic_convStr, ic_clo, ic_makeSlice, ic_slice, ic_slice0, ic_sliceS, ic_fieldAddr, ic_field, ic_indexAddr, ic_indexS, ic_extract, ic_len, ic_maxI, ic_minI, ic_append, ev_tmp, ev_func, ev_int, ev_bool, ev_str, ev_nil, ev_ptr, ev_map, ev_agg, of_int, of_bool, of_str, of_nil, of_ptr, ex_pure, ex_rd, ex_md, ex_rm, ex_new, rdX_some, mdX_some, newX_none, alive_some, cellsOf_some, rds_pure, rds_rd, rds_md, rds_rm, rds_new, wrs_pure, wrs_rd, wrs_md, wrs_rm, wrs_new, noConf_nil, noConf_cons, fpOk, disj_nil, disj_cons, addFp_nil, addFp_cons, effNil, effPick, effBox, effBuild, effBuildS, effLoad, effStore, fvX, effBin, effUn, effConvInt, effConvStr, ef_move, ef_nil, ef_pick, ef_alloc, ef_box, ef_build, ef_buildS, ef_load, ef_store, ef_bin, ef_un, ef_convInt, ef_convStr, effClo, effMake, boundsV, bounds_v, effSlice, effSlice0, effSliceS, effFieldAddr, effField, effIndex, effIndexS, effExtract, effLen, effMax, effMin, effAppend, ef_clo, ef_make, ef_slice, ef_slice0, ef_sliceS, ef_fieldAddr, ef_field, ef_index, ef_indexS, ef_extract, ef_len, ef_max, ef_min, ef_append, toI_int, condS_true, condS_false, execS_some, guardS_tt, guardS_ff, guardS_tf, guardS_ft, guardS_tup, guardD_tup, execD_some, guardD_tt, guardD_ff, guardD_tf, guardD_ft, exitS_some, popTo_blk, popTo_again, popTo_code, putE_some, putE_none, upd_get, upd_same, pickA_true, pickA_false, pickA_bool, binF, unF, FV.isOne, AV.isOne, AV.cellsN, splice, fillA, srcF, bornA, growA, resA, argsE, argsF, List.map_cons, List.map_nil, List.set_cons_zero, List.set_cons_succ, List.getElem?_cons_zero, List.getElem?_cons_succ, List.drop_zero, List.drop_succ_cons, List.take_succ_cons, List.take_zero, List.length_cons, List.length_map, List.length_nil, List.append_nil, List.nil_append, List.cons_append, List.contains_cons, List.contains_nil, Nat.reduceAdd, Nat.reduceSub, Nat.reduceMul, Nat.reduceLT, Nat.reduceLeDiff, Nat.reduceEqDiff, Nat.reduceBEq, Nat.max_def, Nat.zero_add, Nat.add_zero, decide_true, decide_false, reduceIte, Option.getD_some, Option.getD_none, if_true, ite_self, Bool.false_eq_true, reduceCtorEq, Bool.not_true, Bool.not_false, Bool.or_true, Bool.true_or, Bool.and_true, Bool.true_and, Bool.or_false, Bool.false_or, and_true, true_and, and_self, ne_eq, not_false_eq_true, Int.reduceLE, Int.reduceLT, Int.reduceToNat, Int.toNat_natCast, Int.natCast_nonneg, Int.ofNat_lt, H0_at, cellsG_some, mkE_eq, mkE_f, mkE_n, mkH_at, look_cons, look_nil, lookH_cons, lookH_nil, zeros_0, zeros_1, zeros_2, zeros_3, zeros_4, zeros_5, zeros_6, zeros_7, zeros_8, zeros_9, zeros_10, zeros_11, zeros_12, zeros_13, zeros_14, zeros_15, zeros_16, Nat.reduceLeDiff, List.length_set, eq_self, Nat.mul_one, Nat.one_mul, Int.reduceEq, Int.reduceNe, put_S, put_Sn, put_Sa, put_Cs, put_Csn, put_v, put_o, nx_v, nx_o, nx_s, nx_n, pH_S, pH_Sa, pH_n, pH_cs, pH_csn, pH_v, pH_o, oot_1, oot_2, oot_0, Nat.mul_zero, Bool.not_not, beq_self_eq_true, Bool.not_eq_true', Bool.not_eq_false'])
      | (refine condS_splitN (fun hc => ?_) (fun hc => ?_))
      | (refine condS_split (fun hc => ?_) (fun hc => ?_))
      | (refine guardS_splitTN (fun hc => ?_) (fun hc => ?_))
      | (refine guardS_splitFN (fun hc => ?_) (fun hc => ?_))
      | (refine guardD_splitTN (fun hc => ?_) (fun hc => ?_))
      | (refine guardD_splitFN (fun hc => ?_) (fun hc => ?_))
      | (refine guardS_splitT (fun hc => ?_) (fun hc => ?_))
      | (refine guardS_splitF (fun hc => ?_) (fun hc => ?_))
      | (refine guardD_splitT (fun hc => ?_) (fun hc => ?_))
      | (refine guardD_splitF (fun hc => ?_) (fun hc => ?_))
      | (refine callP0 rfl ?_)
      | (refine callD0 rfl ?_))
    exact ret_v
theorem findC_f (b : Blob) (s : ByteArray) : FRet Tryd.prog 62 [.agg ((fBlob b).map .f), .f (.str s)] [.c (.v (.int .i64 (cmpB b.1 s)))] := by
  refine FCall.of_ax low_cache_find_c1 ?_
  dsimp only [l_cache_find_c1, fBlob]
  refine srun_sound 300 _ _ _ _ ?_
  repeat' (first
    | (simp -implicitDefEqProofs only [*, srun_s, srun_0, st_nil, st_skip, st_seq, st_block, st_blk, st_ret, st_exit, st_cond, st_reg, st_draw, st_opsNil, st_dNil, st_call, st_dCall, st_op, st_opG, st_d, st_dG, st_again, st_loop, ic_move, ic_nilChk, ic_pick, ic_alloc, ic_box, ic_build, ic_buildSlice, ic_load, ic_store, ic_bin, ic_un, ic_isNil, ic_eqS, effEqS, ef_eqS, eqL, eqV, Bool.bne_false, Bool.bne_true, effIsNil, ef_isNil, condS_bit, ic_convInt, ic_convStr, ic_clo, ic_makeSlice, ic_slice, ic_slice0, ic_sliceS, ic_fieldAddr, ic_field, ic_indexAddr, ic_indexS, ic_extract, ic_len, ic_maxI, ic_minI, ic_append, ev_tmp, ev_func, ev_int, ev_bool, ev_str, ev_nil, ev_ptr, ev_map, ev_agg, of_int, of_bool, of_str, of_nil, of_ptr, ex_pure, ex_rd, ex_md, ex_rm, ex_new, rdX_some, mdX_some, newX_none, alive_some, cellsOf_some, rds_pure, rds_rd, rds_md, rds_rm, rds_new, wrs_pure, wrs_rd, wrs_md, wrs_rm, wrs_new, noConf_nil, noConf_cons, fpOk, disj_nil, disj_cons, addFp_nil, addFp_cons, effNil, effPick, effBox, effBuild, effBuildS, effLoad, effStore, fvX, effBin, effUn, effConvInt, effConvStr, ef_move, ef_nil, ef_pick, ef_alloc, ef_box, ef_build, ef_buildS, ef_load, ef_store, ef_bin, ef_un, ef_convInt, ef_convStr, effClo, effMake, boundsV, bounds_v, effSlice, effSlice0, effSliceS, effFieldAddr, effField, effIndex, effIndexS, effExtract, effLen, effMax, effMin, effAppend, ef_clo, ef_make, ef_slice, ef_slice0, ef_sliceS, ef_fieldAddr, ef_field, ef_index, ef_indexS, ef_extract, ef_len, ef_max, ef_min, ef_append, toI_int, condS_true, condS_false, execS_some, guardS_tt, guardS_ff, guardS_tf, guardS_ft, guardS_tup, guardD_tup, execD_some, guardD_tt, guardD_ff, guardD_tf, guardD_ft, exitS_some, popTo_blk, popTo_again, popTo_code, putE_some, putE_none, upd_get, upd_same, pickA_true, pickA_false, pickA_bool, binF, unF, FV.isOne, AV.isOne, AV.cellsN, splice, fillA, srcF, bornA, growA, resA, argsE, argsF, List.map_cons, List.map_nil, List.set_cons_zero, List.set_cons_succ, List.getElem?_cons_zero, List.getElem?_cons_succ, List.drop_zero, List.drop_succ_cons, List.take_succ_cons, List.take_zero, List.length_cons, List.length_map, List.length_nil, List.append_nil, List.nil_append, List.cons_append, List.contains_cons, List.contains_nil, Nat.reduceAdd, Nat.reduceSub, Nat.reduceMul, Nat.reduceLT, Nat.reduceLeDiff, Nat.reduceEqDiff, Nat.reduceBEq, Nat.max_def, Nat.zero_add, Nat.add_zero, decide_true, decide_false, reduceIte, Option.getD_some, Option.getD_none, if_true, ite_self, Bool.false_eq_true, reduceCtorEq, Bool.not_true, Bool.not_false, Bool.or_true, Bool.true_or, Bool.and_true, Bool.true_and, Bool.or_false, Bool.false_or, and_true, true_and, and_self, ne_eq, not_false_eq_true, Int.reduceLE, Int.reduceLT, Int.reduceToNat, Int.toNat_natCast, Int.natCast_nonneg, Int.ofNat_lt, H0_at, cellsG_some, mkE_eq, mkE_f, mkE_n, mkH_at, look_cons, look_nil, lookH_cons, lookH_nil, zeros_0, zeros_1, zeros_2, zeros_3, zeros_4, zeros_5, zeros_6, zeros_7, zeros_8, zeros_9, zeros_10, zeros_11, zeros_12, zeros_13, zeros_14, zeros_15, zeros_16, Nat.reduceLeDiff, List.length_set, eq_self, Nat.mul_one, Nat.one_mul, Int.reduceEq, Int.reduceNe, put_S, put_Sn, put_Sa, put_Cs, put_Csn, put_v, put_o, nx_v, nx_o, nx_s, nx_n, pH_S, pH_Sa, pH_n, pH_cs, pH_csn, pH_v, pH_o, oot_1, oot_2, oot_0, Nat.mul_zero, Bool.not_not, beq_self_eq_true, Bool.not_eq_true', Bool.not_eq_false'])
    | (refine condS_splitN (fun hc => ?_) (fun hc => ?_))
    | (refine condS_split (fun hc => ?_) (fun hc => ?_))
    | (refine guardS_splitTN (fun hc => ?_) (fun hc => ?_))
    | (refine guardS_splitFN (fun hc => ?_) (fun hc => ?_))
    | (refine guardD_splitTN (fun hc => ?_) (fun hc => ?_))
    | (refine guardD_splitFN (fun hc => ?_) (fun hc => ?_))
    | (refine guardS_splitT (fun hc => ?_) (fun hc => ?_))
    | (refine guardS_splitF (fun hc => ?_) (fun hc => ?_))
    | (refine guardD_splitT (fun hc => ?_) (fun hc => ?_))
    | (refine guardD_splitF (fun hc => ?_) (fun hc => ?_))
    | (refine callP0 rfl ?_)
    | (refine callD0 rfl ?_)
    | (refine callP rfl (compare_f _ _) rfl (by first | exact LeL.refl _ | (repeat (first | exact LeL.refl _ | exact LeA.refl _ | exact LeA.nil _ | refine LeL.cons ?_ ?_ | refine LeA.agg ?_))) rfl (by first | exact free_0 | exact free_mk rfl | (repeat (first | exact free_0 | exact free_mk rfl | refine free_upd rfl ?_))) ?_)
    | (refine callD rfl (compare_f _ _) rfl (by first | exact LeL.refl _ | (repeat (first | exact LeL.refl _ | exact LeA.refl _ | exact LeA.nil _ | refine LeL.cons ?_ ?_ | refine LeA.agg ?_))) rfl rfl ?_))
  exact ret_v
theorem entryAtC_f (b : Entry) (s : ByteArray) : FRet Tryd.prog 59 [.agg ((fEntry b).map .f), .f (.str s)] [.c (.v (.int .i64 (cmpB b.1 s)))] := by
  refine FCall.of_ax low_cache_entryAt_c1 ?_
  dsimp only [l_cache_entryAt_c1, fEntry]
  refine srun_sound 300 _ _ _ _ ?_
  repeat' (first
    | (simp -implicitDefEqProofs only [*, srun_s, srun_0, st_nil, st_skip, st_seq, st_block, st_blk, st_ret, st_exit, st_cond, st_reg, st_draw, st_opsNil, st_dNil, st_call, st_dCall, st_op, st_opG, st_d, st_dG, st_again, st_loop, ic_move, ic_nilChk, ic_pick, ic_alloc, ic_box, ic_build, ic_buildSlice, ic_load, ic_store, ic_bin, ic_un, ic_isNil, ic_eqS, effEqS, ef_eqS, eqL, eqV, Bool.bne_false, Bool.bne_true, effIsNil, ef_isNil, condS_bit, ic_convInt, ic_convStr, ic_clo, ic_makeSlice, ic_slice, ic_slice0, ic_sliceS, ic_fieldAddr, ic_field, ic_indexAddr, ic_indexS, ic_extract, ic_len, ic_maxI, ic_minI, ic_append, ev_tmp, ev_func, ev_int, ev_bool, ev_str, ev_nil, ev_ptr, ev_map, ev_agg, of_int, of_bool, of_str, of_nil, of_ptr, ex_pure, ex_rd, ex_md, ex_rm, ex_new, rdX_some, mdX_some, newX_none, alive_some, cellsOf_some, rds_pure, rds_rd, rds_md, rds_rm, rds_new, wrs_pure, wrs_rd, wrs_md, wrs_rm, wrs_new, noConf_nil, noConf_cons, fpOk, disj_nil, disj_cons, addFp_nil, addFp_cons, effNil, effPick, effBox, effBuild, effBuildS, effLoad, effStore, fvX, effBin, effUn, effConvInt, effConvStr, ef_move, ef_nil, ef_pick, ef_alloc, ef_box, ef_build, ef_buildS, ef_load, ef_store, ef_bin, ef_un, ef_convInt, ef_convStr, effClo, effMake, boundsV, bounds_v, effSlice, effSlice0, effSliceS, effFieldAddr, effField, effIndex, effIndexS, effExtract, effLen, effMax, effMin, effAppend, ef_clo, ef_make, ef_slice, ef_slice0, ef_sliceS, ef_fieldAddr, ef_field, ef_index, ef_indexS, ef_extract, ef_len, ef_max, ef_min, ef_append, toI_int, condS_true, condS_false, execS_some, guardS_tt, guardS_ff, guardS_tf, guardS_ft, guardS_tup, guardD_tup, execD_some, guardD_tt, guardD_ff, guardD_tf, guardD_ft, exitS_some, popTo_blk, popTo_again, popTo_code, putE_some, putE_none, upd_get, upd_same, pickA_true, pickA_false, pickA_bool, binF, unF, FV.isOne, AV.isOne, AV.cellsN, splice, fillA, srcF, bornA, growA, resA, argsE, argsF, List.map_cons, List.map_nil, List.set_cons_zero, List.set_cons_succ, List.getElem?_cons_zero, List.getElem?_cons_succ, List.drop_zero, List.drop_succ_cons, List.take_succ_cons, List.take_zero, List.length_cons, List.length_map, List.length_nil, List.append_nil, List.nil_append, List.cons_append, List.contains_cons, List.contains_nil, Nat.reduceAdd, Nat.reduceSub, Nat.reduceMul, Nat.reduceLT, Nat.reduceLeDiff, Nat.reduceEqDiff, Nat.reduceBEq, Nat.max_def, Nat.zero_add, Nat.add_zero, decide_true, decide_false, reduceIte, Option.getD_some, Option.getD_none, if_true, ite_self, Bool.false_eq_true, reduceCtorEq, Bool.not_true, Bool.not_false, Bool.or_true, Bool.true_or, Bool.and_true, Bool.true_and, Bool.or_false, Bool.false_or, and_true, true_and, and_self, ne_eq, not_false_eq_true, Int.reduceLE, Int.reduceLT, Int.reduceToNat, Int.toNat_natCast, Int.natCast_nonneg, Int.ofNat_lt, H0_at, cellsG_some, mkE_eq, mkE_f, mkE_n, mkH_at, look_cons, look_nil, lookH_cons, lookH_nil, zeros_0, zeros_1, zeros_2, zeros_3, zeros_4, zeros_5, zeros_6, zeros_7, zeros_8, zeros_9, zeros_10, zeros_11, zeros_12, zeros_13, zeros_14, zeros_15, zeros_16, Nat.reduceLeDiff, List.length_set, eq_self, Nat.mul_one, Nat.one_mul, Int.reduceEq, Int.reduceNe, put_S, put_Sn, put_Sa, put_Cs, put_Csn, put_v, put_o, nx_v, nx_o, nx_s, nx_n, pH_S, pH_Sa, pH_n, pH_cs, pH_csn, pH_v, pH_o, oot_1, oot_2, oot_0, Nat.mul_zero, Bool.not_not, beq_self_eq_true, Bool.not_eq_true', Bool.not_eq_false'])
    | (refine condS_splitN (fun hc => ?_) (fun hc => ?_))
    | (refine condS_split (fun hc => ?_) (fun hc => ?_))
    | (refine guardS_splitTN (fun hc => ?_) (fun hc => ?_))
    | (refine guardS_splitFN (fun hc => ?_) (fun hc => ?_))
    | (refine guardD_splitTN (fun hc => ?_) (fun hc => ?_))
    | (refine guardD_splitFN (fun hc => ?_) (fun hc => ?_))
    | (refine guardS_splitT (fun hc => ?_) (fun hc => ?_))
    | (refine guardS_splitF (fun hc => ?_) (fun hc => ?_))
    | (refine guardD_splitT (fun hc => ?_) (fun hc => ?_))
    | (refine guardD_splitF (fun hc => ?_) (fun hc => ?_))
    | (refine callP0 rfl ?_)
    | (refine callD0 rfl ?_)
    | (refine callP rfl (compare_f _ _) rfl (by first | exact LeL.refl _ | (repeat (first | exact LeL.refl _ | exact LeA.refl _ | exact LeA.nil _ | refine LeL.cons ?_ ?_ | refine LeA.agg ?_))) rfl (by first | exact free_0 | exact free_mk rfl | (repeat (first | exact free_0 | exact free_mk rfl | refine free_upd rfl ?_))) ?_)
    | (refine callD rfl (compare_f _ _) rfl (by first | exact LeL.refl _ | (repeat (first | exact LeL.refl _ | exact LeA.refl _ | exact LeA.nil _ | refine LeL.cons ?_ ?_ | refine LeA.agg ?_))) rfl rfl ?_))
  exact ret_v
/-- Where a search ends, and whether it hits. -/
def bsIdx {α : Type} (cf : α → Int) (l : List α) : Nat := l.countP fun x => decide (cf x < 0)
def bsHit {α : Type} (cf : α → Int) (l : List α) : Bool := match l[bsIdx cf l]? with
  | some x => decide (cf x = 0)
  | none => false
theorem bsIdx_eq {α : Type} {cf : α → Int} {l : List α} {i : Nat} (hi : i ≤ l.length) (h1 : ∀ (m : Nat) x, m < i → l[m]? = some x → cf x < 0) (h2 : ∀ (m : Nat) x, i ≤ m → l[m]? = some x → ¬ cf x < 0) : bsIdx cf l = i := by
  unfold bsIdx
  have e : l = l.take i ++ l.drop i := (List.take_append_drop i l).symm
  rw [e, List.countP_append, List.countP_eq_length.2, List.countP_eq_zero.2]
  · rw [List.length_take]; omega
  · intro x hx
    obtain ⟨m, hm⟩ := List.mem_iff_getElem?.1 hx
    rw [List.getElem?_drop] at hm
    simpa using h2 _ x (by omega) hm
  · intro x hx
    obtain ⟨m, hm⟩ := List.mem_iff_getElem?.1 hx
    have hlt : m < i := by have := (List.getElem?_eq_some_iff.1 hm).1; rw [List.length_take] at this; omega
    rw [List.getElem?_take_of_lt hlt] at hm
    simpa using h1 m x hlt hm
theorem wrapu64 {n : Int} (h1 : 0 ≤ n) (h2 : n ≤ 18446744073709551615) : IntKind.u64.wrap n = n := by
  rw [IntKind.wrap_u64]; omega
theorem bs_blob (l : List Blob) (tgt : ByteArray) (fn : FuncId) (cf : Blob → Int) (hl : l.length ≤ 1000000) (hcmp : ∀ x ∈ l, FRet Tryd.prog fn [.agg ((fBlob x).map .f), .f (.str tgt)] [.c (.v (.int .i64 (cf x)))]) (hmono : ∀ (i j : Nat) x y, i ≤ j → l[i]? = some x → l[j]? = some y → cf y < 0 → cf x < 0) :
    FRet Tryd.prog 61 [.f (.fr 5 (l.map fBlob)), .f (.str tgt), .f (.fn (.func fn))] [.c (.v (.int .i64 (bsIdx cf l))), .c (.v (.bool (bsHit cf l)))] := by
  refine FCall.of_ax low_slices_BinarySearchFunc_api_Blob_api_Blob_string ?_
  dsimp only [l_slices_BinarySearchFunc_api_Blob_api_Blob_string]
  refine srun_sound 300 _ _ _ _ ?_
  repeat' (first
    | (simp -implicitDefEqProofs only [*, srun_s, srun_0, st_nil, st_skip, st_seq, st_block, st_blk, st_ret, st_exit, st_cond, st_reg, st_draw, st_opsNil, st_dNil, st_call, st_dCall, st_op, st_opG, st_d, st_dG, st_again, st_loop, ic_move, ic_nilChk, ic_pick, ic_alloc, ic_box, ic_build, ic_buildSlice, ic_load, ic_store, ic_bin, ic_un, ic_isNil, ic_eqS, effEqS, ef_eqS, eqL, eqV, Bool.bne_false, Bool.bne_true, effIsNil, ef_isNil, condS_bit, ic_convInt, ic_convStr, ic_clo, ic_makeSlice, ic_slice, ic_slice0, ic_sliceS, ic_fieldAddr, ic_field, ic_indexAddr, ic_indexS, ic_extract, ic_len, ic_maxI, ic_minI, ic_append, ev_tmp, ev_func, ev_int, ev_bool, ev_str, ev_nil, ev_ptr, ev_map, ev_agg, of_int, of_bool, of_str, of_nil, of_ptr, ex_pure, ex_rd, ex_md, ex_rm, ex_new, rdX_some, mdX_some, newX_none, alive_some, cellsOf_some, rds_pure, rds_rd, rds_md, rds_rm, rds_new, wrs_pure, wrs_rd, wrs_md, wrs_rm, wrs_new, noConf_nil, noConf_cons, fpOk, disj_nil, disj_cons, addFp_nil, addFp_cons, effNil, effPick, effBox, effBuild, effBuildS, effLoad, effStore, fvX, effBin, effUn, effConvInt, effConvStr, ef_move, ef_nil, ef_pick, ef_alloc, ef_box, ef_build, ef_buildS, ef_load, ef_store, ef_bin, ef_un, ef_convInt, ef_convStr, effClo, effMake, boundsV, bounds_v, effSlice, effSlice0, effSliceS, effFieldAddr, effField, effIndex, effIndexS, effExtract, effLen, effMax, effMin, effAppend, ef_clo, ef_make, ef_slice, ef_slice0, ef_sliceS, ef_fieldAddr, ef_field, ef_index, ef_indexS, ef_extract, ef_len, ef_max, ef_min, ef_append, toI_int, condS_true, condS_false, execS_some, guardS_tt, guardS_ff, guardS_tf, guardS_ft, guardS_tup, guardD_tup, execD_some, guardD_tt, guardD_ff, guardD_tf, guardD_ft, exitS_some, popTo_blk, popTo_again, popTo_code, putE_some, putE_none, upd_get, upd_same, pickA_true, pickA_false, pickA_bool, binF, unF, FV.isOne, AV.isOne, AV.cellsN, splice, fillA, srcF, bornA, growA, resA, argsE, argsF, List.map_cons, List.map_nil, List.set_cons_zero, List.set_cons_succ, List.getElem?_cons_zero, List.getElem?_cons_succ, List.drop_zero, List.drop_succ_cons, List.take_succ_cons, List.take_zero, List.length_cons, List.length_map, List.length_nil, List.append_nil, List.nil_append, List.cons_append, List.contains_cons, List.contains_nil, Nat.reduceAdd, Nat.reduceSub, Nat.reduceMul, Nat.reduceLT, Nat.reduceLeDiff, Nat.reduceEqDiff, Nat.reduceBEq, Nat.max_def, Nat.zero_add, Nat.add_zero, decide_true, decide_false, reduceIte, Option.getD_some, Option.getD_none, if_true, ite_self, Bool.false_eq_true, reduceCtorEq, Bool.not_true, Bool.not_false, Bool.or_true, Bool.true_or, Bool.and_true, Bool.true_and, Bool.or_false, Bool.false_or, and_true, true_and, and_self, ne_eq, not_false_eq_true, Int.reduceLE, Int.reduceLT, Int.reduceToNat, Int.toNat_natCast, Int.natCast_nonneg, Int.ofNat_lt, H0_at, cellsG_some, mkE_eq, mkE_f, mkE_n, mkH_at, look_cons, look_nil, lookH_cons, lookH_nil, zeros_0, zeros_1, zeros_2, zeros_3, zeros_4, zeros_5, zeros_6, zeros_7, zeros_8, zeros_9, zeros_10, zeros_11, zeros_12, zeros_13, zeros_14, zeros_15, zeros_16, Nat.reduceLeDiff, List.length_set, eq_self, Nat.mul_one, Nat.one_mul, Int.reduceEq, Int.reduceNe, put_S, put_Sn, put_Sa, put_Cs, put_Csn, put_v, put_o, nx_v, nx_o, nx_s, nx_n, pH_S, pH_Sa, pH_n, pH_cs, pH_csn, pH_v, pH_o, oot_1, oot_2, oot_0, Nat.mul_zero, Bool.not_not, beq_self_eq_true, Bool.not_eq_true', Bool.not_eq_false'])
    | (refine condS_splitN (fun hc => ?_) (fun hc => ?_))
    | (refine condS_split (fun hc => ?_) (fun hc => ?_))
    | (refine guardS_splitTN (fun hc => ?_) (fun hc => ?_))
    | (refine guardS_splitFN (fun hc => ?_) (fun hc => ?_))
    | (refine guardD_splitTN (fun hc => ?_) (fun hc => ?_))
    | (refine guardD_splitFN (fun hc => ?_) (fun hc => ?_))
    | (refine guardS_splitT (fun hc => ?_) (fun hc => ?_))
    | (refine guardS_splitF (fun hc => ?_) (fun hc => ?_))
    | (refine guardD_splitT (fun hc => ?_) (fun hc => ?_))
    | (refine guardD_splitF (fun hc => ?_) (fun hc => ?_))
    | (refine callP0 rfl ?_)
    | (refine callD0 rfl ?_))
  refine ax_loopU (S := Nat × Nat) 49 [0, 1, 2, 8] [] (fun s => [(9, .f (.int .i64 s.1)), (10, .f (.int .i64 s.2))]) (fun s => []) (fun s => s.1 ≤ s.2 ∧ s.2 ≤ l.length ∧ (∀ (m : Nat) x, m < s.1 → l[m]? = some x → cf x < 0) ∧ (∀ (m : Nat) x, s.2 ≤ m → l[m]? = some x → ¬ cf x < 0)) (fun s => s.2 - s.1) (0, l.length) [] ?_ ?_ fun s hs => ?_
  · exact ⟨Nat.zero_le _, Nat.le_refl _, fun m x h => absurd h (by omega), fun m x h hx => by have := (List.getElem?_eq_some_iff.1 hx).1; omega⟩
  · refine ⟨rfl, (by first | exact small_0 | exact small_mk rfl | (repeat (first | exact small_0 | exact small_mk rfl | refine small_upd rfl ?_))), rfl, rfl, ?_, ?_⟩ <;> simp (config := { decide := false }) only [Int.natCast_zero, List.map_cons, List.cons_append, List.nil_append, List.append_nil, cellsG_some, so_nil, so_cons, so_same, ElOk, so_ff, so_fs, so_ss, so_pp, so_mm, so_aa, HlOk, upd_get, upd_same, mkE_f, mkE_n, mkH_at, look_cons, look_nil, lookH_cons, lookH_nil, List.contains_cons, List.contains_nil, Nat.reduceEqDiff, Nat.reduceBEq, Nat.reduceLT, Nat.reduceLeDiff, Bool.or_false, Bool.or_true, Bool.false_or, Bool.true_or, Bool.false_eq_true, reduceIte, if_true, and_true, true_and, and_self, reduceCtorEq, Option.isSome_some, Option.isSome_none, List.mem_cons, List.not_mem_nil, or_false, false_or, or_true, true_or, not_false_eq_true, List.map_nil, List.length_nil, putE_some, putE_none, H0, Option.some.injEq, AObj.cells.injEq, exists_eq_left', exists_eq_left, List.length_cons, exists_false, false_and, and_false]
  obtain ⟨i, j⟩ := s
  obtain ⟨hij, hj, hlo, hhi⟩ := hs
  dsimp only at hij hj hlo hhi ⊢
  refine srun_sound 300 _ _ _ _ ?_
  rcases Nat.lt_or_ge i j with hlt | hge
  · have h2 := lt_t hlt
    have hw1 : IntKind.i64.wrap ((i : Int) + j) = ((i + j : Nat) : Int) := by rw [wrap64] <;> omega
    have hw2 : IntKind.u64.wrap ((i + j : Nat) : Int) = ((i + j : Nat) : Int) := wrapu64 (by omega) (by omega)
    have hw3 : Int.fdiv ((i + j : Nat) : Int) (2 ^ min 1 IntKind.u64.bits) = (((i + j) / 2 : Nat) : Int) := by
      rw [show min 1 IntKind.u64.bits = 1 from rfl, Int.fdiv_eq_ediv_of_nonneg _ (by decide)]; omega
    have hw4 : IntKind.i64.wrap (((i + j) / 2 : Nat) : Int) = (((i + j) / 2 : Nat) : Int) := by rw [wrap64] <;> omega
    have hw5 : IntKind.i64.wrap ((((i + j) / 2 : Nat) : Int) + 1) = (((i + j) / 2 + 1 : Nat) : Int) := by rw [wrap64] <;> omega
    obtain ⟨x, hx⟩ := get_some (l := l) (i := (i + j) / 2) (by omega)
    have hm := List.mem_of_getElem? hx
    generalize hmid : (i + j) / 2 = mid at hw3 hw4 hw5 hx
    have hi1 : i ≤ mid := by omega
    have hi2 : mid < j := by omega
    clear hmid
    repeat' (first
      | (simp -implicitDefEqProofs only [*, List.getElem?_map, Option.map_some, fBlob, srun_s, srun_0, st_nil, st_skip, st_seq, st_block, st_blk, st_ret, st_exit, st_cond, st_reg, st_draw, st_opsNil, st_dNil, st_call, st_dCall, st_op, st_opG, st_d, st_dG, st_again, st_loop, ic_move, ic_nilChk, ic_pick, ic_alloc, ic_box, ic_build, ic_buildSlice, ic_load, ic_store, ic_bin, ic_un, ic_isNil, ic_eqS, effEqS, ef_eqS, eqL, eqV, Bool.bne_false, Bool.bne_true, effIsNil, ef_isNil, condS_bit, ic_convInt, ic_convStr, ic_clo, ic_makeSlice, ic_slice, ic_slice0, ic_sliceS, ic_fieldAddr, ic_field, ic_indexAddr, ic_indexS, ic_extract, ic_len, ic_maxI, ic_minI, ic_append, ev_tmp, ev_func, ev_int, ev_bool, ev_str, ev_nil, ev_ptr, ev_map, ev_agg, of_int, of_bool, of_str, of_nil, of_ptr, ex_pure, ex_rd, ex_md, ex_rm, ex_new, rdX_some, mdX_some, newX_none, alive_some, cellsOf_some, rds_pure, rds_rd, rds_md, rds_rm, rds_new, wrs_pure, wrs_rd, wrs_md, wrs_rm, wrs_new, noConf_nil, noConf_cons, fpOk, disj_nil, disj_cons, addFp_nil, addFp_cons, effNil, effPick, effBox, effBuild, effBuildS, effLoad, effStore, fvX, effBin, effUn, effConvInt, effConvStr, ef_move, ef_nil, ef_pick, ef_alloc, ef_box, ef_build, ef_buildS, ef_load, ef_store, ef_bin, ef_un, ef_convInt, ef_convStr, effClo, effMake, boundsV, bounds_v, effSlice, effSlice0, effSliceS, effFieldAddr, effField, effIndex, effIndexS, effExtract, effLen, effMax, effMin, effAppend, ef_clo, ef_make, ef_slice, ef_slice0, ef_sliceS, ef_fieldAddr, ef_field, ef_index, ef_indexS, ef_extract, ef_len, ef_max, ef_min, ef_append, toI_int, condS_true, condS_false, execS_some, guardS_tt, guardS_ff, guardS_tf, guardS_ft, guardS_tup, guardD_tup, execD_some, guardD_tt, guardD_ff, guardD_tf, guardD_ft, exitS_some, popTo_blk, popTo_again, popTo_code, putE_some, putE_none, upd_get, upd_same, pickA_true, pickA_false, pickA_bool, binF, unF, FV.isOne, AV.isOne, AV.cellsN, splice, fillA, srcF, bornA, growA, resA, argsE, argsF, List.map_cons, List.map_nil, List.set_cons_zero, List.set_cons_succ, List.getElem?_cons_zero, List.getElem?_cons_succ, List.drop_zero, List.drop_succ_cons, List.take_succ_cons, List.take_zero, List.length_cons, List.length_map, List.length_nil, List.append_nil, List.nil_append, List.cons_append, List.contains_cons, List.contains_nil, Nat.reduceAdd, Nat.reduceSub, Nat.reduceMul, Nat.reduceLT, Nat.reduceLeDiff, Nat.reduceEqDiff, Nat.reduceBEq, Nat.max_def, Nat.zero_add, Nat.add_zero, decide_true, decide_false, reduceIte, Option.getD_some, Option.getD_none, if_true, ite_self, Bool.false_eq_true, reduceCtorEq, Bool.not_true, Bool.not_false, Bool.or_true, Bool.true_or, Bool.and_true, Bool.true_and, Bool.or_false, Bool.false_or, and_true, true_and, and_self, ne_eq, not_false_eq_true, Int.reduceLE, Int.reduceLT, Int.reduceToNat, Int.toNat_natCast, Int.natCast_nonneg, Int.ofNat_lt, H0_at, cellsG_some, mkE_eq, mkE_f, mkE_n, mkH_at, look_cons, look_nil, lookH_cons, lookH_nil, zeros_0, zeros_1, zeros_2, zeros_3, zeros_4, zeros_5, zeros_6, zeros_7, zeros_8, zeros_9, zeros_10, zeros_11, zeros_12, zeros_13, zeros_14, zeros_15, zeros_16, Nat.reduceLeDiff, List.length_set, eq_self, Nat.mul_one, Nat.one_mul, Int.reduceEq, Int.reduceNe, put_S, put_Sn, put_Sa, put_Cs, put_Csn, put_v, put_o, nx_v, nx_o, nx_s, nx_n, pH_S, pH_Sa, pH_n, pH_cs, pH_csn, pH_v, pH_o, oot_1, oot_2, oot_0, Nat.mul_zero, Bool.not_not, beq_self_eq_true, Bool.not_eq_true', Bool.not_eq_false'])
      | (refine condS_splitN (fun hc => ?_) (fun hc => ?_))
      | (refine condS_split (fun hc => ?_) (fun hc => ?_))
      | (refine guardS_splitTN (fun hc => ?_) (fun hc => ?_))
      | (refine guardS_splitFN (fun hc => ?_) (fun hc => ?_))
      | (refine guardD_splitTN (fun hc => ?_) (fun hc => ?_))
      | (refine guardD_splitFN (fun hc => ?_) (fun hc => ?_))
      | (refine guardS_splitT (fun hc => ?_) (fun hc => ?_))
      | (refine guardS_splitF (fun hc => ?_) (fun hc => ?_))
      | (refine guardD_splitT (fun hc => ?_) (fun hc => ?_))
      | (refine guardD_splitF (fun hc => ?_) (fun hc => ?_))
      | (refine callP0 rfl ?_)
      | (refine callD0 rfl ?_)
      | (refine callP rfl (hcmp x hm) rfl (by first | exact LeL.refl _ | (repeat (first | exact LeL.refl _ | exact LeA.refl _ | exact LeA.nil _ | refine LeL.cons ?_ ?_ | refine LeA.agg ?_))) rfl (by first | exact free_0 | exact free_mk rfl | (repeat (first | exact free_0 | exact free_mk rfl | refine free_upd rfl ?_))) ?_)
      | (refine callD rfl (hcmp x hm) rfl (by first | exact LeL.refl _ | (repeat (first | exact LeL.refl _ | exact LeA.refl _ | exact LeA.nil _ | refine LeL.cons ?_ ?_ | refine LeA.agg ?_))) rfl rfl ?_))
    · refine ⟨(mid + 1, j), ⟨hi2, hj, fun m y h1 h3 => hmono m mid y x (by omega) h3 hx (of_decide_eq_true hc), hhi⟩, by simp only; omega, ?_⟩
      refine ⟨rfl, (by first | exact small_0 | exact small_mk rfl | (repeat (first | exact small_0 | exact small_mk rfl | refine small_upd rfl ?_))), rfl, rfl, ?_, ?_⟩ <;> simp (config := { decide := false }) only [Int.natCast_zero, List.map_cons, List.cons_append, List.nil_append, List.append_nil, cellsG_some, so_nil, so_cons, so_same, ElOk, so_ff, so_fs, so_ss, so_pp, so_mm, so_aa, HlOk, upd_get, upd_same, mkE_f, mkE_n, mkH_at, look_cons, look_nil, lookH_cons, lookH_nil, List.contains_cons, List.contains_nil, Nat.reduceEqDiff, Nat.reduceBEq, Nat.reduceLT, Nat.reduceLeDiff, Bool.or_false, Bool.or_true, Bool.false_or, Bool.true_or, Bool.false_eq_true, reduceIte, if_true, and_true, true_and, and_self, reduceCtorEq, Option.isSome_some, Option.isSome_none, List.mem_cons, List.not_mem_nil, or_false, false_or, or_true, true_or, not_false_eq_true, List.map_nil, List.length_nil, putE_some, putE_none, H0, Option.some.injEq, AObj.cells.injEq, exists_eq_left', exists_eq_left, List.length_cons, exists_false, false_and, and_false]
    · refine ⟨(i, mid), ⟨hi1, by omega, hlo, fun m y h1 h3 h4 => of_decide_eq_false hc (hmono mid m x y h1 hx h3 h4)⟩, by simp only; omega, ?_⟩
      refine ⟨rfl, (by first | exact small_0 | exact small_mk rfl | (repeat (first | exact small_0 | exact small_mk rfl | refine small_upd rfl ?_))), rfl, rfl, ?_, ?_⟩ <;> simp (config := { decide := false }) only [Int.natCast_zero, List.map_cons, List.cons_append, List.nil_append, List.append_nil, cellsG_some, so_nil, so_cons, so_same, ElOk, so_ff, so_fs, so_ss, so_pp, so_mm, so_aa, HlOk, upd_get, upd_same, mkE_f, mkE_n, mkH_at, look_cons, look_nil, lookH_cons, lookH_nil, List.contains_cons, List.contains_nil, Nat.reduceEqDiff, Nat.reduceBEq, Nat.reduceLT, Nat.reduceLeDiff, Bool.or_false, Bool.or_true, Bool.false_or, Bool.true_or, Bool.false_eq_true, reduceIte, if_true, and_true, true_and, and_self, reduceCtorEq, Option.isSome_some, Option.isSome_none, List.mem_cons, List.not_mem_nil, or_false, false_or, or_true, true_or, not_false_eq_true, List.map_nil, List.length_nil, putE_some, putE_none, H0, Option.some.injEq, AObj.cells.injEq, exists_eq_left', exists_eq_left, List.length_cons, exists_false, false_and, and_false]
  · obtain rfl : i = j := by omega
    have hidx : bsIdx cf l = i := bsIdx_eq hj hlo hhi
    have h2 := lt_f hge
    rcases Nat.lt_or_ge i l.length with h3 | h3
    · obtain ⟨x, hx⟩ := get_some h3
      have hhit : bsHit cf l = decide (cf x = 0) := by rw [bsHit, hidx, hx]
      rw [hidx, hhit]
      have h4 := lt_t h3
      repeat' (first
        | (simp -implicitDefEqProofs only [*, List.getElem?_map, Option.map_some, fBlob, srun_s, srun_0, st_nil, st_skip, st_seq, st_block, st_blk, st_ret, st_exit, st_cond, st_reg, st_draw, st_opsNil, st_dNil, st_call, st_dCall, st_op, st_opG, st_d, st_dG, st_again, st_loop, ic_move, ic_nilChk, ic_pick, ic_alloc, ic_box, ic_build, ic_buildSlice, ic_load, ic_store, ic_bin, ic_un, ic_isNil, ic_eqS, effEqS, ef_eqS, eqL, eqV, Bool.bne_false, Bool.bne_true, effIsNil, ef_isNil, condS_bit, ic_convInt, ic_convStr, ic_clo, ic_makeSlice, ic_slice, ic_slice0, ic_sliceS, ic_fieldAddr, ic_field, ic_indexAddr, ic_indexS, ic_extract, ic_len, ic_maxI, ic_minI, ic_append, ev_tmp, ev_func, ev_int, ev_bool, ev_str, ev_nil, ev_ptr, ev_map, ev_agg, of_int, of_bool, of_str, of_nil, of_ptr, ex_pure, ex_rd, ex_md, ex_rm, ex_new, rdX_some, mdX_some, newX_none, alive_some, cellsOf_some, rds_pure, rds_rd, rds_md, rds_rm, rds_new, wrs_pure, wrs_rd, wrs_md, wrs_rm, wrs_new, noConf_nil, noConf_cons, fpOk, disj_nil, disj_cons, addFp_nil, addFp_cons, effNil, effPick, effBox, effBuild, effBuildS, effLoad, effStore, fvX, effBin, effUn, effConvInt, effConvStr, ef_move, ef_nil, ef_pick, ef_alloc, ef_box, ef_build, ef_buildS, ef_load, ef_store, ef_bin, ef_un, ef_convInt, ef_convStr, effClo, effMake, boundsV, bounds_v, effSlice, effSlice0, effSliceS, effFieldAddr, effField, effIndex, effIndexS, effExtract, effLen, effMax, effMin, effAppend, ef_clo, ef_make, ef_slice, ef_slice0, ef_sliceS, ef_fieldAddr, ef_field, ef_index, ef_indexS, ef_extract, ef_len, ef_max, ef_min, ef_append, toI_int, condS_true, condS_false, execS_some, guardS_tt, guardS_ff, guardS_tf, guardS_ft, guardS_tup, guardD_tup, execD_some, guardD_tt, guardD_ff, guardD_tf, guardD_ft, exitS_some, popTo_blk, popTo_again, popTo_code, putE_some, putE_none, upd_get, upd_same, pickA_true, pickA_false, pickA_bool, binF, unF, FV.isOne, AV.isOne, AV.cellsN, splice, fillA, srcF, bornA, growA, resA, argsE, argsF, List.map_cons, List.map_nil, List.set_cons_zero, List.set_cons_succ, List.getElem?_cons_zero, List.getElem?_cons_succ, List.drop_zero, List.drop_succ_cons, List.take_succ_cons, List.take_zero, List.length_cons, List.length_map, List.length_nil, List.append_nil, List.nil_append, List.cons_append, List.contains_cons, List.contains_nil, Nat.reduceAdd, Nat.reduceSub, Nat.reduceMul, Nat.reduceLT, Nat.reduceLeDiff, Nat.reduceEqDiff, Nat.reduceBEq, Nat.max_def, Nat.zero_add, Nat.add_zero, decide_true, decide_false, reduceIte, Option.getD_some, Option.getD_none, if_true, ite_self, Bool.false_eq_true, reduceCtorEq, Bool.not_true, Bool.not_false, Bool.or_true, Bool.true_or, Bool.and_true, Bool.true_and, Bool.or_false, Bool.false_or, and_true, true_and, and_self, ne_eq, not_false_eq_true, Int.reduceLE, Int.reduceLT, Int.reduceToNat, Int.toNat_natCast, Int.natCast_nonneg, Int.ofNat_lt, H0_at, cellsG_some, mkE_eq, mkE_f, mkE_n, mkH_at, look_cons, look_nil, lookH_cons, lookH_nil, zeros_0, zeros_1, zeros_2, zeros_3, zeros_4, zeros_5, zeros_6, zeros_7, zeros_8, zeros_9, zeros_10, zeros_11, zeros_12, zeros_13, zeros_14, zeros_15, zeros_16, Nat.reduceLeDiff, List.length_set, eq_self, Nat.mul_one, Nat.one_mul, Int.reduceEq, Int.reduceNe, put_S, put_Sn, put_Sa, put_Cs, put_Csn, put_v, put_o, nx_v, nx_o, nx_s, nx_n, pH_S, pH_Sa, pH_n, pH_cs, pH_csn, pH_v, pH_o, oot_1, oot_2, oot_0, Nat.mul_zero, Bool.not_not, beq_self_eq_true, Bool.not_eq_true', Bool.not_eq_false'])
        | (refine condS_splitN (fun hc => ?_) (fun hc => ?_))
        | (refine condS_split (fun hc => ?_) (fun hc => ?_))
        | (refine guardS_splitTN (fun hc => ?_) (fun hc => ?_))
        | (refine guardS_splitFN (fun hc => ?_) (fun hc => ?_))
        | (refine guardD_splitTN (fun hc => ?_) (fun hc => ?_))
        | (refine guardD_splitFN (fun hc => ?_) (fun hc => ?_))
        | (refine guardS_splitT (fun hc => ?_) (fun hc => ?_))
        | (refine guardS_splitF (fun hc => ?_) (fun hc => ?_))
        | (refine guardD_splitT (fun hc => ?_) (fun hc => ?_))
        | (refine guardD_splitF (fun hc => ?_) (fun hc => ?_))
        | (refine callP0 rfl ?_)
        | (refine callD0 rfl ?_)
        | (refine callP rfl (hcmp x (List.mem_of_getElem? hx)) rfl (by first | exact LeL.refl _ | (repeat (first | exact LeL.refl _ | exact LeA.refl _ | exact LeA.nil _ | refine LeL.cons ?_ ?_ | refine LeA.agg ?_))) rfl (by first | exact free_0 | exact free_mk rfl | (repeat (first | exact free_0 | exact free_mk rfl | refine free_upd rfl ?_))) ?_)
        | (refine callD rfl (hcmp x (List.mem_of_getElem? hx)) rfl (by first | exact LeL.refl _ | (repeat (first | exact LeL.refl _ | exact LeA.refl _ | exact LeA.nil _ | refine LeL.cons ?_ ?_ | refine LeA.agg ?_))) rfl rfl ?_))
      exact ret_vv
    · have hhit : bsHit cf l = false := by rw [bsHit, hidx, List.getElem?_eq_none h3]
      rw [hidx, hhit]
      have h4 := lt_f h3
      repeat' (first
        | (simp -implicitDefEqProofs only [*, srun_s, srun_0, st_nil, st_skip, st_seq, st_block, st_blk, st_ret, st_exit, st_cond, st_reg, st_draw, st_opsNil, st_dNil, st_call, st_dCall, st_op, st_opG, st_d, st_dG, st_again, st_loop, ic_move, ic_nilChk, ic_pick, ic_alloc, ic_box, ic_build, ic_buildSlice, ic_load, ic_store, ic_bin, ic_un, ic_isNil, ic_eqS, effEqS, ef_eqS, eqL, eqV, Bool.bne_false, Bool.bne_true, effIsNil, ef_isNil, condS_bit, ic_convInt, ic_convStr, ic_clo, ic_makeSlice, ic_slice, ic_slice0, ic_sliceS, ic_fieldAddr, ic_field, ic_indexAddr, ic_indexS, ic_extract, ic_len, ic_maxI, ic_minI, ic_append, ev_tmp, ev_func, ev_int, ev_bool, ev_str, ev_nil, ev_ptr, ev_map, ev_agg, of_int, of_bool, of_str, of_nil, of_ptr, ex_pure, ex_rd, ex_md, ex_rm, ex_new, rdX_some, mdX_some, newX_none, alive_some, cellsOf_some, rds_pure, rds_rd, rds_md, rds_rm, rds_new, wrs_pure, wrs_rd, wrs_md, wrs_rm, wrs_new, noConf_nil, noConf_cons, fpOk, disj_nil, disj_cons, addFp_nil, addFp_cons, effNil, effPick, effBox, effBuild, effBuildS, effLoad, effStore, fvX, effBin, effUn, effConvInt, effConvStr, ef_move, ef_nil, ef_pick, ef_alloc, ef_box, ef_build, ef_buildS, ef_load, ef_store, ef_bin, ef_un, ef_convInt, ef_convStr, effClo, effMake, boundsV, bounds_v, effSlice, effSlice0, effSliceS, effFieldAddr, effField, effIndex, effIndexS, effExtract, effLen, effMax, effMin, effAppend, ef_clo, ef_make, ef_slice, ef_slice0, ef_sliceS, ef_fieldAddr, ef_field, ef_index, ef_indexS, ef_extract, ef_len, ef_max, ef_min, ef_append, toI_int, condS_true, condS_false, execS_some, guardS_tt, guardS_ff, guardS_tf, guardS_ft, guardS_tup, guardD_tup, execD_some, guardD_tt, guardD_ff, guardD_tf, guardD_ft, exitS_some, popTo_blk, popTo_again, popTo_code, putE_some, putE_none, upd_get, upd_same, pickA_true, pickA_false, pickA_bool, binF, unF, FV.isOne, AV.isOne, AV.cellsN, splice, fillA, srcF, bornA, growA, resA, argsE, argsF, List.map_cons, List.map_nil, List.set_cons_zero, List.set_cons_succ, List.getElem?_cons_zero, List.getElem?_cons_succ, List.drop_zero, List.drop_succ_cons, List.take_succ_cons, List.take_zero, List.length_cons, List.length_map, List.length_nil, List.append_nil, List.nil_append, List.cons_append, List.contains_cons, List.contains_nil, Nat.reduceAdd, Nat.reduceSub, Nat.reduceMul, Nat.reduceLT, Nat.reduceLeDiff, Nat.reduceEqDiff, Nat.reduceBEq, Nat.max_def, Nat.zero_add, Nat.add_zero, decide_true, decide_false, reduceIte, Option.getD_some, Option.getD_none, if_true, ite_self, Bool.false_eq_true, reduceCtorEq, Bool.not_true, Bool.not_false, Bool.or_true, Bool.true_or, Bool.and_true, Bool.true_and, Bool.or_false, Bool.false_or, and_true, true_and, and_self, ne_eq, not_false_eq_true, Int.reduceLE, Int.reduceLT, Int.reduceToNat, Int.toNat_natCast, Int.natCast_nonneg, Int.ofNat_lt, H0_at, cellsG_some, mkE_eq, mkE_f, mkE_n, mkH_at, look_cons, look_nil, lookH_cons, lookH_nil, zeros_0, zeros_1, zeros_2, zeros_3, zeros_4, zeros_5, zeros_6, zeros_7, zeros_8, zeros_9, zeros_10, zeros_11, zeros_12, zeros_13, zeros_14, zeros_15, zeros_16, Nat.reduceLeDiff, List.length_set, eq_self, Nat.mul_one, Nat.one_mul, Int.reduceEq, Int.reduceNe, put_S, put_Sn, put_Sa, put_Cs, put_Csn, put_v, put_o, nx_v, nx_o, nx_s, nx_n, pH_S, pH_Sa, pH_n, pH_cs, pH_csn, pH_v, pH_o, oot_1, oot_2, oot_0, Nat.mul_zero, Bool.not_not, beq_self_eq_true, Bool.not_eq_true', Bool.not_eq_false'])
        | (refine condS_splitN (fun hc => ?_) (fun hc => ?_))
        | (refine condS_split (fun hc => ?_) (fun hc => ?_))
        | (refine guardS_splitTN (fun hc => ?_) (fun hc => ?_))
        | (refine guardS_splitFN (fun hc => ?_) (fun hc => ?_))
        | (refine guardD_splitTN (fun hc => ?_) (fun hc => ?_))
        | (refine guardD_splitFN (fun hc => ?_) (fun hc => ?_))
        | (refine guardS_splitT (fun hc => ?_) (fun hc => ?_))
        | (refine guardS_splitF (fun hc => ?_) (fun hc => ?_))
        | (refine guardD_splitT (fun hc => ?_) (fun hc => ?_))
        | (refine guardD_splitF (fun hc => ?_) (fun hc => ?_))
        | (refine callP0 rfl ?_)
        | (refine callD0 rfl ?_))
      exact ret_vv

theorem bs_entry (l : List Entry) (tgt : ByteArray) (fn : FuncId) (cf : Entry → Int) (hl : l.length ≤ 1000000) (hcmp : ∀ x ∈ l, FRet Tryd.prog fn [.agg ((fEntry x).map .f), .f (.str tgt)] [.c (.v (.int .i64 (cf x)))]) (hmono : ∀ (i j : Nat) x y, i ≤ j → l[i]? = some x → l[j]? = some y → cf y < 0 → cf x < 0) :
    FRet Tryd.prog 58 [.f (.fr 3 (l.map fEntry)), .f (.str tgt), .f (.fn (.func fn))] [.c (.v (.int .i64 (bsIdx cf l))), .c (.v (.bool (bsHit cf l)))] := by
  refine FCall.of_ax low_slices_BinarySearchFunc_api_Entry_api_Entry_string ?_
  dsimp only [l_slices_BinarySearchFunc_api_Entry_api_Entry_string]
  refine srun_sound 300 _ _ _ _ ?_
  repeat' (first
    | (simp -implicitDefEqProofs only [*, srun_s, srun_0, st_nil, st_skip, st_seq, st_block, st_blk, st_ret, st_exit, st_cond, st_reg, st_draw, st_opsNil, st_dNil, st_call, st_dCall, st_op, st_opG, st_d, st_dG, st_again, st_loop, ic_move, ic_nilChk, ic_pick, ic_alloc, ic_box, ic_build, ic_buildSlice, ic_load, ic_store, ic_bin, ic_un, ic_isNil, ic_eqS, effEqS, ef_eqS, eqL, eqV, Bool.bne_false, Bool.bne_true, effIsNil, ef_isNil, condS_bit, ic_convInt, ic_convStr, ic_clo, ic_makeSlice, ic_slice, ic_slice0, ic_sliceS, ic_fieldAddr, ic_field, ic_indexAddr, ic_indexS, ic_extract, ic_len, ic_maxI, ic_minI, ic_append, ev_tmp, ev_func, ev_int, ev_bool, ev_str, ev_nil, ev_ptr, ev_map, ev_agg, of_int, of_bool, of_str, of_nil, of_ptr, ex_pure, ex_rd, ex_md, ex_rm, ex_new, rdX_some, mdX_some, newX_none, alive_some, cellsOf_some, rds_pure, rds_rd, rds_md, rds_rm, rds_new, wrs_pure, wrs_rd, wrs_md, wrs_rm, wrs_new, noConf_nil, noConf_cons, fpOk, disj_nil, disj_cons, addFp_nil, addFp_cons, effNil, effPick, effBox, effBuild, effBuildS, effLoad, effStore, fvX, effBin, effUn, effConvInt, effConvStr, ef_move, ef_nil, ef_pick, ef_alloc, ef_box, ef_build, ef_buildS, ef_load, ef_store, ef_bin, ef_un, ef_convInt, ef_convStr, effClo, effMake, boundsV, bounds_v, effSlice, effSlice0, effSliceS, effFieldAddr, effField, effIndex, effIndexS, effExtract, effLen, effMax, effMin, effAppend, ef_clo, ef_make, ef_slice, ef_slice0, ef_sliceS, ef_fieldAddr, ef_field, ef_index, ef_indexS, ef_extract, ef_len, ef_max, ef_min, ef_append, toI_int, condS_true, condS_false, execS_some, guardS_tt, guardS_ff, guardS_tf, guardS_ft, guardS_tup, guardD_tup, execD_some, guardD_tt, guardD_ff, guardD_tf, guardD_ft, exitS_some, popTo_blk, popTo_again, popTo_code, putE_some, putE_none, upd_get, upd_same, pickA_true, pickA_false, pickA_bool, binF, unF, FV.isOne, AV.isOne, AV.cellsN, splice, fillA, srcF, bornA, growA, resA, argsE, argsF, List.map_cons, List.map_nil, List.set_cons_zero, List.set_cons_succ, List.getElem?_cons_zero, List.getElem?_cons_succ, List.drop_zero, List.drop_succ_cons, List.take_succ_cons, List.take_zero, List.length_cons, List.length_map, List.length_nil, List.append_nil, List.nil_append, List.cons_append, List.contains_cons, List.contains_nil, Nat.reduceAdd, Nat.reduceSub, Nat.reduceMul, Nat.reduceLT, Nat.reduceLeDiff, Nat.reduceEqDiff, Nat.reduceBEq, Nat.max_def, Nat.zero_add, Nat.add_zero, decide_true, decide_false, reduceIte, Option.getD_some, Option.getD_none, if_true, ite_self, Bool.false_eq_true, reduceCtorEq, Bool.not_true, Bool.not_false, Bool.or_true, Bool.true_or, Bool.and_true, Bool.true_and, Bool.or_false, Bool.false_or, and_true, true_and, and_self, ne_eq, not_false_eq_true, Int.reduceLE, Int.reduceLT, Int.reduceToNat, Int.toNat_natCast, Int.natCast_nonneg, Int.ofNat_lt, H0_at, cellsG_some, mkE_eq, mkE_f, mkE_n, mkH_at, look_cons, look_nil, lookH_cons, lookH_nil, zeros_0, zeros_1, zeros_2, zeros_3, zeros_4, zeros_5, zeros_6, zeros_7, zeros_8, zeros_9, zeros_10, zeros_11, zeros_12, zeros_13, zeros_14, zeros_15, zeros_16, Nat.reduceLeDiff, List.length_set, eq_self, Nat.mul_one, Nat.one_mul, Int.reduceEq, Int.reduceNe, put_S, put_Sn, put_Sa, put_Cs, put_Csn, put_v, put_o, nx_v, nx_o, nx_s, nx_n, pH_S, pH_Sa, pH_n, pH_cs, pH_csn, pH_v, pH_o, oot_1, oot_2, oot_0, Nat.mul_zero, Bool.not_not, beq_self_eq_true, Bool.not_eq_true', Bool.not_eq_false'])
    | (refine condS_splitN (fun hc => ?_) (fun hc => ?_))
    | (refine condS_split (fun hc => ?_) (fun hc => ?_))
    | (refine guardS_splitTN (fun hc => ?_) (fun hc => ?_))
    | (refine guardS_splitFN (fun hc => ?_) (fun hc => ?_))
    | (refine guardD_splitTN (fun hc => ?_) (fun hc => ?_))
    | (refine guardD_splitFN (fun hc => ?_) (fun hc => ?_))
    | (refine guardS_splitT (fun hc => ?_) (fun hc => ?_))
    | (refine guardS_splitF (fun hc => ?_) (fun hc => ?_))
    | (refine guardD_splitT (fun hc => ?_) (fun hc => ?_))
    | (refine guardD_splitF (fun hc => ?_) (fun hc => ?_))
    | (refine callP0 rfl ?_)
    | (refine callD0 rfl ?_))
  refine ax_loopU (S := Nat × Nat) 49 [0, 1, 2, 8] [] (fun s => [(9, .f (.int .i64 s.1)), (10, .f (.int .i64 s.2))]) (fun s => []) (fun s => s.1 ≤ s.2 ∧ s.2 ≤ l.length ∧ (∀ (m : Nat) x, m < s.1 → l[m]? = some x → cf x < 0) ∧ (∀ (m : Nat) x, s.2 ≤ m → l[m]? = some x → ¬ cf x < 0)) (fun s => s.2 - s.1) (0, l.length) [] ?_ ?_ fun s hs => ?_
  · exact ⟨Nat.zero_le _, Nat.le_refl _, fun m x h => absurd h (by omega), fun m x h hx => by have := (List.getElem?_eq_some_iff.1 hx).1; omega⟩
  · refine ⟨rfl, (by first | exact small_0 | exact small_mk rfl | (repeat (first | exact small_0 | exact small_mk rfl | refine small_upd rfl ?_))), rfl, rfl, ?_, ?_⟩ <;> simp (config := { decide := false }) only [Int.natCast_zero, List.map_cons, List.cons_append, List.nil_append, List.append_nil, cellsG_some, so_nil, so_cons, so_same, ElOk, so_ff, so_fs, so_ss, so_pp, so_mm, so_aa, HlOk, upd_get, upd_same, mkE_f, mkE_n, mkH_at, look_cons, look_nil, lookH_cons, lookH_nil, List.contains_cons, List.contains_nil, Nat.reduceEqDiff, Nat.reduceBEq, Nat.reduceLT, Nat.reduceLeDiff, Bool.or_false, Bool.or_true, Bool.false_or, Bool.true_or, Bool.false_eq_true, reduceIte, if_true, and_true, true_and, and_self, reduceCtorEq, Option.isSome_some, Option.isSome_none, List.mem_cons, List.not_mem_nil, or_false, false_or, or_true, true_or, not_false_eq_true, List.map_nil, List.length_nil, putE_some, putE_none, H0, Option.some.injEq, AObj.cells.injEq, exists_eq_left', exists_eq_left, List.length_cons, exists_false, false_and, and_false]
  obtain ⟨i, j⟩ := s
  obtain ⟨hij, hj, hlo, hhi⟩ := hs
  dsimp only at hij hj hlo hhi ⊢
  refine srun_sound 300 _ _ _ _ ?_
  rcases Nat.lt_or_ge i j with hlt | hge
  · have h2 := lt_t hlt
    have hw1 : IntKind.i64.wrap ((i : Int) + j) = ((i + j : Nat) : Int) := by rw [wrap64] <;> omega
    have hw2 : IntKind.u64.wrap ((i + j : Nat) : Int) = ((i + j : Nat) : Int) := wrapu64 (by omega) (by omega)
    have hw3 : Int.fdiv ((i + j : Nat) : Int) (2 ^ min 1 IntKind.u64.bits) = (((i + j) / 2 : Nat) : Int) := by
      rw [show min 1 IntKind.u64.bits = 1 from rfl, Int.fdiv_eq_ediv_of_nonneg _ (by decide)]; omega
    have hw4 : IntKind.i64.wrap (((i + j) / 2 : Nat) : Int) = (((i + j) / 2 : Nat) : Int) := by rw [wrap64] <;> omega
    have hw5 : IntKind.i64.wrap ((((i + j) / 2 : Nat) : Int) + 1) = (((i + j) / 2 + 1 : Nat) : Int) := by rw [wrap64] <;> omega
    obtain ⟨x, hx⟩ := get_some (l := l) (i := (i + j) / 2) (by omega)
    have hm := List.mem_of_getElem? hx
    generalize hmid : (i + j) / 2 = mid at hw3 hw4 hw5 hx
    have hi1 : i ≤ mid := by omega
    have hi2 : mid < j := by omega
    clear hmid
    repeat' (first
      | (simp -implicitDefEqProofs only [*, List.getElem?_map, Option.map_some, fEntry, srun_s, srun_0, st_nil, st_skip, st_seq, st_block, st_blk, st_ret, st_exit, st_cond, st_reg, st_draw, st_opsNil, st_dNil, st_call, st_dCall, st_op, st_opG, st_d, st_dG, st_again, st_loop, ic_move, ic_nilChk, ic_pick, ic_alloc, ic_box, ic_build, ic_buildSlice, ic_load, ic_store, ic_bin, ic_un, ic_isNil, ic_eqS, effEqS, ef_eqS, eqL, eqV, Bool.bne_false, Bool.bne_true, effIsNil, ef_isNil, condS_bit, ic_convInt, ic_convStr, ic_clo, ic_makeSlice, ic_slice, ic_slice0, ic_sliceS, ic_fieldAddr, ic_field, ic_indexAddr, ic_indexS, ic_extract, ic_len, ic_maxI, ic_minI, ic_append, ev_tmp, ev_func, ev_int, ev_bool, ev_str, ev_nil, ev_ptr, ev_map, ev_agg, of_int, of_bool, of_str, of_nil, of_ptr, ex_pure, ex_rd, ex_md, ex_rm, ex_new, rdX_some, mdX_some, newX_none, alive_some, cellsOf_some, rds_pure, rds_rd, rds_md, rds_rm, rds_new, wrs_pure, wrs_rd, wrs_md, wrs_rm, wrs_new, noConf_nil, noConf_cons, fpOk, disj_nil, disj_cons, addFp_nil, addFp_cons, effNil, effPick, effBox, effBuild, effBuildS, effLoad, effStore, fvX, effBin, effUn, effConvInt, effConvStr, ef_move, ef_nil, ef_pick, ef_alloc, ef_box, ef_build, ef_buildS, ef_load, ef_store, ef_bin, ef_un, ef_convInt, ef_convStr, effClo, effMake, boundsV, bounds_v, effSlice, effSlice0, effSliceS, effFieldAddr, effField, effIndex, effIndexS, effExtract, effLen, effMax, effMin, effAppend, ef_clo, ef_make, ef_slice, ef_slice0, ef_sliceS, ef_fieldAddr, ef_field, ef_index, ef_indexS, ef_extract, ef_len, ef_max, ef_min, ef_append, toI_int, condS_true, condS_false, execS_some, guardS_tt, guardS_ff, guardS_tf, guardS_ft, guardS_tup, guardD_tup, execD_some, guardD_tt, guardD_ff, guardD_tf, guardD_ft, exitS_some, popTo_blk, popTo_again, popTo_code, putE_some, putE_none, upd_get, upd_same, pickA_true, pickA_false, pickA_bool, binF, unF, FV.isOne, AV.isOne, AV.cellsN, splice, fillA, srcF, bornA, growA, resA, argsE, argsF, List.map_cons, List.map_nil, List.set_cons_zero, List.set_cons_succ, List.getElem?_cons_zero, List.getElem?_cons_succ, List.drop_zero, List.drop_succ_cons, List.take_succ_cons, List.take_zero, List.length_cons, List.length_map, List.length_nil, List.append_nil, List.nil_append, List.cons_append, List.contains_cons, List.contains_nil, Nat.reduceAdd, Nat.reduceSub, Nat.reduceMul, Nat.reduceLT, Nat.reduceLeDiff, Nat.reduceEqDiff, Nat.reduceBEq, Nat.max_def, Nat.zero_add, Nat.add_zero, decide_true, decide_false, reduceIte, Option.getD_some, Option.getD_none, if_true, ite_self, Bool.false_eq_true, reduceCtorEq, Bool.not_true, Bool.not_false, Bool.or_true, Bool.true_or, Bool.and_true, Bool.true_and, Bool.or_false, Bool.false_or, and_true, true_and, and_self, ne_eq, not_false_eq_true, Int.reduceLE, Int.reduceLT, Int.reduceToNat, Int.toNat_natCast, Int.natCast_nonneg, Int.ofNat_lt, H0_at, cellsG_some, mkE_eq, mkE_f, mkE_n, mkH_at, look_cons, look_nil, lookH_cons, lookH_nil, zeros_0, zeros_1, zeros_2, zeros_3, zeros_4, zeros_5, zeros_6, zeros_7, zeros_8, zeros_9, zeros_10, zeros_11, zeros_12, zeros_13, zeros_14, zeros_15, zeros_16, Nat.reduceLeDiff, List.length_set, eq_self, Nat.mul_one, Nat.one_mul, Int.reduceEq, Int.reduceNe, put_S, put_Sn, put_Sa, put_Cs, put_Csn, put_v, put_o, nx_v, nx_o, nx_s, nx_n, pH_S, pH_Sa, pH_n, pH_cs, pH_csn, pH_v, pH_o, oot_1, oot_2, oot_0, Nat.mul_zero, Bool.not_not, beq_self_eq_true, Bool.not_eq_true', Bool.not_eq_false'])
      | (refine condS_splitN (fun hc => ?_) (fun hc => ?_))
      | (refine condS_split (fun hc => ?_) (fun hc => ?_))
      | (refine guardS_splitTN (fun hc => ?_) (fun hc => ?_))
      | (refine guardS_splitFN (fun hc => ?_) (fun hc => ?_))
      | (refine guardD_splitTN (fun hc => ?_) (fun hc => ?_))
      | (refine guardD_splitFN (fun hc => ?_) (fun hc => ?_))
      | (refine guardS_splitT (fun hc => ?_) (fun hc => ?_))
      | (refine guardS_splitF (fun hc => ?_) (fun hc => ?_))
      | (refine guardD_splitT (fun hc => ?_) (fun hc => ?_))
      | (refine guardD_splitF (fun hc => ?_) (fun hc => ?_))
      | (refine callP0 rfl ?_)
      | (refine callD0 rfl ?_)
      | (refine callP rfl (hcmp x hm) rfl (by first | exact LeL.refl _ | (repeat (first | exact LeL.refl _ | exact LeA.refl _ | exact LeA.nil _ | refine LeL.cons ?_ ?_ | refine LeA.agg ?_))) rfl (by first | exact free_0 | exact free_mk rfl | (repeat (first | exact free_0 | exact free_mk rfl | refine free_upd rfl ?_))) ?_)
      | (refine callD rfl (hcmp x hm) rfl (by first | exact LeL.refl _ | (repeat (first | exact LeL.refl _ | exact LeA.refl _ | exact LeA.nil _ | refine LeL.cons ?_ ?_ | refine LeA.agg ?_))) rfl rfl ?_))
    · refine ⟨(mid + 1, j), ⟨hi2, hj, fun m y h1 h3 => hmono m mid y x (by omega) h3 hx (of_decide_eq_true hc), hhi⟩, by simp only; omega, ?_⟩
      refine ⟨rfl, (by first | exact small_0 | exact small_mk rfl | (repeat (first | exact small_0 | exact small_mk rfl | refine small_upd rfl ?_))), rfl, rfl, ?_, ?_⟩ <;> simp (config := { decide := false }) only [Int.natCast_zero, List.map_cons, List.cons_append, List.nil_append, List.append_nil, cellsG_some, so_nil, so_cons, so_same, ElOk, so_ff, so_fs, so_ss, so_pp, so_mm, so_aa, HlOk, upd_get, upd_same, mkE_f, mkE_n, mkH_at, look_cons, look_nil, lookH_cons, lookH_nil, List.contains_cons, List.contains_nil, Nat.reduceEqDiff, Nat.reduceBEq, Nat.reduceLT, Nat.reduceLeDiff, Bool.or_false, Bool.or_true, Bool.false_or, Bool.true_or, Bool.false_eq_true, reduceIte, if_true, and_true, true_and, and_self, reduceCtorEq, Option.isSome_some, Option.isSome_none, List.mem_cons, List.not_mem_nil, or_false, false_or, or_true, true_or, not_false_eq_true, List.map_nil, List.length_nil, putE_some, putE_none, H0, Option.some.injEq, AObj.cells.injEq, exists_eq_left', exists_eq_left, List.length_cons, exists_false, false_and, and_false]
    · refine ⟨(i, mid), ⟨hi1, by omega, hlo, fun m y h1 h3 h4 => of_decide_eq_false hc (hmono mid m x y h1 hx h3 h4)⟩, by simp only; omega, ?_⟩
      refine ⟨rfl, (by first | exact small_0 | exact small_mk rfl | (repeat (first | exact small_0 | exact small_mk rfl | refine small_upd rfl ?_))), rfl, rfl, ?_, ?_⟩ <;> simp (config := { decide := false }) only [Int.natCast_zero, List.map_cons, List.cons_append, List.nil_append, List.append_nil, cellsG_some, so_nil, so_cons, so_same, ElOk, so_ff, so_fs, so_ss, so_pp, so_mm, so_aa, HlOk, upd_get, upd_same, mkE_f, mkE_n, mkH_at, look_cons, look_nil, lookH_cons, lookH_nil, List.contains_cons, List.contains_nil, Nat.reduceEqDiff, Nat.reduceBEq, Nat.reduceLT, Nat.reduceLeDiff, Bool.or_false, Bool.or_true, Bool.false_or, Bool.true_or, Bool.false_eq_true, reduceIte, if_true, and_true, true_and, and_self, reduceCtorEq, Option.isSome_some, Option.isSome_none, List.mem_cons, List.not_mem_nil, or_false, false_or, or_true, true_or, not_false_eq_true, List.map_nil, List.length_nil, putE_some, putE_none, H0, Option.some.injEq, AObj.cells.injEq, exists_eq_left', exists_eq_left, List.length_cons, exists_false, false_and, and_false]
  · obtain rfl : i = j := by omega
    have hidx : bsIdx cf l = i := bsIdx_eq hj hlo hhi
    have h2 := lt_f hge
    rcases Nat.lt_or_ge i l.length with h3 | h3
    · obtain ⟨x, hx⟩ := get_some h3
      have hhit : bsHit cf l = decide (cf x = 0) := by rw [bsHit, hidx, hx]
      rw [hidx, hhit]
      have h4 := lt_t h3
      repeat' (first
        | (simp -implicitDefEqProofs only [*, List.getElem?_map, Option.map_some, fEntry, srun_s, srun_0, st_nil, st_skip, st_seq, st_block, st_blk, st_ret, st_exit, st_cond, st_reg, st_draw, st_opsNil, st_dNil, st_call, st_dCall, st_op, st_opG, st_d, st_dG, st_again, st_loop, ic_move, ic_nilChk, ic_pick, ic_alloc, ic_box, ic_build, ic_buildSlice, ic_load, ic_store, ic_bin, ic_un, ic_isNil, ic_eqS, effEqS, ef_eqS, eqL, eqV, Bool.bne_false, Bool.bne_true, effIsNil, ef_isNil, condS_bit, ic_convInt, ic_convStr, ic_clo, ic_makeSlice, ic_slice, ic_slice0, ic_sliceS, ic_fieldAddr, ic_field, ic_indexAddr, ic_indexS, ic_extract, ic_len, ic_maxI, ic_minI, ic_append, ev_tmp, ev_func, ev_int, ev_bool, ev_str, ev_nil, ev_ptr, ev_map, ev_agg, of_int, of_bool, of_str, of_nil, of_ptr, ex_pure, ex_rd, ex_md, ex_rm, ex_new, rdX_some, mdX_some, newX_none, alive_some, cellsOf_some, rds_pure, rds_rd, rds_md, rds_rm, rds_new, wrs_pure, wrs_rd, wrs_md, wrs_rm, wrs_new, noConf_nil, noConf_cons, fpOk, disj_nil, disj_cons, addFp_nil, addFp_cons, effNil, effPick, effBox, effBuild, effBuildS, effLoad, effStore, fvX, effBin, effUn, effConvInt, effConvStr, ef_move, ef_nil, ef_pick, ef_alloc, ef_box, ef_build, ef_buildS, ef_load, ef_store, ef_bin, ef_un, ef_convInt, ef_convStr, effClo, effMake, boundsV, bounds_v, effSlice, effSlice0, effSliceS, effFieldAddr, effField, effIndex, effIndexS, effExtract, effLen, effMax, effMin, effAppend, ef_clo, ef_make, ef_slice, ef_slice0, ef_sliceS, ef_fieldAddr, ef_field, ef_index, ef_indexS, ef_extract, ef_len, ef_max, ef_min, ef_append, toI_int, condS_true, condS_false, execS_some, guardS_tt, guardS_ff, guardS_tf, guardS_ft, guardS_tup, guardD_tup, execD_some, guardD_tt, guardD_ff, guardD_tf, guardD_ft, exitS_some, popTo_blk, popTo_again, popTo_code, putE_some, putE_none, upd_get, upd_same, pickA_true, pickA_false, pickA_bool, binF, unF, FV.isOne, AV.isOne, AV.cellsN, splice, fillA, srcF, bornA, growA, resA, argsE, argsF, List.map_cons, List.map_nil, List.set_cons_zero, List.set_cons_succ, List.getElem?_cons_zero, List.getElem?_cons_succ, List.drop_zero, List.drop_succ_cons, List.take_succ_cons, List.take_zero, List.length_cons, List.length_map, List.length_nil, List.append_nil, List.nil_append, List.cons_append, List.contains_cons, List.contains_nil, Nat.reduceAdd, Nat.reduceSub, Nat.reduceMul, Nat.reduceLT, Nat.reduceLeDiff, Nat.reduceEqDiff, Nat.reduceBEq, Nat.max_def, Nat.zero_add, Nat.add_zero, decide_true, decide_false, reduceIte, Option.getD_some, Option.getD_none, if_true, ite_self, Bool.false_eq_true, reduceCtorEq, Bool.not_true, Bool.not_false, Bool.or_true, Bool.true_or, Bool.and_true, Bool.true_and, Bool.or_false, Bool.false_or, and_true, true_and, and_self, ne_eq, not_false_eq_true, Int.reduceLE, Int.reduceLT, Int.reduceToNat, Int.toNat_natCast, Int.natCast_nonneg, Int.ofNat_lt, H0_at, cellsG_some, mkE_eq, mkE_f, mkE_n, mkH_at, look_cons, look_nil, lookH_cons, lookH_nil, zeros_0, zeros_1, zeros_2, zeros_3, zeros_4, zeros_5, zeros_6, zeros_7, zeros_8, zeros_9, zeros_10, zeros_11, zeros_12, zeros_13, zeros_14, zeros_15, zeros_16, Nat.reduceLeDiff, List.length_set, eq_self, Nat.mul_one, Nat.one_mul, Int.reduceEq, Int.reduceNe, put_S, put_Sn, put_Sa, put_Cs, put_Csn, put_v, put_o, nx_v, nx_o, nx_s, nx_n, pH_S, pH_Sa, pH_n, pH_cs, pH_csn, pH_v, pH_o, oot_1, oot_2, oot_0, Nat.mul_zero, Bool.not_not, beq_self_eq_true, Bool.not_eq_true', Bool.not_eq_false'])
        | (refine condS_splitN (fun hc => ?_) (fun hc => ?_))
        | (refine condS_split (fun hc => ?_) (fun hc => ?_))
        | (refine guardS_splitTN (fun hc => ?_) (fun hc => ?_))
        | (refine guardS_splitFN (fun hc => ?_) (fun hc => ?_))
        | (refine guardD_splitTN (fun hc => ?_) (fun hc => ?_))
        | (refine guardD_splitFN (fun hc => ?_) (fun hc => ?_))
        | (refine guardS_splitT (fun hc => ?_) (fun hc => ?_))
        | (refine guardS_splitF (fun hc => ?_) (fun hc => ?_))
        | (refine guardD_splitT (fun hc => ?_) (fun hc => ?_))
        | (refine guardD_splitF (fun hc => ?_) (fun hc => ?_))
        | (refine callP0 rfl ?_)
        | (refine callD0 rfl ?_)
        | (refine callP rfl (hcmp x (List.mem_of_getElem? hx)) rfl (by first | exact LeL.refl _ | (repeat (first | exact LeL.refl _ | exact LeA.refl _ | exact LeA.nil _ | refine LeL.cons ?_ ?_ | refine LeA.agg ?_))) rfl (by first | exact free_0 | exact free_mk rfl | (repeat (first | exact free_0 | exact free_mk rfl | refine free_upd rfl ?_))) ?_)
        | (refine callD rfl (hcmp x (List.mem_of_getElem? hx)) rfl (by first | exact LeL.refl _ | (repeat (first | exact LeL.refl _ | exact LeA.refl _ | exact LeA.nil _ | refine LeL.cons ?_ ?_ | refine LeA.agg ?_))) rfl rfl ?_))
      exact ret_vv
    · have hhit : bsHit cf l = false := by rw [bsHit, hidx, List.getElem?_eq_none h3]
      rw [hidx, hhit]
      have h4 := lt_f h3
      repeat' (first
        | (simp -implicitDefEqProofs only [*, srun_s, srun_0, st_nil, st_skip, st_seq, st_block, st_blk, st_ret, st_exit, st_cond, st_reg, st_draw, st_opsNil, st_dNil, st_call, st_dCall, st_op, st_opG, st_d, st_dG, st_again, st_loop, ic_move, ic_nilChk, ic_pick, ic_alloc, ic_box, ic_build, ic_buildSlice, ic_load, ic_store, ic_bin, ic_un, ic_isNil, ic_eqS, effEqS, ef_eqS, eqL, eqV, Bool.bne_false, Bool.bne_true, effIsNil, ef_isNil, condS_bit, ic_convInt, ic_convStr, ic_clo, ic_makeSlice, ic_slice, ic_slice0, ic_sliceS, ic_fieldAddr, ic_field, ic_indexAddr, ic_indexS, ic_extract, ic_len, ic_maxI, ic_minI, ic_append, ev_tmp, ev_func, ev_int, ev_bool, ev_str, ev_nil, ev_ptr, ev_map, ev_agg, of_int, of_bool, of_str, of_nil, of_ptr, ex_pure, ex_rd, ex_md, ex_rm, ex_new, rdX_some, mdX_some, newX_none, alive_some, cellsOf_some, rds_pure, rds_rd, rds_md, rds_rm, rds_new, wrs_pure, wrs_rd, wrs_md, wrs_rm, wrs_new, noConf_nil, noConf_cons, fpOk, disj_nil, disj_cons, addFp_nil, addFp_cons, effNil, effPick, effBox, effBuild, effBuildS, effLoad, effStore, fvX, effBin, effUn, effConvInt, effConvStr, ef_move, ef_nil, ef_pick, ef_alloc, ef_box, ef_build, ef_buildS, ef_load, ef_store, ef_bin, ef_un, ef_convInt, ef_convStr, effClo, effMake, boundsV, bounds_v, effSlice, effSlice0, effSliceS, effFieldAddr, effField, effIndex, effIndexS, effExtract, effLen, effMax, effMin, effAppend, ef_clo, ef_make, ef_slice, ef_slice0, ef_sliceS, ef_fieldAddr, ef_field, ef_index, ef_indexS, ef_extract, ef_len, ef_max, ef_min, ef_append, toI_int, condS_true, condS_false, execS_some, guardS_tt, guardS_ff, guardS_tf, guardS_ft, guardS_tup, guardD_tup, execD_some, guardD_tt, guardD_ff, guardD_tf, guardD_ft, exitS_some, popTo_blk, popTo_again, popTo_code, putE_some, putE_none, upd_get, upd_same, pickA_true, pickA_false, pickA_bool, binF, unF, FV.isOne, AV.isOne, AV.cellsN, splice, fillA, srcF, bornA, growA, resA, argsE, argsF, List.map_cons, List.map_nil, List.set_cons_zero, List.set_cons_succ, List.getElem?_cons_zero, List.getElem?_cons_succ, List.drop_zero, List.drop_succ_cons, List.take_succ_cons, List.take_zero, List.length_cons, List.length_map, List.length_nil, List.append_nil, List.nil_append, List.cons_append, List.contains_cons, List.contains_nil, Nat.reduceAdd, Nat.reduceSub, Nat.reduceMul, Nat.reduceLT, Nat.reduceLeDiff, Nat.reduceEqDiff, Nat.reduceBEq, Nat.max_def, Nat.zero_add, Nat.add_zero, decide_true, decide_false, reduceIte, Option.getD_some, Option.getD_none, if_true, ite_self, Bool.false_eq_true, reduceCtorEq, Bool.not_true, Bool.not_false, Bool.or_true, Bool.true_or, Bool.and_true, Bool.true_and, Bool.or_false, Bool.false_or, and_true, true_and, and_self, ne_eq, not_false_eq_true, Int.reduceLE, Int.reduceLT, Int.reduceToNat, Int.toNat_natCast, Int.natCast_nonneg, Int.ofNat_lt, H0_at, cellsG_some, mkE_eq, mkE_f, mkE_n, mkH_at, look_cons, look_nil, lookH_cons, lookH_nil, zeros_0, zeros_1, zeros_2, zeros_3, zeros_4, zeros_5, zeros_6, zeros_7, zeros_8, zeros_9, zeros_10, zeros_11, zeros_12, zeros_13, zeros_14, zeros_15, zeros_16, Nat.reduceLeDiff, List.length_set, eq_self, Nat.mul_one, Nat.one_mul, Int.reduceEq, Int.reduceNe, put_S, put_Sn, put_Sa, put_Cs, put_Csn, put_v, put_o, nx_v, nx_o, nx_s, nx_n, pH_S, pH_Sa, pH_n, pH_cs, pH_csn, pH_v, pH_o, oot_1, oot_2, oot_0, Nat.mul_zero, Bool.not_not, beq_self_eq_true, Bool.not_eq_true', Bool.not_eq_false'])
        | (refine condS_splitN (fun hc => ?_) (fun hc => ?_))
        | (refine condS_split (fun hc => ?_) (fun hc => ?_))
        | (refine guardS_splitTN (fun hc => ?_) (fun hc => ?_))
        | (refine guardS_splitFN (fun hc => ?_) (fun hc => ?_))
        | (refine guardD_splitTN (fun hc => ?_) (fun hc => ?_))
        | (refine guardD_splitFN (fun hc => ?_) (fun hc => ?_))
        | (refine guardS_splitT (fun hc => ?_) (fun hc => ?_))
        | (refine guardS_splitF (fun hc => ?_) (fun hc => ?_))
        | (refine guardD_splitT (fun hc => ?_) (fun hc => ?_))
        | (refine guardD_splitF (fun hc => ?_) (fun hc => ?_))
        | (refine callP0 rfl ?_)
        | (refine callD0 rfl ?_))
      exact ret_vv

end Go.Proofs.YteeemcghdhdodaaDoor
