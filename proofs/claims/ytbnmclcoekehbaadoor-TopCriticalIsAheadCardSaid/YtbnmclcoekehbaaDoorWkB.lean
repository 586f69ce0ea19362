/-
  The order of works on the machine. No statement of the seat is proved here; no conditions.
-/
import Derived.Test.YtbnmclcoekehbaaDoorWkA
import Derived.Test.YtbnmclcoekehbaaDoorNst
namespace Go.Proofs.YtbnmclcoekehbaaDoor
open Go.RowKit Go.Shelf
set_option linter.unusedVariables false
set_option linter.unusedSimpArgs false
set_option maxRecDepth 100000

theorem ixf_strs (l : List ByteArray) (fn : FuncId) (caps : List AV) (p : ByteArray → Bool) (hl : l.length ≤ 1000000) (hp : ∀ x ∈ l, FRet Tryd.prog fn ([.f (FV.str x)] ++ caps) [.c (.v (.bool (p x)))]) (hcp : caps.all AV.pure = true) :
    FRet Tryd.prog 33 [.f (.fr 1 (l.map fun x => [FV.str x])), .clo (.func fn) caps] [.c (.v (.int .i64 (ixV p l)))] := by
  refine FCall.of_ax low_slices_IndexFunc_string_string ?_
  dsimp only [l_slices_IndexFunc_string_string]
  refine srun_sound 300 _ _ _ _ ?_
  repeat' (first
    | (simp -implicitDefEqProofs only [*, zr, Nat.reduceAdd, Nat.reduceSub, Nat.reduceMul, Nat.reduceLT, Nat.reduceLeDiff, Nat.reduceEqDiff, Nat.reduceBEq, reduceIte, reduceCtorEq, Int.reduceLE, Int.reduceLT, Int.reduceToNat, Int.reduceEq, Int.reduceNe])
    | ((first | apply zk0 | apply zk1 | apply zk2 | apply zk3 | apply zk4 | apply zk5 | apply zk6 | apply zk7 | apply zk8 | apply zk9) <;> intro hc)
    | (refine callP0 rfl ?_)
    | (refine callD0 rfl ?_)
    | fail)
  refine ax_loopU (S := Nat) 19 [0, 1, 7] [] (fun s => [(8, .f (.int .i64 s))]) (fun s => []) (fun s => s ≤ l.length ∧ ∀ k x, k < s → l[k]? = some x → p x = false) (fun s => l.length - s) (0) [] ?_ ?_ fun s hs => ?_
  · exact ⟨Nat.zero_le _, fun k x h => absurd h (by omega)⟩
  · refine wk_i ?_ ?_ <;> simp only [hcp, so_clo, zw, Nat.reduceEqDiff, Nat.reduceBEq, Nat.reduceLT, Nat.reduceLeDiff, reduceIte, reduceCtorEq]
  obtain ⟨hi, hall⟩ := hs
  refine srun_sound 300 _ _ _ _ ?_
  have hA := hide hall
  clear hall
  rcases Nat.lt_or_ge s l.length with hlt | hge
  · obtain ⟨x, hx⟩ := get_some hlt
    have h4 := inc64 hlt (by omega)
    have h2 := lt_t hlt
    have hm := List.mem_of_getElem? hx
    cases hpx : p x
    · repeat' (first
        | (simp -implicitDefEqProofs only [*, List.getElem?_map, Option.map_some, zr, Nat.reduceAdd, Nat.reduceSub, Nat.reduceMul, Nat.reduceLT, Nat.reduceLeDiff, Nat.reduceEqDiff, Nat.reduceBEq, reduceIte, reduceCtorEq, Int.reduceLE, Int.reduceLT, Int.reduceToNat, Int.reduceEq, Int.reduceNe])
        | ((first | apply zk0 | apply zk1 | apply zk2 | apply zk3 | apply zk4 | apply zk5 | apply zk6 | apply zk7 | apply zk8 | apply zk9) <;> intro hc)
        | (refine callP0 rfl ?_)
        | (refine callD0 rfl ?_)
        | (refine cC (hp x hm) ?_)
        | fail)
      refine ⟨s + 1, ⟨hlt, fun k y hk hy => ?_⟩, by omega, ?_⟩
      · rcases Nat.lt_succ_iff_lt_or_eq.1 hk with h1 | rfl
        · exact hA.out k y h1 hy
        · rw [hx] at hy; obtain rfl := Option.some.inj hy; exact hpx
      · refine wk_i ?_ ?_ <;> simp only [hcp, so_clo, zw, Nat.reduceEqDiff, Nat.reduceBEq, Nat.reduceLT, Nat.reduceLeDiff, reduceIte, reduceCtorEq]
    · have he := ix_hit hA.out hx hpx
      repeat' (first
        | (simp -implicitDefEqProofs only [*, List.getElem?_map, Option.map_some, zr, Nat.reduceAdd, Nat.reduceSub, Nat.reduceMul, Nat.reduceLT, Nat.reduceLeDiff, Nat.reduceEqDiff, Nat.reduceBEq, reduceIte, reduceCtorEq, Int.reduceLE, Int.reduceLT, Int.reduceToNat, Int.reduceEq, Int.reduceNe])
        | ((first | apply zk0 | apply zk1 | apply zk2 | apply zk3 | apply zk4 | apply zk5 | apply zk6 | apply zk7 | apply zk8 | apply zk9) <;> intro hc)
        | (refine callP0 rfl ?_)
        | (refine callD0 rfl ?_)
        | (refine cC (hp x hm) ?_)
        | fail)
      exact ret_ve rfl
  · obtain rfl : s = l.length := by omega
    have h2 := lt_f hge
    have he := ix_none hA.out
    repeat' (first
      | (simp -implicitDefEqProofs only [*, zr, Nat.reduceAdd, Nat.reduceSub, Nat.reduceMul, Nat.reduceLT, Nat.reduceLeDiff, Nat.reduceEqDiff, Nat.reduceBEq, reduceIte, reduceCtorEq, Int.reduceLE, Int.reduceLT, Int.reduceToNat, Int.reduceEq, Int.reduceNe])
      | ((first | apply zk0 | apply zk1 | apply zk2 | apply zk3 | apply zk4 | apply zk5 | apply zk6 | apply zk7 | apply zk8 | apply zk9) <;> intro hc)
      | (refine callP0 rfl ?_)
      | (refine callD0 rfl ?_)
      | fail)
    exact ret_ve rfl
theorem cf_strs (l : List ByteArray) (fn : FuncId) (caps : List AV) (p : ByteArray → Bool) (hl : l.length ≤ 1000000) (hp : ∀ x ∈ l, FRet Tryd.prog fn ([.f (FV.str x)] ++ caps) [.c (.v (.bool (p x)))]) (hcp : caps.all AV.pure = true) :
    FRet Tryd.prog 26 [.f (.fr 1 (l.map fun x => [FV.str x])), .clo (.func fn) caps] [.c (.v (.bool (l.any p)))] := by
  have hI := ixf_strs l fn caps p hl hp hcp
  have he := ix_any p l
  refine FCall.of_ax low_slices_ContainsFunc_string_string ?_
  dsimp only [l_slices_ContainsFunc_string_string]
  refine srun_sound 300 _ _ _ _ ?_
  replace hp := hide hp
  generalize ixV p l = i at *
  generalize l.any p = q at *
  repeat' (first
    | (simp -implicitDefEqProofs only [*, zr, Nat.reduceAdd, Nat.reduceSub, Nat.reduceMul, Nat.reduceLT, Nat.reduceLeDiff, Nat.reduceEqDiff, Nat.reduceBEq, reduceIte, reduceCtorEq, Int.reduceLE, Int.reduceLT, Int.reduceToNat, Int.reduceEq, Int.reduceNe])
    | ((first | apply zk0 | apply zk1 | apply zk2 | apply zk3 | apply zk4 | apply zk5 | apply zk6 | apply zk7 | apply zk8 | apply zk9) <;> intro hc)
    | (refine callP0 rfl ?_)
    | (refine callD0 rfl ?_)
    | fail)
  refine cP hI ?_ (hp := by simpa [AV.pure, AV.pureL_all] using hcp)
  repeat' (first
    | (simp -implicitDefEqProofs only [*, zr, Nat.reduceAdd, Nat.reduceSub, Nat.reduceMul, Nat.reduceLT, Nat.reduceLeDiff, Nat.reduceEqDiff, Nat.reduceBEq, reduceIte, reduceCtorEq, Int.reduceLE, Int.reduceLT, Int.reduceToNat, Int.reduceEq, Int.reduceNe])
    | ((first | apply zk0 | apply zk1 | apply zk2 | apply zk3 | apply zk4 | apply zk5 | apply zk6 | apply zk7 | apply zk8 | apply zk9) <;> intro hc)
    | (refine callP0 rfl ?_)
    | (refine callD0 rfl ?_)
    | fail)
  exact ret_ve rfl

def frBo (d : List Bool) : FV := .fr 1 ((d.map FV.bool).map fun x => [x])
theorem frBo_eq (d : List Bool) : frBo d = .fr 1 (d.map fun b => [.bool b]) := by simp [frBo]
theorem ordC_f (l : List Work) (d : List Bool) (s : ByteArray) (hl : l.length ≤ 1000000) (hr : Rising (fun b : Work => b.1) l) (hi : wIdx l s < d.length) : FRet Tryd.prog 27 ([.f (.str s)] ++ [.f (.fp [frWorks l]), .f (.fp [frBo d])]) [.c (.v (.bool (!(d.getD (wIdx l s) false))))] := by
  have k := workAt_f l s hl hr
  rw [frBo_eq]
  generalize wIdx l s = i at *
  generalize wHas l s = h at *
  obtain ⟨b, hb⟩ := get_some hi
  have e : d.getD i false = b := by rw [List.getD_eq_getElem?_getD, hb]; rfl
  rw [e]
  have h2 := lt_t hi
  have hc : (d.map fun b => [FV.bool b])[i]? = some [.bool b] := by rw [List.getElem?_map, hb]; rfl
  clear e hr hl
  replace k := hide k
  refine FCall.of_ax low_workers_ordered_c1 ?_
  dsimp only [l_workers_ordered_c1]
  refine srun_sound 300 _ _ _ _ ?_
  repeat' (first
    | (simp -implicitDefEqProofs only [*, addFp_wr, zr, Nat.reduceAdd, Nat.reduceSub, Nat.reduceMul, Nat.reduceLT, Nat.reduceLeDiff, Nat.reduceEqDiff, Nat.reduceBEq, reduceIte, reduceCtorEq, Int.reduceLE, Int.reduceLT, Int.reduceToNat, Int.reduceEq, Int.reduceNe])
    | ((first | apply zk0 | apply zk1 | apply zk2 | apply zk3 | apply zk4 | apply zk5 | apply zk6 | apply zk7 | apply zk8 | apply zk9) <;> intro hc)
    | (refine callP0 rfl ?_)
    | (refine callD0 rfl ?_)
    | (refine cP (k.out) ?_)
    | (refine cD (k.out) ?_)
    | (refine cF (k.out) ?_)
    | (refine cO (k.out) ?_)
    | fail)
  exact ret_v
/-! ### ordered -/
theorem wStep_skip {E : List (List Nat)} {s : WSt} {i : Nat} (h : (s.1.getD i false || wBlk E s.1 i) = true) : wStep E s i = s := if_pos h
theorem wStep_add {E : List (List Nat)} {s : WSt} {i : Nat} (h : (s.1.getD i false || wBlk E s.1 i) = false) : wStep E s i = (s.1.set i true, s.2 ++ [i]) := if_neg (by rw [h]; decide)
theorem wBlk_any {l : List Work} {d : List Bool} {i : Nat} {x : Work} (h : l[i]? = some x) : wBlk (aftE l) d i = x.2.2.2.any (fun id => !(d.getD (wIdx l id) false)) := by
  unfold wBlk aftE
  rw [List.getD_eq_getElem?_getD, List.getElem?_map, h]
  simp only [Option.map_some, Option.getD_some, List.any_map]; rfl
theorem wIdx_lt {l : List Work} {t : ByteArray} (hr : Rising (fun b : Work => b.1) l) (h : wHas l t = true) : wIdx l t < l.length := by
  unfold wHas at h
  rw [← bsHit_eq hr, bsHit] at h
  unfold wIdx
  split at h
  · rename_i x hx
    exact (List.getElem?_eq_some_iff.1 hx).1
  · cases h
set_option maxHeartbeats 4000000 in
theorem ordered_f (l : List Work) (hl : l.length ≤ 200) (hr : Rising (fun b : Work => b.1) l) (hd : aftOk l = true) (hal : ∀ x ∈ l, x.2.2.2.length ≤ 1000000) : FRet Tryd.prog 16 [.f (frWorks l)] [.c (.own 1 (ordWV l).length ((ordWV l).map fN)), .c (.v (.bool (decide (((ordWV l).length : Int) = (l.length : Int)))))] := by
  have hE : ∀ (x : Work) (d : List Bool), x ∈ l → d.length = l.length → FRet Tryd.prog 26 [.f (frStrs x.2.2.2), .clo (.func 27) [.f (.fp [frWorks l]), .f (.fp [frBo d])]] [.c (.v (.bool (x.2.2.2.any (fun id => !(d.getD (wIdx l id) false)))))] := fun x d hx hdl => by
    have := cf_strs x.2.2.2 27 [.f (.fp [frWorks l]), .f (.fp [frBo d])] (fun id => !(d.getD (wIdx l id) false)) (hal x hx) (fun id hid => ordC_f l d id (by omega) hr (by rw [hdl]; exact wIdx_lt hr (List.all_eq_true.1 (List.all_eq_true.1 hd x hx) id hid))) rfl
    exact this
  replace hE := hide hE
  have hst : (ordWV l) = (wFin (aftE l) l.length (List.replicate l.length false, [])).2 := rfl
  have k0 := le_tt (show (0 : Int) ≤ (l.length : Int) by omega)
  have k1 := le_tt (show ((l.length : Int) * ((1 : Nat) : Int)) ≤ 140737488355328 by omega)
  have k2 := le_tt (show (l.length : Int) ≤ 9223372036854775807 by omega)
  replace hst := hide hst
  clear hr hd hal
  refine FCall.of_ax low_workers_ordered ?_
  dsimp only [l_workers_ordered, frWorks]
  refine srun_sound 300 _ _ _ _ ?_
  repeat' (first
    | (simp -implicitDefEqProofs only [*, Int.le_refl, zr, Nat.reduceAdd, Nat.reduceSub, Nat.reduceMul, Nat.reduceLT, Nat.reduceLeDiff, Nat.reduceEqDiff, Nat.reduceBEq, reduceIte, reduceCtorEq, Int.reduceLE, Int.reduceLT, Int.reduceToNat, Int.reduceEq, Int.reduceNe])
    | ((first | apply zk0 | apply zk1 | apply zk2 | apply zk3 | apply zk4 | apply zk5 | apply zk6 | apply zk7 | apply zk8 | apply zk9) <;> intro hc)
    | (refine callP0 rfl ?_)
    | (refine callD0 rfl ?_)
    | fail)
  have z0 : zeros l.length [FV.bool false] = ((List.replicate l.length false).map FV.bool).map AV.f := by
    rw [zeros_one]; simp
  refine ax_loopU (S := WSt × Bool) 44 [1, 4] [1, 4] (fun s => [(6, .f (.bool s.2)), (5, .sl 36 1 1 0 s.1.2.length)]) (fun s => [(11, 1, .cells ((s.1.1.map FV.bool).map .f)), (36, 1, .cells ((s.1.2.map fN).map .f))]) (fun s => WInv (aftE l) l.length s.1 ∧ (ordWV l) = (if s.2 = true then wFin (aftE l) l.length s.1 else s.1).2) (fun s => (l.length - s.1.2.length) * 2 + (if s.2 = true then 1 else 0)) ((List.replicate l.length false, []), true) [36] ?_ ?_ fun s hs => ?_
  · exact ⟨wInv_0, hst.out⟩
  · refine wk_i ?_ ?_ <;> simp only [z0, zw, Nat.reduceEqDiff, Nat.reduceBEq, Nat.reduceLT, Nat.reduceLeDiff, reduceIte, reduceCtorEq]
  obtain ⟨⟨D, O⟩, more⟩ := s
  obtain ⟨hI, hO⟩ := hs
  dsimp only at hI hO ⊢
  clear z0 k0 k1 k2 hst
  refine srun_sound 300 _ _ _ _ ?_
  have hOl := hI.le
  dsimp only at hOl
  cases more
  · simp only [Bool.false_eq_true, if_false] at hO
    rw [hO]
    clear hO hI
    repeat' (first
      | (simp -implicitDefEqProofs only [*, zr, Nat.reduceAdd, Nat.reduceSub, Nat.reduceMul, Nat.reduceLT, Nat.reduceLeDiff, Nat.reduceEqDiff, Nat.reduceBEq, reduceIte, reduceCtorEq, Int.reduceLE, Int.reduceLT, Int.reduceToNat, Int.reduceEq, Int.reduceNe])
      | ((first | apply zk0 | apply zk1 | apply zk2 | apply zk3 | apply zk4 | apply zk5 | apply zk6 | apply zk7 | apply zk8 | apply zk9) <;> intro hc)
      | (refine callP0 rfl ?_)
      | (refine callD0 rfl ?_)
      | fail)
    exact ⟨[.sl 36 1 1 0 O.length, .f (.bool _)], rfl, ⟨.inr ⟨36, 1, rfl, by simp [cellsOf, mkH, lookH], by rw [List.length_map, Nat.mul_one]; exact Nat.le_refl _⟩, rfl, rfl⟩, by simp [idsS]⟩
  rw [if_pos rfl] at hO
  have hMono := fun s => (wFold_len (E := aftE l) (List.range s) (D, O)).1
  dsimp only at hMono
  replace hO := hide hO
  have hI2 := hide hI
  clear hI
  replace hMono := hide hMono
  repeat' (first
    | (simp -implicitDefEqProofs only [*, zr, Nat.reduceAdd, Nat.reduceSub, Nat.reduceMul, Nat.reduceLT, Nat.reduceLeDiff, Nat.reduceEqDiff, Nat.reduceBEq, reduceIte, reduceCtorEq, Int.reduceLE, Int.reduceLT, Int.reduceToNat, Int.reduceEq, Int.reduceNe])
    | ((first | apply zk0 | apply zk1 | apply zk2 | apply zk3 | apply zk4 | apply zk5 | apply zk6 | apply zk7 | apply zk8 | apply zk9) <;> intro hc)
    | (refine callP0 rfl ?_)
    | (refine callD0 rfl ?_)
    | fail)
  refine ax_loopU (S := Nat) 44 [1, 4, 13, 14] [1, 4] (fun s => [(15, .f (.int .i64 s)), (6, .f (.bool (!decide (((List.range s).foldl (wStep (aftE l)) (D, O)).2.length = O.length)))), (5, .sl 36 1 1 0 ((List.range s).foldl (wStep (aftE l)) (D, O)).2.length)]) (fun s => [(11, 1, .cells ((((List.range s).foldl (wStep (aftE l)) (D, O)).1.map FV.bool).map .f)), (36, 1, .cells ((((List.range s).foldl (wStep (aftE l)) (D, O)).2.map fN).map .f))]) (fun s => s ≤ l.length) (fun s => l.length - s) (0) [] ?_ ?_ fun s hs => ?_
  · exact Nat.zero_le _
  · refine wk_i ?_ ?_ <;> simp only [List.range_zero, List.foldl_nil, show (!decide (O.length = O.length)) = false from by simp, zw, Nat.reduceEqDiff, Nat.reduceBEq, Nat.reduceLT, Nat.reduceLeDiff, reduceIte, reduceCtorEq]
    all_goals rfl
  have hIs := hI2.out.pass s hs
  have hMs := hMono.out s
  have hs2 : (List.range (s + 1)).foldl (wStep (aftE l)) (D, O) = wStep (aftE l) ((List.range s).foldl (wStep (aftE l)) (D, O)) s := by rw [List.range_succ, List.foldl_append]; rfl
  refine srun_sound 300 _ _ _ _ ?_
  rcases Nat.lt_or_ge s l.length with hlt | hge
  · generalize (List.range s).foldl (wStep (aftE l)) (D, O) = t at *
    obtain ⟨D1, O1⟩ := t
    have hdl := hIs.dl
    have hOl1 := hIs.le
    dsimp only at hdl hOl1 hMs ⊢
    obtain ⟨x, hx⟩ := get_some hlt
    obtain ⟨b, hb⟩ := get_some (l := D1) (i := s) (by omega)
    have hbd : D1.getD s false = b := by rw [List.getD_eq_getElem?_getD, hb]; rfl
    have hbl := wBlk_any (d := D1) hx
    have hc := hE.out x D1 (List.mem_of_getElem? hx) hdl
    generalize (x.2.2.2.any fun id => !(D1.getD (wIdx l id) false)) = B at hc hbl
    replace hc := hide hc
    have hsk : b = true ∨ B = true → (List.range (s + 1)).foldl (wStep (aftE l)) (D, O) = (D1, O1) := fun h => by
      rw [hs2]; refine wStep_skip ?_
      dsimp only
      rw [hbd, hbl]; rcases h with rfl | rfl <;> simp
    have had : b = false → B = false → (List.range (s + 1)).foldl (wStep (aftE l)) (D, O) = (D1.set s true, O1 ++ [s]) := fun h h2 => by
      rw [hs2]; refine wStep_add ?_
      dsimp only
      rw [hbd, hbl, h, h2]; rfl
    replace hsk := hide hsk
    replace had := hide had
    have h4 := inc64 hlt (by omega)
    have h2 := lt_t hlt
    have hsb := bset D1 s true
    have hk := nle_t (show s + 1 ≤ l.length by omega)
    have hk8 := nle_t (show (O1.length + 1) * 8 ≤ 140737488355328 by omega)
    clear hs2 hbd hbl hIs
    obtain ⟨xi, xn, xs, xa⟩ := x
    dsimp only at hc
    cases b
    · repeat' (first
        | (simp -implicitDefEqProofs only [*, List.getElem?_map, Option.map_some, fWork, List.length_map, zr, Nat.reduceAdd, Nat.reduceSub, Nat.reduceMul, Nat.reduceLT, Nat.reduceLeDiff, Nat.reduceEqDiff, Nat.reduceBEq, reduceIte, reduceCtorEq, Int.reduceLE, Int.reduceLT, Int.reduceToNat, Int.reduceEq, Int.reduceNe])
        | ((first | apply zk0 | apply zk1 | apply zk2 | apply zk3 | apply zk4 | apply zk5 | apply zk6 | apply zk7 | apply zk8 | apply zk9) <;> intro hc)
        | (refine callP0 rfl ?_)
        | (refine callD0 rfl ?_)
        | fail)
      refine callN rfl hc.out rfl (nsts_clo2 (.inl (so_pf rfl rfl (Nat.le_refl _) rfl)) (nst_box rfl rfl (by rw [List.length_map]; exact hdl))) (by simp [RS.all, RC.all, FV.plain]) (by first | exact free_mk rfl | (repeat (first | exact free_mk rfl | exact free_mk (by simp) | refine free_upd rfl ?_))) ?_
      clear hc
      cases B
      · have hfl : (!decide ((O1 ++ [s]).length = O.length)) = true := by rw [Bool.not_eq_true', decide_eq_false_iff_not, List.length_append, List.length_singleton]; omega
        repeat' (first
          | (simp -implicitDefEqProofs only [*, zr, Nat.reduceAdd, Nat.reduceSub, Nat.reduceMul, Nat.reduceLT, Nat.reduceLeDiff, Nat.reduceEqDiff, Nat.reduceBEq, reduceIte, reduceCtorEq, Int.reduceLE, Int.reduceLT, Int.reduceToNat, Int.reduceEq, Int.reduceNe])
          | ((first | apply zk0 | apply zk1 | apply zk2 | apply zk3 | apply zk4 | apply zk5 | apply zk6 | apply zk7 | apply zk8 | apply zk9) <;> intro hc)
          | (refine callP0 rfl ?_)
          | (refine callD0 rfl ?_)
          | fail)
        refine ⟨s + 1, hlt, by omega, ?_⟩
        rw [had.out rfl rfl]
        refine wk_i ?_ ?_ <;> simp only [hfl, hsb, List.length_append, zw, Nat.reduceEqDiff, Nat.reduceBEq, Nat.reduceLT, Nat.reduceLeDiff, reduceIte, reduceCtorEq]
        all_goals first | exact SlotsOk.of_eq (by simp [fN]) | rfl | (refine congrArg FV.bool ?_; symm; rw [Bool.not_eq_true', decide_eq_false_iff_not]; omega)
      · repeat' (first
          | (simp -implicitDefEqProofs only [*, zr, Nat.reduceAdd, Nat.reduceSub, Nat.reduceMul, Nat.reduceLT, Nat.reduceLeDiff, Nat.reduceEqDiff, Nat.reduceBEq, reduceIte, reduceCtorEq, Int.reduceLE, Int.reduceLT, Int.reduceToNat, Int.reduceEq, Int.reduceNe])
          | ((first | apply zk0 | apply zk1 | apply zk2 | apply zk3 | apply zk4 | apply zk5 | apply zk6 | apply zk7 | apply zk8 | apply zk9) <;> intro hc)
          | (refine callP0 rfl ?_)
          | (refine callD0 rfl ?_)
          | fail)
        refine ⟨s + 1, hlt, by omega, ?_⟩
        rw [hsk.out (.inr rfl)]
        refine wk_i ?_ ?_ <;> simp only [zw, Nat.reduceEqDiff, Nat.reduceBEq, Nat.reduceLT, Nat.reduceLeDiff, reduceIte, reduceCtorEq]
    · repeat' (first
        | (simp -implicitDefEqProofs only [*, List.getElem?_map, Option.map_some, fWork, List.length_map, zr, Nat.reduceAdd, Nat.reduceSub, Nat.reduceMul, Nat.reduceLT, Nat.reduceLeDiff, Nat.reduceEqDiff, Nat.reduceBEq, reduceIte, reduceCtorEq, Int.reduceLE, Int.reduceLT, Int.reduceToNat, Int.reduceEq, Int.reduceNe])
        | ((first | apply zk0 | apply zk1 | apply zk2 | apply zk3 | apply zk4 | apply zk5 | apply zk6 | apply zk7 | apply zk8 | apply zk9) <;> intro hc)
        | (refine callP0 rfl ?_)
        | (refine callD0 rfl ?_)
        | fail)
      refine ⟨s + 1, hlt, by omega, ?_⟩
      rw [hsk.out (.inl rfl)]
      refine wk_i ?_ ?_ <;> simp only [zw, Nat.reduceEqDiff, Nat.reduceBEq, Nat.reduceLT, Nat.reduceLeDiff, reduceIte, reduceCtorEq]
  · obtain rfl : s = l.length := by omega
    have h2 := lt_f hge
    have hP : (List.range l.length).foldl (wStep (aftE l)) (D, O) = wPass (aftE l) l.length (D, O) := rfl
    have hw := (wFold_len (E := aftE l) (List.range l.length) (D, O)).2
    have hle := hIs.le
    rw [hP] at hIs hMs hw hle ⊢
    have hnew : ordWV l = (if (!decide ((wPass (aftE l) l.length (D, O)).2.length = O.length)) = true then wFin (aftE l) l.length (wPass (aftE l) l.length (D, O)) else wPass (aftE l) l.length (D, O)).2 := by
      rw [hO.out]
      by_cases he : (wPass (aftE l) l.length (D, O)).2.length = O.length
      · rw [if_neg (by simp [he]), wFin_stop he, hw he]
      · rw [if_pos (by simp [he]), wFin_go hI2.out he]
    have hmu : (l.length - (wPass (aftE l) l.length (D, O)).2.length) * 2 + (if (!decide ((wPass (aftE l) l.length (D, O)).2.length = O.length)) = true then 1 else 0) < (l.length - O.length) * 2 + 1 := by
      by_cases he : (wPass (aftE l) l.length (D, O)).2.length = O.length
      · rw [if_neg (by simp [he])]; omega
      · rw [if_pos (by simp [he])]; omega
    clear hs2 hP hw hO hI2 hMono hle hMs hge hs
    generalize wPass (aftE l) l.length (D, O) = t at *
    replace hnew := hide hnew
    replace hmu := hide hmu
    have hIs2 := hide hIs
    clear hIs
    repeat' (first
      | (simp -implicitDefEqProofs only [*, zr, Nat.reduceAdd, Nat.reduceSub, Nat.reduceMul, Nat.reduceLT, Nat.reduceLeDiff, Nat.reduceEqDiff, Nat.reduceBEq, reduceIte, reduceCtorEq, Int.reduceLE, Int.reduceLT, Int.reduceToNat, Int.reduceEq, Int.reduceNe])
      | ((first | apply zk0 | apply zk1 | apply zk2 | apply zk3 | apply zk4 | apply zk5 | apply zk6 | apply zk7 | apply zk8 | apply zk9) <;> intro hc)
      | (refine callP0 rfl ?_)
      | (refine callD0 rfl ?_)
      | fail)
    refine ⟨(t, !decide (t.2.length = O.length)), ⟨hIs2.out, hnew.out⟩, hmu.out, ?_⟩
    refine wk_i ?_ ?_ <;> simp only [zw, Nat.reduceEqDiff, Nat.reduceBEq, Nat.reduceLT, Nat.reduceLeDiff, reduceIte, reduceCtorEq]
end Go.Proofs.YtbnmclcoekehbaaDoor
