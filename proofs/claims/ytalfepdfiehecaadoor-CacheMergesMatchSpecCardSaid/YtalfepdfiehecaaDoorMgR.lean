/-
  The reference's Merged; the law MergesMatchSpec: walks. No statement of the seat is proved here; no conditions.
-/
import Derived.Test.YtalfepdfiehecaaDoorMgL
import Derived.Test.YtalfepdfiehecaaDoorCaQ
namespace Go.Proofs.YtalfepdfiehecaaDoor
open Go.RowKit Go.Shelf
set_option linter.unusedVariables false
set_option linter.unusedSimpArgs false
set_option maxRecDepth 100000

theorem copiedM_f (c : Cache) (hb : c.2.2.1.length ≤ 1000000) (he : c.2.2.2.length ≤ 1000000) (hr : ∀ e ∈ c.2.2.2, e.2.1.length ≤ 1000000) :
    FRetN Tryd.prog 29 [aCache c] [.v (.int .i64 c.1), .v (.int .i64 c.2.1), .own 5 c.2.2.1.length (rowF fBlob c.2.2.1), .own 3 c.2.2.2.length (rowF fEntry c.2.2.2)] := by
  obtain ⟨room, lease, bl, en⟩ := c
  simp only at hb he hr ⊢
  have hR := hide hr
  clear hr
  refine FCall.of_ax low_ref7_copied ?_
  dsimp only [l_ref7_copied, aCache]
  refine srun_sound 300 _ _ _ _ ?_
  have h48 : (bl.length * 48 ≤ 140737488355328) = True := by rw [eq_iff_iff, iff_true]; omega
  repeat' (first
    | (simp -implicitDefEqProofs only [*, frBlobs, frEntries, addFp_wr, zr, Nat.reduceAdd, Nat.reduceSub, Nat.reduceMul, Nat.reduceLT, Nat.reduceLeDiff, Nat.reduceEqDiff, Nat.reduceBEq, reduceIte, reduceCtorEq, Int.reduceLE, Int.reduceLT, Int.reduceToNat, Int.reduceEq, Int.reduceNe])
    | ((first | apply zk0 | apply zk1 | apply zk2 | apply zk3 | apply zk4 | apply zk5 | apply zk6 | apply zk7 | apply zk8 | apply zk9) <;> intro hc)
    | (refine callP0 rfl ?_)
    | (refine callD0 rfl ?_)
    | fail)
  refine ax_loopU (S := Nat) 63 [1, 3] [1, 19] (fun s => [(4, .f (.int .i64 s))]) (fun s => [(11, 1, AObj.cells [.f (.int .i64 room), .f (.int .i64 lease), .sl 19 1 5 0 bl.length, .sl 59 1 3 0 s]), (59, 1, AObj.cells ((rowF fEntry (en.take s)).map AV.f))]) (fun s => s ≤ en.length) (fun s => en.length - s) (0) [59] ?_ ?_ fun s hs => ?_
  · exact Nat.zero_le _
  · refine wk_i ?_ ?_ <;> simp only [List.take_zero, row_nil, zw, Nat.reduceEqDiff, Nat.reduceBEq, Nat.reduceLT, Nat.reduceLeDiff, reduceIte, reduceCtorEq]
  refine srun_sound 300 _ _ _ _ ?_
  rcases Nat.lt_or_ge s en.length with hlt | hge
  · obtain ⟨x, hx⟩ := get_some hlt
    have h4 := inc64 hlt (by omega)
    have h2 := lt_t hlt
    have hxr := hR.out x (List.mem_of_getElem? hx)
    have hs2 : rowF fEntry (en.take (s + 1)) = rowF fEntry (en.take s) ++ fEntry x := by rw [List.take_add_one, hx]; exact row_snoc
    have hlen : (rowF fEntry (en.take s)).length = (0 + s) * 3 := by rw [row_len (sz := 3) (fun _ => rfl), List.length_take]; omega
    have h16 : (x.2.1.length * 16 ≤ 140737488355328) = True := by rw [eq_iff_iff, iff_true]; omega
    have h49 : ((s + 1) * 48 ≤ 140737488355328) = True := by rw [eq_iff_iff, iff_true]; omega
    repeat' (first
      | (simp -implicitDefEqProofs only [*, List.getElem?_map, Option.map_some, fEntry, frStrs, addFp_wr, zr, Nat.reduceAdd, Nat.reduceSub, Nat.reduceMul, Nat.reduceLT, Nat.reduceLeDiff, Nat.reduceEqDiff, Nat.reduceBEq, reduceIte, reduceCtorEq, Int.reduceLE, Int.reduceLT, Int.reduceToNat, Int.reduceEq, Int.reduceNe])
      | ((first | apply zk0 | apply zk1 | apply zk2 | apply zk3 | apply zk4 | apply zk5 | apply zk6 | apply zk7 | apply zk8 | apply zk9) <;> intro hc)
      | (refine callP0 rfl ?_)
      | (refine callD0 rfl ?_)
      | fail)
    refine ⟨s + 1, hlt, by omega, ?_⟩
    rw [hs2]
    refine wk_i ?_ ?_ <;> simp only [zw, Nat.reduceEqDiff, Nat.reduceBEq, Nat.reduceLT, Nat.reduceLeDiff, reduceIte, reduceCtorEq]
    rw [List.map_append]
    refine SlotsOk.app (SlotsOk.fs rfl) ?_
    show SlotsOk _ _ _ [_, _, _] [_, _, _]
    rw [so_cons, so_cons, so_cons, so_nil]
    refine ⟨so_f, ?_, so_f, trivial⟩
    exact so_row0 (enc := encS) (l := x.2.1) (fun _ => rfl) rfl rfl rfl
  · obtain rfl : s = en.length := by omega
    have h2 := lt_f hge
    have h3 := List.take_length (l := en)
    repeat' (first
      | (simp -implicitDefEqProofs only [*, zr, Nat.reduceAdd, Nat.reduceSub, Nat.reduceMul, Nat.reduceLT, Nat.reduceLeDiff, Nat.reduceEqDiff, Nat.reduceBEq, reduceIte, reduceCtorEq, Int.reduceLE, Int.reduceLT, Int.reduceToNat, Int.reduceEq, Int.reduceNe])
      | ((first | apply zk0 | apply zk1 | apply zk2 | apply zk3 | apply zk4 | apply zk5 | apply zk6 | apply zk7 | apply zk8 | apply zk9) <;> intro hc)
      | (refine callP0 rfl ?_)
      | (refine callD0 rfl ?_)
      | fail)
    exact ⟨11, 1, [.f (.int .i64 room), .f (.int .i64 lease), .sl 19 1 5 0 bl.length, .sl 59 1 3 0 en.length], rfl, rfl, ⟨rfl, rfl, .inr ⟨_, _, rfl, rfl, by rw [row_len (sz := 5) (fun _ => rfl)]; exact Nat.le_refl _⟩, .inr ⟨_, _, rfl, rfl, by rw [row_len (sz := 3) (fun _ => rfl)]; exact Nat.le_refl _⟩, rfl⟩, by simp [idsC], by simp [idsC]⟩
theorem copiedM_z (c : Cache) (hb : c.2.2.1.length ≤ 1000000) (he : c.2.2.2.length ≤ 1000000) (hr : ∀ e ∈ c.2.2.2, e.2.1.length ≤ 1000000) : FRet Tryd.prog 29 [aCache c] [.c (.v (pCache c))] :=
  (copiedM_f c hb he hr).frz (l := [.int .i64 c.1, .int .i64 c.2.1, frBlobs c.2.2.1, frEntries c.2.2.2]) rfl ⟨rfl, rfl, rcF_row0 (enc := fBlob) (fun _ => rfl), rcF_row0 (enc := fEntry) (fun _ => rfl), trivial⟩
/-- Where a linear search stops in a row in order. -/
theorem bs_lin {α : Type} {key : α → ByteArray} {l : List α} {t : ByteArray} {k : Nat} (hr : Rising key l) (hk : k ≤ l.length) (h1 : ∀ (m : Nat) z, m < k → l[m]? = some z → strLt (key z) t = true) (h2 : k = l.length ∨ ∃ z, l[k]? = some z ∧ strLt (key z) t = false) : bsIdx (fun b => cmpB (key b) t) l = k := by
  refine bsIdx_eq hk (fun m z hm hz => cmpB_lt.2 (h1 m z hm hz)) fun m z hm hz hlt => ?_
  have hml := (List.getElem?_eq_some_iff.1 hz).1
  rcases h2 with rfl | ⟨y, hy, hf⟩
  · omega
  · have hzl := cmpB_lt.1 hlt
    rcases Nat.eq_or_lt_of_le hm with rfl | hm
    · rw [hy] at hz; obtain rfl := Option.some.inj hz
      rw [hf] at hzl; cases hzl
    · have := strLt_trans (hr k m y z hm hy hz) hzl
      rw [hf] at this; cases this
set_option maxHeartbeats 16000000 in
theorem MergedR_f (a b : Cache) (ha : SBound a) (hb : SBound b) : FRet Tryd.prog 9 [aCache a, aCache b] (mgRs a b) := by
  have hca := CheckCacheR_f a ha
  have hcb := CheckCacheR_f b hb
  by_cases h0 : ckCache a = 0
  case neg =>
    have he : mgErr a b = ckCache a := by rw [mgErr, if_pos h0]
    have d0 : decide (ckCache a = 0) = false := dcF h0
    generalize ckCache a = q at *
    replace h0 := hide h0
    replace he := hide he
    clear ha hb
    obtain ⟨room, lease, bl, en⟩ := a
    obtain ⟨room2, lease2, bl2, en2⟩ := b
    refine FCall.of_ax low_ref7_Merged ?_
    dsimp only [l_ref7_Merged, aCache] at hca hcb ⊢
    refine srun_sound 300 _ _ _ _ ?_
    repeat' (first
      | (simp -implicitDefEqProofs only [*, addFp_wr, zr, Nat.reduceAdd, Nat.reduceSub, Nat.reduceMul, Nat.reduceLT, Nat.reduceLeDiff, Nat.reduceEqDiff, Nat.reduceBEq, reduceIte, reduceCtorEq, Int.reduceLE, Int.reduceLT, Int.reduceToNat, Int.reduceEq, Int.reduceNe])
      | ((first | apply zk0 | apply zk1 | apply zk2 | apply zk3 | apply zk4 | apply zk5 | apply zk6 | apply zk7 | apply zk8 | apply zk9) <;> intro hc)
      | (refine callP0 rfl ?_)
      | (refine callD0 rfl ?_)
      | (refine cP (hca) ?_)
      | (refine cD (hca) ?_)
      | (refine cF (hca) ?_)
      | (refine cO (hca) ?_)
      | fail)
    exact ret_z he.out h0.out
  by_cases h1 : ckCache b = 0
  case neg =>
    have he : mgErr a b = ckCache b := by rw [mgErr, if_neg (fun h => h h0), if_pos h1]
    have d0 : decide (ckCache b = 0) = false := dcF h1
    rw [h0] at hca
    have dz : decide ((0 : Int) = 0) = true := rfl
    generalize ckCache b = q at *
    replace h1 := hide h1
    replace he := hide he
    clear h0 ha hb
    obtain ⟨room, lease, bl, en⟩ := a
    obtain ⟨room2, lease2, bl2, en2⟩ := b
    refine FCall.of_ax low_ref7_Merged ?_
    dsimp only [l_ref7_Merged, aCache] at hca hcb ⊢
    refine srun_sound 300 _ _ _ _ ?_
    repeat' (first
      | (simp -implicitDefEqProofs only [*, addFp_wr, zr, Nat.reduceAdd, Nat.reduceSub, Nat.reduceMul, Nat.reduceLT, Nat.reduceLeDiff, Nat.reduceEqDiff, Nat.reduceBEq, reduceIte, reduceCtorEq, Int.reduceLE, Int.reduceLT, Int.reduceToNat, Int.reduceEq, Int.reduceNe])
      | ((first | apply zk0 | apply zk1 | apply zk2 | apply zk3 | apply zk4 | apply zk5 | apply zk6 | apply zk7 | apply zk8 | apply zk9) <;> intro hc)
      | (refine callP0 rfl ?_)
      | (refine callD0 rfl ?_)
      | (refine cP (hca) ?_)
      | (refine cD (hca) ?_)
      | (refine cF (hca) ?_)
      | (refine cO (hca) ?_)
      | (refine cP (hcb) ?_)
      | (refine cD (hcb) ?_)
      | (refine cF (hcb) ?_)
      | (refine cO (hcb) ?_)
      | fail)
    exact ret_z he.out h1.out
  rw [h0] at hca
  rw [h1] at hcb
  have hR := right_iff.1 h0
  have hR2 := right_iff.1 h1
  have dz : decide ((0 : Int) = 0) = true := rfl
  have hOa := copiedM_f a (by have := hR.blen; omega) (by have := hR.elen; omega) (fun x hx => by have := ckDigs_len (entOk_iff.1 (hR.eok x hx)).2.1; omega)
  have hOb := copiedM_z b (by have := hR2.blen; omega) (by have := hR2.elen; omega) (fun x hx => by have := ckDigs_len (entOk_iff.1 (hR2.eok x hx)).2.1; omega)
  have hI : MgB a.2.2.1 b.2.2.1 0 a.2.2.1 := ⟨Nat.zero_le _, hR.brise, Nat.le_refl _, rfl, fun x hx => ⟨x, .inl hx, rfl⟩⟩
  have hJ : MgE a.2.2.2 b.2.2.2 0 a.2.2.2 := ⟨Nat.zero_le _, hR.erise, Nat.le_refl _, rfl, fun x hx => by have := ckDigs_len (entOk_iff.1 (hR.eok x hx)).2.1; omega, fun x hx => ⟨x, .inl hx, rfl, rfl⟩⟩
  have hE : mgErr a b = match mgBL a.2.2.1 b.2.2.1 with | some B => ckCache (a.1, a.2.1, B, mgEL a.2.2.2 b.2.2.2) | none => 12 := by rw [mgErr, if_neg (fun h => h h0), if_neg (fun h => h h1)] <;> rfl
  have b1 := hR.blen
  have b2 := hR2.blen
  have b3 := hR.elen
  have b4 := hR2.elen
  have hV : mgV a b = match mgBL a.2.2.1 b.2.2.1 with | some B => (a.1, a.2.1, B, mgEL a.2.2.2 b.2.2.2) | none => emptyC := rfl
  have hmr := fun (H : Heap) (e : Int) => @ret_z H a b e
  have hrs : mgRs a b = if mgErr a b = 0 then [.agg [.v (.int .i64 a.1), .v (.int .i64 a.2.1), .own 5 (mgV a b).2.2.1.length (rowF fBlob (mgV a b).2.2.1), .own 3 (mgV a b).2.2.2.length (rowF fEntry (mgV a b).2.2.2)], .c (.v (.int .i64 0))] else [zRs, .c (.v (.int .i64 (mgErr a b)))] := rfl
  have hrf2 : ∀ e ∈ b.2.2.2, e.2.1.length ≤ 200 := fun x hx => by have := ckDigs_len (entOk_iff.1 (hR2.eok x hx)).2.1; omega
  have hsa := fun (B : List Blob) (E : List Entry) (h : ∀ x ∈ B, (x.1.size : Int) ≤ 9223372036854775807) => (h : ∀ x ∈ B, (x.1.size : Int) ≤ 9223372036854775807)
  clear hR hR2 h0 h1 hsa
  obtain ⟨room, lease, bl, en⟩ := a
  obtain ⟨room2, lease2, bl2, en2⟩ := b
  dsimp only at hI hJ b1 b2 b3 b4 hE hV hrs hrf2
  generalize mgRs (room, lease, bl, en) (room2, lease2, bl2, en2) = RR at *
  generalize mgErr (room, lease, bl, en) (room2, lease2, bl2, en2) = EE at *
  generalize mgV (room, lease, bl, en) (room2, lease2, bl2, en2) = VV at *
  replace hmr := hide hmr
  replace hrs := hide hrs
  replace hV := hide hV
  replace hE := hide hE
  replace hJ := hide hJ
  replace hrf2 := hide hrf2
  replace ha := hide ha
  replace hb := hide hb
  refine FCall.of_ax low_ref7_Merged ?_
  dsimp only [l_ref7_Merged, aCache] at hca hcb hOa hOb ⊢
  refine srun_sound 300 _ _ _ _ ?_
  repeat' (first
    | (simp -implicitDefEqProofs only [*, addFp_wr, wrL_3, zr, Nat.reduceAdd, Nat.reduceSub, Nat.reduceMul, Nat.reduceLT, Nat.reduceLeDiff, Nat.reduceEqDiff, Nat.reduceBEq, reduceIte, reduceCtorEq, Int.reduceLE, Int.reduceLT, Int.reduceToNat, Int.reduceEq, Int.reduceNe])
    | ((first | apply zk0 | apply zk1 | apply zk2 | apply zk3 | apply zk4 | apply zk5 | apply zk6 | apply zk7 | apply zk8 | apply zk9) <;> intro hc)
    | (refine callP0 rfl ?_)
    | (refine callD0 rfl ?_)
    | (refine cP (hca) ?_)
    | (refine cD (hca) ?_)
    | (refine cF (hca) ?_)
    | (refine cO (hca) ?_)
    | (refine cP (hcb) ?_)
    | (refine cD (hcb) ?_)
    | (refine cF (hcb) ?_)
    | (refine cO (hcb) ?_)
    | fail)
  refine callDN rfl hOa rfl (LeL.refl _) rfl (by repeat (first | exact free_0 | exact free_mk (by simp) | refine free_upd rfl ?_ | refine free_kill ?_)) rfl ?_
  clear hOa
  repeat' (first
    | (simp -implicitDefEqProofs only [*, addFp_wr, wrL_3, zr, Nat.reduceAdd, Nat.reduceSub, Nat.reduceMul, Nat.reduceLT, Nat.reduceLeDiff, Nat.reduceEqDiff, Nat.reduceBEq, reduceIte, reduceCtorEq, Int.reduceLE, Int.reduceLT, Int.reduceToNat, Int.reduceEq, Int.reduceNe])
    | ((first | apply zk0 | apply zk1 | apply zk2 | apply zk3 | apply zk4 | apply zk5 | apply zk6 | apply zk7 | apply zk8 | apply zk9) <;> intro hc)
    | (refine callP0 rfl ?_)
    | (refine callD0 rfl ?_)
    | (refine cP (hOb) ?_)
    | (refine cD (hOb) ?_)
    | (refine cF (hOb) ?_)
    | (refine cO (hOb) ?_)
    | fail)
  refine ax_loopW (S := Nat × List Blob) 292 [4, 8, 9] [4, 1032] (fun s => [(10, .f (.int .i64 s.1))]) (fun s => [(2032, 1, AObj.cells [.f (.int .i64 room), .f (.int .i64 lease), .sl 32 1 5 0 s.2.length, .sl 1032 1 3 0 en.length]), (32, 1, AObj.cells ((rowF fBlob s.2).map AV.f))]) (fun s => MgB bl bl2 s.1 s.2) (fun s => bl2.length - s.1) ((0, bl)) [] [] ?_ rfl ?_ fun s hs => ?_
  · exact hI
  · refine wk_i ?_ ?_ <;> simp only [zw, Nat.reduceEqDiff, Nat.reduceBEq, Nat.reduceLT, Nat.reduceLeDiff, reduceIte, reduceCtorEq]
  simp only [sws_n, swh_n]
  obtain ⟨i, B⟩ := s
  dsimp only at hs ⊢
  have hM := hide hs
  clear hs
  refine srun_sound 300 _ _ _ _ ?_
  rcases Nat.lt_or_ge i bl2.length with hlt | hge
  · obtain ⟨x, hx⟩ := get_some hlt
    have h4 := inc64 hlt (by omega)
    have h2 := lt_t hlt
    have h2i : decide ((i : Int) < (bl2.length : Int)) = true := dcT (by omega)
    have hBl : B.length ≤ 100000 := by have := hM.out.len; omega
    have hBlh := hide hBl
    repeat' (first
      | (simp -implicitDefEqProofs only [*, pCache, frBlobs, frEntries, List.getElem?_map, Option.map_some, List.length_map, fBlob, List.map_cons, List.map_nil, addFp_wr, zr, Nat.reduceAdd, Nat.reduceSub, Nat.reduceMul, Nat.reduceLT, Nat.reduceLeDiff, Nat.reduceEqDiff, Nat.reduceBEq, reduceIte, reduceCtorEq, Int.reduceLE, Int.reduceLT, Int.reduceToNat, Int.reduceEq, Int.reduceNe])
      | ((first | apply zk0 | apply zk1 | apply zk2 | apply zk3 | apply zk4 | apply zk5 | apply zk6 | apply zk7 | apply zk8 | apply zk9) <;> intro hc)
      | (refine callP0 rfl ?_)
      | (refine callD0 rfl ?_)
      | fail)
    clear h2 h2i
    refine ax_loopU (S := Nat) 292 [4, 8, 9, 10, 11] [4, 11, 32, 1032, 2032] (fun s => [(12, .f (.int .i64 s))]) (fun s => []) (fun s => s ≤ B.length ∧ ∀ (m : Nat) z, m < s → B[m]? = some z → strLt z.1 x.1 = true) (fun s => B.length - s) (0) [] ?_ ?_ fun s hs => ?_
    · exact ⟨Nat.zero_le _, fun m z h => absurd h (by omega)⟩
    · refine wk_i ?_ ?_ <;> simp only [zw, Nat.reduceEqDiff, Nat.reduceBEq, Nat.reduceLT, Nat.reduceLeDiff, reduceIte, reduceCtorEq]
    obtain ⟨hk1, hk2⟩ := hs
    have hK := hide hk2
    clear hk2
    refine srun_sound 300 _ _ _ _ ?_
    have q0 : (rowF fBlob B).length = B.length * 5 := row_len (sz := 5) (fun _ => rfl)
    rcases Nat.lt_or_ge s B.length with hl2 | hg2
    · obtain ⟨z, hz⟩ := get_some hl2
      have h6 := inc64 hl2 (by omega)
      have h5 := lt_t hl2
      have h5i : decide ((s : Int) < (B.length : Int)) = true := dcT (by omega)
      have c0 := row_cell (enc := fBlob) (sz := 5) (j := 0) (fun _ => rfl) hz (show _ = some (FV.str z.1) from rfl)
      have p0 : (s * 5 + 0 + 1 ≤ B.length * 5) = True := by rw [eq_iff_iff, iff_true]; omega
      have p1 : (s * 5 + 1 ≤ B.length * 5) = True := by rw [eq_iff_iff, iff_true]; omega
      rw [Nat.add_zero] at c0
      cases hzl : strLt z.1 x.1
      · have hk := bs_lin (key := fun b : Blob => b.1) hM.out.rise hk1 hK.out (.inr ⟨z, hz, hzl⟩)
        change bIdx B x.1 = s at hk
        cases hh : hasB B x.1
        · have hne : decide (z.1 = x.1) = false := dcF fun e => hasK_false.1 hh z (List.mem_of_getElem? hz) e
          have hn := hM.out.next hx (mgOk_new hh)
          rw [mgB1_new hh] at hn
          obtain ⟨k, hkk⟩ : ∃ k : Nat, k = s := ⟨_, rfl⟩
          have e0 : insV B x = B.take k ++ x :: B.drop k := by unfold insV; rw [hk, ← hkk]
          have e1 : rowF fBlob (insV B x) = rowF fBlob (B.take k) ++ (fBlob x ++ rowF fBlob (B.drop k)) := by rw [e0, row_app, row_cons]
          have hil := insB_len (B := B) (x := x)
          have hkl : k ≤ B.length := by omega
          obtain ⟨T1, hT1⟩ : ∃ T, List.take (s * 5) ((rowF fBlob B).map AV.f) = T := ⟨_, rfl⟩
          obtain ⟨T2, hT2⟩ : ∃ T, List.take ((B.length - s) * 5) (List.drop (s * 5) ((rowF fBlob B).map AV.f)) = T := ⟨_, rfl⟩
          have k1 : T1 = (rowF fBlob (B.take k)).map AV.f := by rw [← hT1, ← List.map_take, row_take (sz := 5) (fun _ => rfl), hkk]
          have k2 : T2 = (rowF fBlob (B.drop k)).map AV.f := by
            rw [← hT2, ← List.map_drop, row_drop (sz := 5) (fun _ => rfl), List.take_of_length_le, hkk]
            rw [List.length_map, row_len (sz := 5) (fun _ => rfl), List.length_drop]; exact Nat.le_refl _
          have k3 : T1.length = s * 5 := by rw [k1, List.length_map, row_len (sz := 5) (fun _ => rfl), List.length_take]; omega
          have k5 : T2.length = (B.length - s) * 5 := by rw [k2, List.length_map, row_len (sz := 5) (fun _ => rfl), List.length_drop]; omega
          have g1 : ((s : Int) ≤ (B.length : Int)) = True := by rw [eq_iff_iff, iff_true]; omega
          have g4 : ((B.length : Int) ≤ (B.length : Int)) = True := by rw [eq_iff_iff, iff_true]; omega
          have g5 : (s * 5 ≤ B.length * 5) = True := by rw [eq_iff_iff, iff_true]; omega
          have g6 : ((s + (B.length - s)) * 5 ≤ B.length * 5) = True := by rw [eq_iff_iff, iff_true]; omega
          have g7 : (s * 48 ≤ 140737488355328) = True := by rw [eq_iff_iff, iff_true]; omega
          have g8 : ((s + 1) * 48 ≤ 140737488355328) = True := by rw [eq_iff_iff, iff_true]; omega
          have g9 : s + 1 + (B.length - s) = B.length + 1 := by omega
          have g10 : ((B.length + 1) * 48 ≤ 140737488355328) = True := by rw [eq_iff_iff, iff_true]; omega
          have g11 : s * 5 + 5 = (s + 1) * 5 := by omega
          replace k1 := hide k1
          replace k2 := hide k2
          replace e1 := hide e1
          generalize insV B x = K at *
          replace hn := hide hn
          replace hil := hide hil
          replace hkk := hide hkk
          clear hK hk e0
          repeat' (first
            | (simp -implicitDefEqProofs only [*, addFp_wr, fBlob, List.map_cons, List.map_nil, List.length_map, Nat.sub_zero, List.length_append, List.length_cons, List.length_nil, zr, Nat.reduceAdd, Nat.reduceSub, Nat.reduceMul, Nat.reduceLT, Nat.reduceLeDiff, Nat.reduceEqDiff, Nat.reduceBEq, reduceIte, reduceCtorEq, Int.reduceLE, Int.reduceLT, Int.reduceToNat, Int.reduceEq, Int.reduceNe])
            | ((first | apply zk0 | apply zk1 | apply zk2 | apply zk3 | apply zk4 | apply zk5 | apply zk6 | apply zk7 | apply zk8 | apply zk9) <;> intro hc)
            | (refine callP0 rfl ?_)
            | (refine callD0 rfl ?_)
            | fail)
          refine ⟨(i + 1, K), [(166, 32)], hn.out, by dsimp only; omega, rfl, ?_⟩
          refine wk_i ?_ ?_ <;> simp only [zw, Nat.reduceEqDiff, Nat.reduceBEq, Nat.reduceLT, Nat.reduceLeDiff, reduceIte, reduceCtorEq]
          have kk : T1 ++ [AV.f (FV.str x.1), AV.f (FV.int .i64 x.2.1), AV.f (FV.int .i64 x.2.2.1), AV.f (FV.int .i64 x.2.2.2.1), AV.f (FV.int .i64 x.2.2.2.2)] ++ T2 = (rowF fBlob K).map AV.f := by rw [k1.out, k2.out, e1.out, List.map_append, List.map_append, List.append_assoc]; rfl
          simp only [kk, tl_fs, so_same, hil.out, and_self]
        · obtain ⟨y, hy, hyd⟩ := hasB_at hM.out.rise hh
          rw [hk, hz] at hy
          obtain rfl := Option.some.inj hy
          have hye : decide (z.1 = x.1) = true := dcT hyd
          have hzk : B[bIdx B x.1]? = some z := by rw [hk]; exact hz
          have ho := mgOk_old hh hzk
          have hn1 := mgB1_old hh hzk
          rw [hk] at hn1
          have p3 : (s * 5 + 1 + 1 ≤ B.length * 5) = True := by rw [eq_iff_iff, iff_true]; omega
          have p4 : (s * 5 + 2 + 1 ≤ B.length * 5) = True := by rw [eq_iff_iff, iff_true]; omega
          have p5 : (s * 5 + 3 + 1 ≤ B.length * 5) = True := by rw [eq_iff_iff, iff_true]; omega
          have p6 : (s * 5 + 4 + 1 ≤ B.length * 5) = True := by rw [eq_iff_iff, iff_true]; omega
          have c1 := row_cell (enc := fBlob) (sz := 5) (j := 1) (fun _ => rfl) hz (show _ = some (FV.int .i64 z.2.1) from rfl)
          have c2 := row_cell (enc := fBlob) (sz := 5) (j := 2) (fun _ => rfl) hz (show _ = some (FV.int .i64 z.2.2.1) from rfl)
          have c3 := row_cell (enc := fBlob) (sz := 5) (j := 3) (fun _ => rfl) hz (show _ = some (FV.int .i64 z.2.2.2.1) from rfl)
          have c4 := row_cell (enc := fBlob) (sz := 5) (j := 4) (fun _ => rfl) hz (show _ = some (FV.int .i64 z.2.2.2.2) from rfl)
          by_cases hc : z.2.1 = x.2.1
          · have dc : decide (z.2.1 = x.2.1) = true := dcT hc
            have hn := hM.out.next hx (by rw [ho, dc])
            rw [hn1] at hn
            have e1 := row_set1 (enc := fBlob) (sz := 5) (j := 2) (y := (z.1, z.2.1, max z.2.2.1 x.2.2.1, z.2.2.2.1, z.2.2.2.2)) (v := .int .i64 (max z.2.2.1 x.2.2.1)) (fun _ => rfl) hz (by omega) rfl
            have hy2 : (B.set s (z.1, z.2.1, max z.2.2.1 x.2.2.1, z.2.2.2.1, z.2.2.2.2))[s]? = some (z.1, z.2.1, max z.2.2.1 x.2.2.1, z.2.2.2.1, z.2.2.2.2) := by rw [List.getElem?_set]; simp [hl2]
            have e2 := row_set1 (enc := fBlob) (sz := 5) (j := 3) (y := (z.1, z.2.1, max z.2.2.1 x.2.2.1, max z.2.2.2.1 x.2.2.2.1, z.2.2.2.2)) (v := .int .i64 (max z.2.2.2.1 x.2.2.2.1)) (fun _ => rfl) hy2 (by omega) rfl
            have hy3 : (B.set s (z.1, z.2.1, max z.2.2.1 x.2.2.1, max z.2.2.2.1 x.2.2.2.1, z.2.2.2.2))[s]? = some (z.1, z.2.1, max z.2.2.1 x.2.2.1, max z.2.2.2.1 x.2.2.2.1, z.2.2.2.2) := by rw [List.getElem?_set]; simp [hl2]
            rw [List.set_set] at e2
            have e3 := row_set1 (enc := fBlob) (sz := 5) (j := 4) (y := mxB z x) (v := .int .i64 (max z.2.2.2.2 x.2.2.2.2)) (fun _ => rfl) hy3 (by omega) rfl
            rw [List.set_set] at e3
            rw [splice_1] at e1 e2 e3
            replace e1 := hide e1
            replace e2 := hide e2
            replace e3 := hide e3
            replace hn := hide hn
            replace hn1 := hide hn1
            replace hc := hide hc
            replace ho := hide ho
            replace hyd := hide hyd
            replace hk := hide hk
            clear hy2 hy3
            repeat' (first
              | (simp -implicitDefEqProofs only [*, addFp_wr, fBlob, List.map_cons, List.map_nil, zr, Nat.reduceAdd, Nat.reduceSub, Nat.reduceMul, Nat.reduceLT, Nat.reduceLeDiff, Nat.reduceEqDiff, Nat.reduceBEq, reduceIte, reduceCtorEq, Int.reduceLE, Int.reduceLT, Int.reduceToNat, Int.reduceEq, Int.reduceNe])
              | ((first | apply zk0 | apply zk1 | apply zk2 | apply zk3 | apply zk4 | apply zk5 | apply zk6 | apply zk7 | apply zk8 | apply zk9) <;> intro hc)
              | (refine callP0 rfl ?_)
              | (refine callD0 rfl ?_)
              | fail)
            rw [e1.out, e2.out, e3.out]
            refine ⟨(i + 1, B.set s (mxB z x)), [], hn.out, by dsimp only; omega, rfl, ?_⟩
            refine wk_i ?_ ?_ <;> simp only [zw, Nat.reduceEqDiff, Nat.reduceBEq, Nat.reduceLT, Nat.reduceLeDiff, reduceIte, reduceCtorEq]
            simp
          · have dc : decide (z.2.1 = x.2.1) = false := dcF hc
            have he12 : EE = 12 := by
              rw [hE.out, hM.out.is, drop_get hx, mgBL, ho, dc]; rfl
            replace hc := hide hc
            replace ho := hide ho
            replace hyd := hide hyd
            replace hk := hide hk
            replace hn1 := hide hn1
            replace he12 := hide he12
            repeat' (first
              | (simp -implicitDefEqProofs only [*, addFp_wr, fBlob, List.map_cons, List.map_nil, zr, Nat.reduceAdd, Nat.reduceSub, Nat.reduceMul, Nat.reduceLT, Nat.reduceLeDiff, Nat.reduceEqDiff, Nat.reduceBEq, reduceIte, reduceCtorEq, Int.reduceLE, Int.reduceLT, Int.reduceToNat, Int.reduceEq, Int.reduceNe])
              | ((first | apply zk0 | apply zk1 | apply zk2 | apply zk3 | apply zk4 | apply zk5 | apply zk6 | apply zk7 | apply zk8 | apply zk9) <;> intro hc)
              | (refine callP0 rfl ?_)
              | (refine callD0 rfl ?_)
              | fail)
            exact hmr.out _ _ he12.out (by decide)
      · have hn : ∀ (m : Nat) w, m < s + 1 → B[m]? = some w → strLt w.1 x.1 = true := fun m w hm hw => by
          rcases Nat.lt_succ_iff_lt_or_eq.1 hm with h1 | rfl
          · exact hK.out m w h1 hw
          · rw [hz] at hw; obtain rfl := Option.some.inj hw; exact hzl
        replace hn := hide hn
        repeat' (first
          | (simp -implicitDefEqProofs only [*, addFp_wr, zr, Nat.reduceAdd, Nat.reduceSub, Nat.reduceMul, Nat.reduceLT, Nat.reduceLeDiff, Nat.reduceEqDiff, Nat.reduceBEq, reduceIte, reduceCtorEq, Int.reduceLE, Int.reduceLT, Int.reduceToNat, Int.reduceEq, Int.reduceNe])
          | ((first | apply zk0 | apply zk1 | apply zk2 | apply zk3 | apply zk4 | apply zk5 | apply zk6 | apply zk7 | apply zk8 | apply zk9) <;> intro hc)
          | (refine callP0 rfl ?_)
          | (refine callD0 rfl ?_)
          | fail)
        refine ⟨s + 1, ⟨hl2, hn.out⟩, by omega, ?_⟩
        refine wk_i ?_ ?_ <;> simp only [zw, Nat.reduceEqDiff, Nat.reduceBEq, Nat.reduceLT, Nat.reduceLeDiff, reduceIte, reduceCtorEq]
    · obtain rfl : s = B.length := by omega
      have h5 := lt_f hg2
      have h5i : decide ((B.length : Int) < (B.length : Int)) = false := dcF (by omega)
      have hk := bs_lin (key := fun b : Blob => b.1) hM.out.rise hk1 hK.out (.inl rfl)
      change bIdx B x.1 = B.length at hk
      have hh : hasB B x.1 = false := by
        cases h : hasB B x.1
        · rfl
        · obtain ⟨y, hy, hyd⟩ := hasB_at hM.out.rise h
          rw [hk] at hy
          have := (List.getElem?_eq_some_iff.1 hy).1
          omega
      have hn := hM.out.next hx (mgOk_new hh)
      rw [mgB1_new hh] at hn
      obtain ⟨k, hkk⟩ : ∃ k : Nat, k = B.length := ⟨_, rfl⟩
      have e0 : insV B x = B.take k ++ x :: B.drop k := by unfold insV; rw [hk, ← hkk]
      have e1 : rowF fBlob (insV B x) = rowF fBlob (B.take k) ++ (fBlob x ++ rowF fBlob (B.drop k)) := by rw [e0, row_app, row_cons]
      have hil := insB_len (B := B) (x := x)
      have hkl : k ≤ B.length := by omega
      obtain ⟨T1, hT1⟩ : ∃ T, List.take (B.length * 5) ((rowF fBlob B).map AV.f) = T := ⟨_, rfl⟩
      obtain ⟨T2, hT2⟩ : ∃ T, List.take ((B.length - B.length) * 5) (List.drop (B.length * 5) ((rowF fBlob B).map AV.f)) = T := ⟨_, rfl⟩
      have k1 : T1 = (rowF fBlob (B.take k)).map AV.f := by rw [← hT1, ← List.map_take, row_take (sz := 5) (fun _ => rfl), hkk]
      have k2 : T2 = (rowF fBlob (B.drop k)).map AV.f := by
        rw [← hT2, ← List.map_drop, row_drop (sz := 5) (fun _ => rfl), List.take_of_length_le, hkk]
        rw [List.length_map, row_len (sz := 5) (fun _ => rfl), List.length_drop]; exact Nat.le_refl _
      have k3 : T1.length = B.length * 5 := by rw [k1, List.length_map, row_len (sz := 5) (fun _ => rfl), List.length_take]; omega
      have k5 : T2.length = (B.length - B.length) * 5 := by rw [k2, List.length_map, row_len (sz := 5) (fun _ => rfl), List.length_drop]; omega
      have g1 : ((B.length : Int) ≤ (B.length : Int)) = True := by rw [eq_iff_iff, iff_true]; omega
      have g4 : ((B.length : Int) ≤ (B.length : Int)) = True := by rw [eq_iff_iff, iff_true]; omega
      have g5 : (B.length * 5 ≤ B.length * 5) = True := by rw [eq_iff_iff, iff_true]; omega
      have g6 : ((B.length + (B.length - B.length)) * 5 ≤ B.length * 5) = True := by rw [eq_iff_iff, iff_true]; omega
      have g7 : (B.length * 48 ≤ 140737488355328) = True := by rw [eq_iff_iff, iff_true]; omega
      have g8 : ((B.length + 1) * 48 ≤ 140737488355328) = True := by rw [eq_iff_iff, iff_true]; omega
      have g9 : B.length + 1 + (B.length - B.length) = B.length + 1 := by omega
      have g10 : ((B.length + 1) * 48 ≤ 140737488355328) = True := by rw [eq_iff_iff, iff_true]; omega
      have g11 : B.length * 5 + 5 = (B.length + 1) * 5 := by omega
      replace k1 := hide k1
      replace k2 := hide k2
      replace e1 := hide e1
      generalize insV B x = K at *
      replace hn := hide hn
      replace hil := hide hil
      replace hkk := hide hkk
      clear hK hk e0
      repeat' (first
        | (simp -implicitDefEqProofs only [*, addFp_wr, fBlob, List.map_cons, List.map_nil, List.length_map, Nat.sub_zero, List.length_append, List.length_cons, List.length_nil, zr, Nat.reduceAdd, Nat.reduceSub, Nat.reduceMul, Nat.reduceLT, Nat.reduceLeDiff, Nat.reduceEqDiff, Nat.reduceBEq, reduceIte, reduceCtorEq, Int.reduceLE, Int.reduceLT, Int.reduceToNat, Int.reduceEq, Int.reduceNe])
        | ((first | apply zk0 | apply zk1 | apply zk2 | apply zk3 | apply zk4 | apply zk5 | apply zk6 | apply zk7 | apply zk8 | apply zk9) <;> intro hc)
        | (refine callP0 rfl ?_)
        | (refine callD0 rfl ?_)
        | fail)
      refine ⟨(i + 1, K), [(166, 32)], hn.out, by dsimp only; omega, rfl, ?_⟩
      refine wk_i ?_ ?_ <;> simp only [zw, Nat.reduceEqDiff, Nat.reduceBEq, Nat.reduceLT, Nat.reduceLeDiff, reduceIte, reduceCtorEq]
      have kk : T1 ++ [AV.f (FV.str x.1), AV.f (FV.int .i64 x.2.1), AV.f (FV.int .i64 x.2.2.1), AV.f (FV.int .i64 x.2.2.2.1), AV.f (FV.int .i64 x.2.2.2.2)] ++ T2 = (rowF fBlob K).map AV.f := by rw [k1.out, k2.out, e1.out, List.map_append, List.map_append, List.append_assoc]; rfl
      simp only [kk, tl_fs, so_same, hil.out, and_self]
  · obtain rfl : i = bl2.length := by have := hM.out.le; omega
    have h2 := lt_f hge
    have h2i : decide ((bl2.length : Int) < (bl2.length : Int)) = false := dcF (by omega)
    have hB : mgBL bl bl2 = some B := by rw [hM.out.is, List.drop_length]; rfl
    have hBl : B.length ≤ 6000 := by have := hM.out.len; omega
    have hBr := hide hM.out.rise
    have hBs := hide hM.out.src
    clear hM hI hca hcb hOb
    repeat' (first
      | (simp -implicitDefEqProofs only [*, pCache, frBlobs, List.length_map, addFp_wr, zr, Nat.reduceAdd, Nat.reduceSub, Nat.reduceMul, Nat.reduceLT, Nat.reduceLeDiff, Nat.reduceEqDiff, Nat.reduceBEq, reduceIte, reduceCtorEq, Int.reduceLE, Int.reduceLT, Int.reduceToNat, Int.reduceEq, Int.reduceNe])
      | ((first | apply zk0 | apply zk1 | apply zk2 | apply zk3 | apply zk4 | apply zk5 | apply zk6 | apply zk7 | apply zk8 | apply zk9) <;> intro hc)
      | (refine callP0 rfl ?_)
      | (refine callD0 rfl ?_)
      | fail)
    clear h2 h2i
    refine ax_loopW (S := Nat × List Entry) 292 [4, 8, 9] [4, 32] (fun s => [(14, .f (.int .i64 s.1))]) (fun s => [(2032, 1, AObj.cells [.f (.int .i64 room), .f (.int .i64 lease), .sl 32 1 5 0 B.length, .sl 1032 1 3 0 s.2.length]), (1032, 1, AObj.cells ((rowF fEntry s.2).map AV.f))]) (fun s => MgE en en2 s.1 s.2) (fun s => en2.length - s.1) ((0, en)) [] [] ?_ rfl ?_ fun s hs => ?_
    · exact hJ.out
    · refine wk_i ?_ ?_ <;> simp only [zw, Nat.reduceEqDiff, Nat.reduceBEq, Nat.reduceLT, Nat.reduceLeDiff, reduceIte, reduceCtorEq]
    simp only [sws_n, swh_n]
    obtain ⟨i, E⟩ := s
    dsimp only at hs ⊢
    have hM := hide hs
    clear hs
    refine srun_sound 300 _ _ _ _ ?_
    rcases Nat.lt_or_ge i en2.length with hlt | hge
    · obtain ⟨x, hx⟩ := get_some hlt
      have h4 := inc64 hlt (by omega)
      have h2 := lt_t hlt
      have h2i : decide ((i : Int) < (en2.length : Int)) = true := dcT (by omega)
      have hBl : E.length ≤ 100000 := by have := hM.out.len; omega
      have hBlh := hide hBl
      repeat' (first
        | (simp -implicitDefEqProofs only [*, pCache, frBlobs, frEntries, List.getElem?_map, Option.map_some, List.length_map, fEntry, List.map_cons, List.map_nil, addFp_wr, zr, Nat.reduceAdd, Nat.reduceSub, Nat.reduceMul, Nat.reduceLT, Nat.reduceLeDiff, Nat.reduceEqDiff, Nat.reduceBEq, reduceIte, reduceCtorEq, Int.reduceLE, Int.reduceLT, Int.reduceToNat, Int.reduceEq, Int.reduceNe])
        | ((first | apply zk0 | apply zk1 | apply zk2 | apply zk3 | apply zk4 | apply zk5 | apply zk6 | apply zk7 | apply zk8 | apply zk9) <;> intro hc)
        | (refine callP0 rfl ?_)
        | (refine callD0 rfl ?_)
        | fail)
      clear h2 h2i
      refine ax_loopU (S := Nat) 292 [4, 8, 9, 14, 15] [4, 15, 32, 1032, 2032] (fun s => [(16, .f (.int .i64 s))]) (fun s => []) (fun s => s ≤ E.length ∧ ∀ (m : Nat) z, m < s → E[m]? = some z → strLt z.1 x.1 = true) (fun s => E.length - s) (0) [] ?_ ?_ fun s hs => ?_
      · exact ⟨Nat.zero_le _, fun m z h => absurd h (by omega)⟩
      · refine wk_i ?_ ?_ <;> simp only [zw, Nat.reduceEqDiff, Nat.reduceBEq, Nat.reduceLT, Nat.reduceLeDiff, reduceIte, reduceCtorEq]
      obtain ⟨hk1, hk2⟩ := hs
      have hK := hide hk2
      clear hk2
      refine srun_sound 300 _ _ _ _ ?_
      have q0 : (rowF fEntry E).length = E.length * 3 := row_len (sz := 3) (fun _ => rfl)
      rcases Nat.lt_or_ge s E.length with hl2 | hg2
      · obtain ⟨z, hz⟩ := get_some hl2
        have h6 := inc64 hl2 (by omega)
        have h5 := lt_t hl2
        have h5i : decide ((s : Int) < (E.length : Int)) = true := dcT (by omega)
        have c0 := row_cell (enc := fEntry) (sz := 3) (j := 0) (fun _ => rfl) hz (show _ = some (FV.str z.1) from rfl)
        have p0 : (s * 3 + 0 + 1 ≤ E.length * 3) = True := by rw [eq_iff_iff, iff_true]; omega
        have p1 : (s * 3 + 1 ≤ E.length * 3) = True := by rw [eq_iff_iff, iff_true]; omega
        rw [Nat.add_zero] at c0
        cases hzl : strLt z.1 x.1
        · have hk := bs_lin (key := fun b : Entry => b.1) hM.out.rise hk1 hK.out (.inr ⟨z, hz, hzl⟩)
          change eIdx E x.1 = s at hk
          cases hh : hasE E x.1
          · have hne : decide (z.1 = x.1) = false := dcF fun e => hasK_false.1 hh z (List.mem_of_getElem? hz) e
            have hn := hM.out.next hx (hrf2.out x (List.mem_of_getElem? hx))
            rw [mgE1_new hh] at hn
            obtain ⟨k, hkk⟩ : ∃ k : Nat, k = s := ⟨_, rfl⟩
            have e0 : insE E x = E.take k ++ x :: E.drop k := by unfold insE; rw [hk, ← hkk]
            have e1 : rowF fEntry (insE E x) = rowF fEntry (E.take k) ++ (fEntry x ++ rowF fEntry (E.drop k)) := by rw [e0, row_app, row_cons]
            have hil := insE_len (en := E) (e := x)
            have hkl : k ≤ E.length := by omega
            obtain ⟨T1, hT1⟩ : ∃ T, List.take (s * 3) ((rowF fEntry E).map AV.f) = T := ⟨_, rfl⟩
            obtain ⟨T2, hT2⟩ : ∃ T, List.take ((E.length - s) * 3) (List.drop (s * 3) ((rowF fEntry E).map AV.f)) = T := ⟨_, rfl⟩
            have k1 : T1 = (rowF fEntry (E.take k)).map AV.f := by rw [← hT1, ← List.map_take, row_take (sz := 3) (fun _ => rfl), hkk]
            have k2 : T2 = (rowF fEntry (E.drop k)).map AV.f := by
              rw [← hT2, ← List.map_drop, row_drop (sz := 3) (fun _ => rfl), List.take_of_length_le, hkk]
              rw [List.length_map, row_len (sz := 3) (fun _ => rfl), List.length_drop]; exact Nat.le_refl _
            have k3 : T1.length = s * 3 := by rw [k1, List.length_map, row_len (sz := 3) (fun _ => rfl), List.length_take]; omega
            have k5 : T2.length = (E.length - s) * 3 := by rw [k2, List.length_map, row_len (sz := 3) (fun _ => rfl), List.length_drop]; omega
            have g1 : ((s : Int) ≤ (E.length : Int)) = True := by rw [eq_iff_iff, iff_true]; omega
            have g4 : ((E.length : Int) ≤ (E.length : Int)) = True := by rw [eq_iff_iff, iff_true]; omega
            have g5 : (s * 3 ≤ E.length * 3) = True := by rw [eq_iff_iff, iff_true]; omega
            have g6 : ((s + (E.length - s)) * 3 ≤ E.length * 3) = True := by rw [eq_iff_iff, iff_true]; omega
            have g7 : (s * 48 ≤ 140737488355328) = True := by rw [eq_iff_iff, iff_true]; omega
            have g8 : ((s + 1) * 48 ≤ 140737488355328) = True := by rw [eq_iff_iff, iff_true]; omega
            have g9 : s + 1 + (E.length - s) = E.length + 1 := by omega
            have g10 : ((E.length + 1) * 48 ≤ 140737488355328) = True := by rw [eq_iff_iff, iff_true]; omega
            have g11 : s * 3 + 3 = (s + 1) * 3 := by omega
            replace k1 := hide k1
            replace k2 := hide k2
            replace e1 := hide e1
            generalize insE E x = K at *
            replace hn := hide hn
            replace hil := hide hil
            replace hkk := hide hkk
            clear hK hk e0
            repeat' (first
              | (simp -implicitDefEqProofs only [*, addFp_wr, fEntry, List.map_cons, List.map_nil, List.length_map, Nat.sub_zero, List.length_append, List.length_cons, List.length_nil, zr, Nat.reduceAdd, Nat.reduceSub, Nat.reduceMul, Nat.reduceLT, Nat.reduceLeDiff, Nat.reduceEqDiff, Nat.reduceBEq, reduceIte, reduceCtorEq, Int.reduceLE, Int.reduceLT, Int.reduceToNat, Int.reduceEq, Int.reduceNe])
              | ((first | apply zk0 | apply zk1 | apply zk2 | apply zk3 | apply zk4 | apply zk5 | apply zk6 | apply zk7 | apply zk8 | apply zk9) <;> intro hc)
              | (refine callP0 rfl ?_)
              | (refine callD0 rfl ?_)
              | fail)
            refine ⟨(i + 1, K), [(265, 1032)], hn.out, by dsimp only; omega, rfl, ?_⟩
            refine wk_i ?_ ?_ <;> simp only [zw, Nat.reduceEqDiff, Nat.reduceBEq, Nat.reduceLT, Nat.reduceLeDiff, reduceIte, reduceCtorEq]
            have kk : T1 ++ [AV.f (FV.str x.1), AV.f (frStrs x.2.1), AV.f (FV.int .i64 x.2.2)] ++ T2 = (rowF fEntry K).map AV.f := by rw [k1.out, k2.out, e1.out, List.map_append, List.map_append, List.append_assoc]; rfl
            simp only [kk, tl_fs, so_same, hil.out, and_self]
          · obtain ⟨y, hy, hyd⟩ := hasE_at hM.out.rise hh
            rw [hk, hz] at hy
            obtain rfl := Option.some.inj hy
            have hye : decide (z.1 = x.1) = true := dcT hyd
            have hzk : E[eIdx E x.1]? = some z := by rw [hk]; exact hz
            have hn := hM.out.next hx (hrf2.out x (List.mem_of_getElem? hx))
            rw [mgE1_old hh hzk, hk] at hn
            have p3 : (s * 3 + 2 + 1 ≤ E.length * 3) = True := by rw [eq_iff_iff, iff_true]; omega
            have c2 := row_cell (enc := fEntry) (sz := 3) (j := 2) (fun _ => rfl) hz (show _ = some (FV.int .i64 z.2.2) from rfl)
            have e1 := row_set1 (enc := fEntry) (sz := 3) (j := 2) (y := mxE z x) (v := .int .i64 (max z.2.2 x.2.2)) (fun _ => rfl) hz (by omega) rfl
            rw [splice_1] at e1
            replace e1 := hide e1
            replace hn := hide hn
            replace hyd := hide hyd
            replace hk := hide hk
            repeat' (first
              | (simp -implicitDefEqProofs only [*, addFp_wr, fEntry, List.map_cons, List.map_nil, zr, Nat.reduceAdd, Nat.reduceSub, Nat.reduceMul, Nat.reduceLT, Nat.reduceLeDiff, Nat.reduceEqDiff, Nat.reduceBEq, reduceIte, reduceCtorEq, Int.reduceLE, Int.reduceLT, Int.reduceToNat, Int.reduceEq, Int.reduceNe])
              | ((first | apply zk0 | apply zk1 | apply zk2 | apply zk3 | apply zk4 | apply zk5 | apply zk6 | apply zk7 | apply zk8 | apply zk9) <;> intro hc)
              | (refine callP0 rfl ?_)
              | (refine callD0 rfl ?_)
              | fail)
            rw [e1.out]
            refine ⟨(i + 1, E.set s (mxE z x)), [], hn.out, by dsimp only; omega, rfl, ?_⟩
            refine wk_i ?_ ?_ <;> simp only [zw, Nat.reduceEqDiff, Nat.reduceBEq, Nat.reduceLT, Nat.reduceLeDiff, reduceIte, reduceCtorEq]
            simp
        · have hn : ∀ (m : Nat) w, m < s + 1 → E[m]? = some w → strLt w.1 x.1 = true := fun m w hm hw => by
            rcases Nat.lt_succ_iff_lt_or_eq.1 hm with h1 | rfl
            · exact hK.out m w h1 hw
            · rw [hz] at hw; obtain rfl := Option.some.inj hw; exact hzl
          replace hn := hide hn
          repeat' (first
            | (simp -implicitDefEqProofs only [*, addFp_wr, zr, Nat.reduceAdd, Nat.reduceSub, Nat.reduceMul, Nat.reduceLT, Nat.reduceLeDiff, Nat.reduceEqDiff, Nat.reduceBEq, reduceIte, reduceCtorEq, Int.reduceLE, Int.reduceLT, Int.reduceToNat, Int.reduceEq, Int.reduceNe])
            | ((first | apply zk0 | apply zk1 | apply zk2 | apply zk3 | apply zk4 | apply zk5 | apply zk6 | apply zk7 | apply zk8 | apply zk9) <;> intro hc)
            | (refine callP0 rfl ?_)
            | (refine callD0 rfl ?_)
            | fail)
          refine ⟨s + 1, ⟨hl2, hn.out⟩, by omega, ?_⟩
          refine wk_i ?_ ?_ <;> simp only [zw, Nat.reduceEqDiff, Nat.reduceBEq, Nat.reduceLT, Nat.reduceLeDiff, reduceIte, reduceCtorEq]
      · obtain rfl : s = E.length := by omega
        have h5 := lt_f hg2
        have h5i : decide ((E.length : Int) < (E.length : Int)) = false := dcF (by omega)
        have hk := bs_lin (key := fun b : Entry => b.1) hM.out.rise hk1 hK.out (.inl rfl)
        change eIdx E x.1 = E.length at hk
        have hh : hasE E x.1 = false := by
          cases h : hasE E x.1
          · rfl
          · obtain ⟨y, hy, hyd⟩ := hasE_at hM.out.rise h
            rw [hk] at hy
            have := (List.getElem?_eq_some_iff.1 hy).1
            omega
        have hn := hM.out.next hx (hrf2.out x (List.mem_of_getElem? hx))
        rw [mgE1_new hh] at hn
        obtain ⟨k, hkk⟩ : ∃ k : Nat, k = E.length := ⟨_, rfl⟩
        have e0 : insE E x = E.take k ++ x :: E.drop k := by unfold insE; rw [hk, ← hkk]
        have e1 : rowF fEntry (insE E x) = rowF fEntry (E.take k) ++ (fEntry x ++ rowF fEntry (E.drop k)) := by rw [e0, row_app, row_cons]
        have hil := insE_len (en := E) (e := x)
        have hkl : k ≤ E.length := by omega
        obtain ⟨T1, hT1⟩ : ∃ T, List.take (E.length * 3) ((rowF fEntry E).map AV.f) = T := ⟨_, rfl⟩
        obtain ⟨T2, hT2⟩ : ∃ T, List.take ((E.length - E.length) * 3) (List.drop (E.length * 3) ((rowF fEntry E).map AV.f)) = T := ⟨_, rfl⟩
        have k1 : T1 = (rowF fEntry (E.take k)).map AV.f := by rw [← hT1, ← List.map_take, row_take (sz := 3) (fun _ => rfl), hkk]
        have k2 : T2 = (rowF fEntry (E.drop k)).map AV.f := by
          rw [← hT2, ← List.map_drop, row_drop (sz := 3) (fun _ => rfl), List.take_of_length_le, hkk]
          rw [List.length_map, row_len (sz := 3) (fun _ => rfl), List.length_drop]; exact Nat.le_refl _
        have k3 : T1.length = E.length * 3 := by rw [k1, List.length_map, row_len (sz := 3) (fun _ => rfl), List.length_take]; omega
        have k5 : T2.length = (E.length - E.length) * 3 := by rw [k2, List.length_map, row_len (sz := 3) (fun _ => rfl), List.length_drop]; omega
        have g1 : ((E.length : Int) ≤ (E.length : Int)) = True := by rw [eq_iff_iff, iff_true]; omega
        have g4 : ((E.length : Int) ≤ (E.length : Int)) = True := by rw [eq_iff_iff, iff_true]; omega
        have g5 : (E.length * 3 ≤ E.length * 3) = True := by rw [eq_iff_iff, iff_true]; omega
        have g6 : ((E.length + (E.length - E.length)) * 3 ≤ E.length * 3) = True := by rw [eq_iff_iff, iff_true]; omega
        have g7 : (E.length * 48 ≤ 140737488355328) = True := by rw [eq_iff_iff, iff_true]; omega
        have g8 : ((E.length + 1) * 48 ≤ 140737488355328) = True := by rw [eq_iff_iff, iff_true]; omega
        have g9 : E.length + 1 + (E.length - E.length) = E.length + 1 := by omega
        have g10 : ((E.length + 1) * 48 ≤ 140737488355328) = True := by rw [eq_iff_iff, iff_true]; omega
        have g11 : E.length * 3 + 3 = (E.length + 1) * 3 := by omega
        replace k1 := hide k1
        replace k2 := hide k2
        replace e1 := hide e1
        generalize insE E x = K at *
        replace hn := hide hn
        replace hil := hide hil
        replace hkk := hide hkk
        clear hK hk e0
        repeat' (first
          | (simp -implicitDefEqProofs only [*, addFp_wr, fEntry, List.map_cons, List.map_nil, List.length_map, Nat.sub_zero, List.length_append, List.length_cons, List.length_nil, zr, Nat.reduceAdd, Nat.reduceSub, Nat.reduceMul, Nat.reduceLT, Nat.reduceLeDiff, Nat.reduceEqDiff, Nat.reduceBEq, reduceIte, reduceCtorEq, Int.reduceLE, Int.reduceLT, Int.reduceToNat, Int.reduceEq, Int.reduceNe])
          | ((first | apply zk0 | apply zk1 | apply zk2 | apply zk3 | apply zk4 | apply zk5 | apply zk6 | apply zk7 | apply zk8 | apply zk9) <;> intro hc)
          | (refine callP0 rfl ?_)
          | (refine callD0 rfl ?_)
          | fail)
        refine ⟨(i + 1, K), [(265, 1032)], hn.out, by dsimp only; omega, rfl, ?_⟩
        refine wk_i ?_ ?_ <;> simp only [zw, Nat.reduceEqDiff, Nat.reduceBEq, Nat.reduceLT, Nat.reduceLeDiff, reduceIte, reduceCtorEq]
        have kk : T1 ++ [AV.f (FV.str x.1), AV.f (frStrs x.2.1), AV.f (FV.int .i64 x.2.2)] ++ T2 = (rowF fEntry K).map AV.f := by rw [k1.out, k2.out, e1.out, List.map_append, List.map_append, List.append_assoc]; rfl
        simp only [kk, tl_fs, so_same, hil.out, and_self]
    · obtain rfl : i = en2.length := by have := hM.out.le; omega
      have h2 := lt_f hge
      have h2i : decide ((en2.length : Int) < (en2.length : Int)) = false := dcF (by omega)
      have hEE : mgEL en en2 = E := by rw [hM.out.is, List.drop_length]; rfl
      have hck := CheckCacheR_f (room, lease, B, E) ⟨⟨by show (B.length : Int) ≤ _; omega, by have := hM.out.len; show (E.length : Int) ≤ _; omega, fun e he => by have := hM.out.rf e he; omega⟩, fun y hy => by
        obtain ⟨e, he | he, hk⟩ := hBs.out y hy
        · rw [← hk]; exact ha.out.2.1 e he
        · rw [← hk]; exact hb.out.2.1 e he, fun y hy => by
        obtain ⟨e, he | he, hk, hr⟩ := hM.out.src y hy
        · rw [← hk, ← hr]; exact ha.out.2.2 e he
        · rw [← hk, ← hr]; exact hb.out.2.2 e he⟩
      have e1 := hE.out
      have e2 := hV.out
      rw [hB, hEE] at e1 e2
      simp only at e1 e2
      rw [← e1] at hck
      have e3 := hrs.out
      rw [e2] at e3
      clear hM hJ hrf2 hE hV hrs hEE e1 e2 hB hBr hBs ha hb
      dsimp only at e3
      by_cases hz : EE = 0
      · rw [hz] at hck e3
        rw [if_pos rfl] at e3
        rw [e3]
        clear hmr e3 hz
        repeat' (first
          | (simp -implicitDefEqProofs only [*, pCache, frEntries, List.length_map, addFp_wr, zr, Nat.reduceAdd, Nat.reduceSub, Nat.reduceMul, Nat.reduceLT, Nat.reduceLeDiff, Nat.reduceEqDiff, Nat.reduceBEq, reduceIte, reduceCtorEq, Int.reduceLE, Int.reduceLT, Int.reduceToNat, Int.reduceEq, Int.reduceNe])
          | ((first | apply zk0 | apply zk1 | apply zk2 | apply zk3 | apply zk4 | apply zk5 | apply zk6 | apply zk7 | apply zk8 | apply zk9) <;> intro hc)
          | (refine callP0 rfl ?_)
          | (refine callD0 rfl ?_)
          | fail)
        refine gG hck ⟨fz_ownc rfl rfl, trivial⟩ ?_
        clear hck
        repeat' (first
          | (simp -implicitDefEqProofs only [*, addFp_wr, zr, Nat.reduceAdd, Nat.reduceSub, Nat.reduceMul, Nat.reduceLT, Nat.reduceLeDiff, Nat.reduceEqDiff, Nat.reduceBEq, reduceIte, reduceCtorEq, Int.reduceLE, Int.reduceLT, Int.reduceToNat, Int.reduceEq, Int.reduceNe])
          | ((first | apply zk0 | apply zk1 | apply zk2 | apply zk3 | apply zk4 | apply zk5 | apply zk6 | apply zk7 | apply zk8 | apply zk9) <;> intro hc)
          | (refine callP0 rfl ?_)
          | (refine callD0 rfl ?_)
          | fail)
        exact ⟨[.agg [.f (.int .i64 room), .f (.int .i64 lease), .sl 32 1 5 0 B.length, .sl 1032 1 3 0 E.length], .f (.int .i64 0)], rfl, ⟨⟨rfl, rfl, .inr ⟨32, 1, rfl, rfl, lenB rfl⟩, .inr ⟨1032, 1, rfl, rfl, lenE rfl⟩, rfl⟩, rfl, rfl⟩, by simp [idsS, idsC]⟩
      · have dq : decide (EE = 0) = false := dcF hz
        clear e3
        replace hz := hide hz
        repeat' (first
          | (simp -implicitDefEqProofs only [*, pCache, frEntries, List.length_map, addFp_wr, zr, Nat.reduceAdd, Nat.reduceSub, Nat.reduceMul, Nat.reduceLT, Nat.reduceLeDiff, Nat.reduceEqDiff, Nat.reduceBEq, reduceIte, reduceCtorEq, Int.reduceLE, Int.reduceLT, Int.reduceToNat, Int.reduceEq, Int.reduceNe])
          | ((first | apply zk0 | apply zk1 | apply zk2 | apply zk3 | apply zk4 | apply zk5 | apply zk6 | apply zk7 | apply zk8 | apply zk9) <;> intro hc)
          | (refine callP0 rfl ?_)
          | (refine callD0 rfl ?_)
          | fail)
        refine gG hck ⟨fz_ownc rfl rfl, trivial⟩ ?_
        clear hck
        repeat' (first
          | (simp -implicitDefEqProofs only [*, addFp_wr, zr, Nat.reduceAdd, Nat.reduceSub, Nat.reduceMul, Nat.reduceLT, Nat.reduceLeDiff, Nat.reduceEqDiff, Nat.reduceBEq, reduceIte, reduceCtorEq, Int.reduceLE, Int.reduceLT, Int.reduceToNat, Int.reduceEq, Int.reduceNe])
          | ((first | apply zk0 | apply zk1 | apply zk2 | apply zk3 | apply zk4 | apply zk5 | apply zk6 | apply zk7 | apply zk8 | apply zk9) <;> intro hc)
          | (refine callP0 rfl ?_)
          | (refine callD0 rfl ?_)
          | fail)
        exact hmr.out _ _ rfl hz.out
end Go.Proofs.YtalfepdfiehecaaDoor
