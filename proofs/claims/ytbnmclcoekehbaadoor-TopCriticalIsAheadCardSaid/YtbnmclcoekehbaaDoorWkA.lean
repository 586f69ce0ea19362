/-
  Works on the machine: words, pairs, one work, the search. No statement of the seat is proved here; no conditions.
-/
import Derived.Test.YtbnmclcoekehbaaDoorWkD
namespace Go.Proofs.YtbnmclcoekehbaaDoor
open Go.RowKit Go.Shelf
set_option linter.unusedVariables false
set_option linter.unusedSimpArgs false
set_option maxRecDepth 100000

theorem trimW_f (s : ByteArray) (hs : s.size ≤ 9223372036854775807) : FRet Tryd.prog 31 [.f (.str s), .f (.str ⟨#[97, 98, 99, 100, 101, 102, 103, 104, 105, 106, 107, 108, 109, 110, 111, 112, 113, 114, 115, 116, 117, 118, 119, 120, 121, 122, 48, 49, 50, 51, 52, 53, 54, 55, 56, 57, 95, 45]⟩)] [.c (.v (.str ⟨(Lib.trimS s.data.toList wordS).toArray⟩))] :=
  fret_calls (by kernel_rfl) fun G Z w vs h1 h2 => by
    obtain ⟨v0, v1, rfl, r0, r1⟩ := args2 h1 h2
    obtain rfl := r0.str_
    obtain rfl := r1.str_
    have hcon := Any.strings_Trim_laid Tryd.lays160 (by kernel_rfl) s ⟨#[97, 98, 99, 100, 101, 102, 103, 104, 105, 106, 107, 108, 109, 110, 111, 112, 113, 114, 115, 116, 117, 118, 119, 120, 121, 122, 48, 49, 50, 51, 52, 53, 54, 55, 56, 57, 95, 45]⟩ w hs (by decide) (ascii_of_all (by decide))
    change Calls Tryd.prog 31 _ _ _ at hcon
    exact hcon.mono fun e w' ⟨he, hb⟩ => ⟨_, he, fun Z' => .str _, hb⟩
set_option maxHeartbeats 1000000 in
theorem isWord_f (p : ByteArray) : FRet Tryd.prog 20 [.f (.str p)] [.c (.v (.bool (isWordV p)))] := by
  refine FCall.of_ax low_config_IsWord ?_
  dsimp only [l_config_IsWord]
  refine srun_sound 300 _ _ _ _ ?_
  have hbl := bytes_len p
  rcases hL : p.data.toList with _ | ⟨b0, bl⟩
  · have hf : isWordV p = false := by unfold isWordV; rw [hL]
    have d1 : decide ((p.size : Int) < 1) = true := by rw [hL] at hbl; rw [decide_eq_true_eq]; simp at hbl; omega
    rw [hf]
    clear hbl hL
    repeat' (first
      | (simp -implicitDefEqProofs only [*, zr, Nat.reduceAdd, Nat.reduceSub, Nat.reduceMul, Nat.reduceLT, Nat.reduceLeDiff, Nat.reduceEqDiff, Nat.reduceBEq, reduceIte, reduceCtorEq, Int.reduceLE, Int.reduceLT, Int.reduceToNat, Int.reduceEq, Int.reduceNe])
      | ((first | apply zk0 | apply zk1 | apply zk2 | apply zk3 | apply zk4 | apply zk5 | apply zk6 | apply zk7 | apply zk8 | apply zk9) <;> intro hc)
      | (refine callP0 rfl ?_)
      | (refine callD0 rfl ?_)
      | fail)
    exact ret_v
  have d1 : decide ((p.size : Int) < 1) = false := by rw [hL] at hbl; rw [decide_eq_false_iff_not]; simp at hbl; omega
  have hV : isWordV p = (!decide ((40 : Int) < p.size) && (inRg (b0.toNat : Nat) 97 122 && decide ((⟨(Lib.trimS p.data.toList wordS).toArray⟩ : ByteArray) = ⟨#[]⟩))) := by unfold isWordV; rw [hL]
  rw [hV]
  clear hV
  have h0 : p.data.toList[0]? = some b0 := by rw [hL]; rfl
  clear hL
  cases d2 : decide ((40 : Int) < p.size)
  case true =>
    repeat' (first
      | (simp -implicitDefEqProofs only [*, zr, Nat.reduceAdd, Nat.reduceSub, Nat.reduceMul, Nat.reduceLT, Nat.reduceLeDiff, Nat.reduceEqDiff, Nat.reduceBEq, reduceIte, reduceCtorEq, Int.reduceLE, Int.reduceLT, Int.reduceToNat, Int.reduceEq, Int.reduceNe])
      | ((first | apply zk0 | apply zk1 | apply zk2 | apply zk3 | apply zk4 | apply zk5 | apply zk6 | apply zk7 | apply zk8 | apply zk9) <;> intro hc)
      | (refine callP0 rfl ?_)
      | (refine callD0 rfl ?_)
      | fail)
    exact ret_ve rfl
  have hT := trimW_f p (by have := of_decide_eq_false d2; omega)
  generalize (⟨(Lib.trimS p.data.toList wordS).toArray⟩ : ByteArray) = T at *
  replace hT := hide hT
  clear hbl
  cases d3 : decide ((b0.toNat : Int) < 97)
  · cases d4 : decide ((122 : Int) < b0.toNat)
    · have hR : inRg (b0.toNat : Nat) 97 122 = true := by
        have := of_decide_eq_false d3; have := of_decide_eq_false d4
        exact rg_iff.2 (by omega)
      repeat' (first
        | (simp -implicitDefEqProofs only [*, Int.le_refl, Int.toNat_zero, zr, Nat.reduceAdd, Nat.reduceSub, Nat.reduceMul, Nat.reduceLT, Nat.reduceLeDiff, Nat.reduceEqDiff, Nat.reduceBEq, reduceIte, reduceCtorEq, Int.reduceLE, Int.reduceLT, Int.reduceToNat, Int.reduceEq, Int.reduceNe])
        | ((first | apply zk0 | apply zk1 | apply zk2 | apply zk3 | apply zk4 | apply zk5 | apply zk6 | apply zk7 | apply zk8 | apply zk9) <;> intro hc)
        | (refine callP0 rfl ?_)
        | (refine callD0 rfl ?_)
        | (refine cP (hT.out) ?_)
        | (refine cD (hT.out) ?_)
        | (refine cF (hT.out) ?_)
        | fail)
      exact ret_ve rfl
    · have hR : inRg (b0.toNat : Nat) 97 122 = false := by
        cases h : inRg (b0.toNat : Nat) 97 122
        · rfl
        · have := rg_iff.1 h; have := of_decide_eq_true d4; omega
      repeat' (first
        | (simp -implicitDefEqProofs only [*, Int.le_refl, Int.toNat_zero, zr, Nat.reduceAdd, Nat.reduceSub, Nat.reduceMul, Nat.reduceLT, Nat.reduceLeDiff, Nat.reduceEqDiff, Nat.reduceBEq, reduceIte, reduceCtorEq, Int.reduceLE, Int.reduceLT, Int.reduceToNat, Int.reduceEq, Int.reduceNe])
        | ((first | apply zk0 | apply zk1 | apply zk2 | apply zk3 | apply zk4 | apply zk5 | apply zk6 | apply zk7 | apply zk8 | apply zk9) <;> intro hc)
        | (refine callP0 rfl ?_)
        | (refine callD0 rfl ?_)
        | (refine cP (hT.out) ?_)
        | (refine cD (hT.out) ?_)
        | (refine cF (hT.out) ?_)
        | fail)
      exact ret_ve rfl
  · have hR : inRg (b0.toNat : Nat) 97 122 = false := by
      cases h : inRg (b0.toNat : Nat) 97 122
      · rfl
      · have := rg_iff.1 h; have := of_decide_eq_true d3; omega
    repeat' (first
      | (simp -implicitDefEqProofs only [*, Int.le_refl, Int.toNat_zero, zr, Nat.reduceAdd, Nat.reduceSub, Nat.reduceMul, Nat.reduceLT, Nat.reduceLeDiff, Nat.reduceEqDiff, Nat.reduceBEq, reduceIte, reduceCtorEq, Int.reduceLE, Int.reduceLT, Int.reduceToNat, Int.reduceEq, Int.reduceNe])
      | ((first | apply zk0 | apply zk1 | apply zk2 | apply zk3 | apply zk4 | apply zk5 | apply zk6 | apply zk7 | apply zk8 | apply zk9) <;> intro hc)
      | (refine callP0 rfl ?_)
      | (refine callD0 rfl ?_)
      | (refine cP (hT.out) ?_)
      | (refine cD (hT.out) ?_)
      | (refine cF (hT.out) ?_)
      | fail)
    exact ret_ve rfl
theorem CheckPairs_f (l : List Pair) (hl : (l.length : Int) ≤ 9223372036854775807) : FRet Tryd.prog 21 [.f (frPairs l)] [.c (.v (.int .i64 (ckPairs l)))] := by
  refine FCall.of_ax low_config_CheckPairs ?_
  dsimp only [l_config_CheckPairs, frPairs]
  refine srun_sound 300 _ _ _ _ ?_
  repeat' (first
    | (simp -implicitDefEqProofs only [*, zr, Nat.reduceAdd, Nat.reduceSub, Nat.reduceMul, Nat.reduceLT, Nat.reduceLeDiff, Nat.reduceEqDiff, Nat.reduceBEq, reduceIte, reduceCtorEq, Int.reduceLE, Int.reduceLT, Int.reduceToNat, Int.reduceEq, Int.reduceNe])
    | ((first | apply zk0 | apply zk1 | apply zk2 | apply zk3 | apply zk4 | apply zk5 | apply zk6 | apply zk7 | apply zk8 | apply zk9) <;> intro hc)
    | (refine callP0 rfl ?_)
    | (refine callD0 rfl ?_)
    | fail)
  · rw [ckPairs, if_pos (of_decide_eq_true hc)]
    exact ret_v
  rw [ckPairs, if_neg (of_decide_eq_false hc)]
  clear hc
  refine ax_loopU (S := Nat) 40 [0, 8, 9] [] (fun s => [(10, .f (.int .i64 s))]) (fun s => []) (fun s => s ≤ l.length ∧ ∀ m, m < s → pairErr l m = 0) (fun s => l.length - s) (0) [] ?_ ?_ fun s hs => ?_
  · exact ⟨Nat.zero_le _, fe_0⟩
  · refine wk_i ?_ ?_ <;> simp only [zw, Nat.reduceEqDiff, Nat.reduceBEq, Nat.reduceLT, Nat.reduceLeDiff, reduceIte, reduceCtorEq]
  obtain ⟨hi, hall⟩ := hs
  refine srun_sound 300 _ _ _ _ ?_
  rcases Nat.lt_or_ge s l.length with hlt | hge
  · obtain ⟨x, hx⟩ := get_some hlt
    have h4 := inc64 hlt hl
    have hE := pairErr_of hx
    have h2 := lt_t hlt
    have h6 := dec64' hlt hl
    obtain ⟨y, hy, hf⟩ := prev_of hx
    rw [hf] at hE
    clear hf
    obtain ⟨xd, xs⟩ := x
    obtain ⟨yd, ys⟩ := y
    unfold leS at hE
    simp only at hE
    repeat' (first
      | (simp -implicitDefEqProofs only [*, List.getElem?_map, Option.map_some, fPair, zr, Nat.reduceAdd, Nat.reduceSub, Nat.reduceMul, Nat.reduceLT, Nat.reduceLeDiff, Nat.reduceEqDiff, Nat.reduceBEq, reduceIte, reduceCtorEq, Int.reduceLE, Int.reduceLT, Int.reduceToNat, Int.reduceEq, Int.reduceNe])
      | ((first | apply zk0 | apply zk1 | apply zk2 | apply zk3 | apply zk4 | apply zk5 | apply zk6 | apply zk7 | apply zk8 | apply zk9) <;> intro hc)
      | (refine callP0 rfl ?_)
      | (refine callD0 rfl ?_)
      | (refine cP (isWord_f _) ?_)
      | (refine cD (isWord_f _) ?_)
      | (refine cF (isWord_f _) ?_)
      | fail)
    all_goals simp only [*, if_true, if_false, Bool.false_eq_true] at hE
    all_goals first
      | exact ret_ve (by rw [fe_hit hall hlt (by rw [hE]; decide), hE])
      | (refine ⟨s + 1, ⟨hlt, fe_step hall hE⟩, by omega, ?_⟩; refine wk_i ?_ ?_ <;> simp only [zw, Nat.reduceEqDiff, Nat.reduceBEq, Nat.reduceLT, Nat.reduceLeDiff, reduceIte, reduceCtorEq])
  · simp -implicitDefEqProofs only [lt_f hge, zr, Nat.reduceAdd, Nat.reduceSub, Nat.reduceMul, Nat.reduceLT, Nat.reduceLeDiff, Nat.reduceEqDiff, Nat.reduceBEq, reduceIte, reduceCtorEq, Int.reduceLE, Int.reduceLT, Int.reduceToNat, Int.reduceEq, Int.reduceNe]
    obtain rfl : s = l.length := by omega
    rw [fe_none hall]
    exact ret_v
theorem wkwithin_f (n l h : Int) : FRet Tryd.prog 22 [.f (.int .i64 n), .f (.int .i64 l), .f (.int .i64 h)] [.c (.v (.bool (inRg n l h)))] := by
  refine FCall.of_ax low_workers_within ?_
  dsimp only [l_workers_within]
  refine srun_sound 100 _ _ _ _ ?_
  repeat' (first
    | (simp -implicitDefEqProofs only [*, zr, Nat.reduceAdd, Nat.reduceSub, Nat.reduceMul, Nat.reduceLT, Nat.reduceLeDiff, Nat.reduceEqDiff, Nat.reduceBEq, reduceIte, reduceCtorEq, Int.reduceLE, Int.reduceLT, Int.reduceToNat, Int.reduceEq, Int.reduceNe])
    | ((first | apply zk0 | apply zk1 | apply zk2 | apply zk3 | apply zk4 | apply zk5 | apply zk6 | apply zk7 | apply zk8 | apply zk9) <;> intro hc)
    | (refine callP0 rfl ?_)
    | (refine callD0 rfl ?_)
    | fail)
  all_goals (refine ret_ve ?_; simp only [inRg, *, Bool.true_and, Bool.false_and])
theorem checkWork_f (x : Work) (hl : (x.2.1.length : Int) ≤ 9223372036854775807) (hl2 : (x.2.2.2.length : Int) ≤ 9223372036854775807) : FRet Tryd.prog 14 [.agg ((fWork x).map .f)] [.c (.v (.int .i64 (ckWork x)))] := by
  obtain ⟨id, nd, size, aft⟩ := x
  dsimp only at hl hl2
  have hp := CheckPairs_f nd hl
  refine FCall.of_ax low_workers_checkWork ?_
  dsimp only [l_workers_checkWork, fWork, frStrs, List.map_cons, List.map_nil]
  unfold ckWork
  dsimp only
  refine srun_sound 300 _ _ _ _ ?_
  cases h1 : isWordV id
  · repeat' (first
      | (simp -implicitDefEqProofs only [*, zr, Nat.reduceAdd, Nat.reduceSub, Nat.reduceMul, Nat.reduceLT, Nat.reduceLeDiff, Nat.reduceEqDiff, Nat.reduceBEq, reduceIte, reduceCtorEq, Int.reduceLE, Int.reduceLT, Int.reduceToNat, Int.reduceEq, Int.reduceNe])
      | ((first | apply zk0 | apply zk1 | apply zk2 | apply zk3 | apply zk4 | apply zk5 | apply zk6 | apply zk7 | apply zk8 | apply zk9) <;> intro hc)
      | (refine callP0 rfl ?_)
      | (refine callD0 rfl ?_)
      | (refine cP (isWord_f _) ?_)
      | (refine cD (isWord_f _) ?_)
      | (refine cF (isWord_f _) ?_)
      | fail)
    exact ret_ve rfl
  rw [if_neg (by decide)]
  by_cases h2 : ckPairs nd = 0
  case neg =>
    rw [if_pos h2]
    have d0 := dcF h2
    generalize ckPairs nd = q at *
    replace h2 := hide h2
    repeat' (first
      | (simp -implicitDefEqProofs only [*, zr, Nat.reduceAdd, Nat.reduceSub, Nat.reduceMul, Nat.reduceLT, Nat.reduceLeDiff, Nat.reduceEqDiff, Nat.reduceBEq, reduceIte, reduceCtorEq, Int.reduceLE, Int.reduceLT, Int.reduceToNat, Int.reduceEq, Int.reduceNe])
      | ((first | apply zk0 | apply zk1 | apply zk2 | apply zk3 | apply zk4 | apply zk5 | apply zk6 | apply zk7 | apply zk8 | apply zk9) <;> intro hc)
      | (refine callP0 rfl ?_)
      | (refine callD0 rfl ?_)
      | (refine cP (isWord_f _) ?_)
      | (refine cD (isWord_f _) ?_)
      | (refine cF (isWord_f _) ?_)
      | (refine cP (hp) ?_)
      | (refine cD (hp) ?_)
      | (refine cF (hp) ?_)
      | fail)
    exact ret_v
  rw [if_neg (fun h => h h2)]
  rw [h2] at hp
  cases h3 : inRg size 1 1000000
  · repeat' (first
      | (simp -implicitDefEqProofs only [*, zr, Nat.reduceAdd, Nat.reduceSub, Nat.reduceMul, Nat.reduceLT, Nat.reduceLeDiff, Nat.reduceEqDiff, Nat.reduceBEq, reduceIte, reduceCtorEq, Int.reduceLE, Int.reduceLT, Int.reduceToNat, Int.reduceEq, Int.reduceNe])
      | ((first | apply zk0 | apply zk1 | apply zk2 | apply zk3 | apply zk4 | apply zk5 | apply zk6 | apply zk7 | apply zk8 | apply zk9) <;> intro hc)
      | (refine callP0 rfl ?_)
      | (refine callD0 rfl ?_)
      | (refine cP (isWord_f _) ?_)
      | (refine cD (isWord_f _) ?_)
      | (refine cF (isWord_f _) ?_)
      | (refine cP (hp) ?_)
      | (refine cD (hp) ?_)
      | (refine cF (hp) ?_)
      | (refine cP (wkwithin_f _ _ _) ?_)
      | (refine cD (wkwithin_f _ _ _) ?_)
      | (refine cF (wkwithin_f _ _ _) ?_)
      | fail)
    exact ret_ve rfl
  rw [if_neg (by decide)]
  clear h2
  repeat' (first
    | (simp -implicitDefEqProofs only [*, zr, Nat.reduceAdd, Nat.reduceSub, Nat.reduceMul, Nat.reduceLT, Nat.reduceLeDiff, Nat.reduceEqDiff, Nat.reduceBEq, reduceIte, reduceCtorEq, Int.reduceLE, Int.reduceLT, Int.reduceToNat, Int.reduceEq, Int.reduceNe])
    | ((first | apply zk0 | apply zk1 | apply zk2 | apply zk3 | apply zk4 | apply zk5 | apply zk6 | apply zk7 | apply zk8 | apply zk9) <;> intro hc)
    | (refine callP0 rfl ?_)
    | (refine callD0 rfl ?_)
    | (refine cP (isWord_f _) ?_)
    | (refine cD (isWord_f _) ?_)
    | (refine cF (isWord_f _) ?_)
    | (refine cP (hp) ?_)
    | (refine cD (hp) ?_)
    | (refine cF (hp) ?_)
    | (refine cP (wkwithin_f _ _ _) ?_)
    | (refine cD (wkwithin_f _ _ _) ?_)
    | (refine cF (wkwithin_f _ _ _) ?_)
    | fail)
  clear h1 h3 hp
  refine ax_loopU (S := Nat) 44 [1, 21, 22] [1] (fun s => [(23, .f (.int .i64 s))]) (fun s => []) (fun s => s ≤ aft.length ∧ ∀ m, m < s → aftErr aft m = 0) (fun s => aft.length - s) (0) [] ?_ ?_ fun s hs => ?_
  · exact ⟨Nat.zero_le _, fe_0⟩
  · refine wk_i ?_ ?_ <;> simp only [zw, Nat.reduceEqDiff, Nat.reduceBEq, Nat.reduceLT, Nat.reduceLeDiff, reduceIte, reduceCtorEq]
  obtain ⟨hi, hall⟩ := hs
  refine srun_sound 300 _ _ _ _ ?_
  rcases Nat.lt_or_ge s aft.length with hlt | hge
  · obtain ⟨d, hx⟩ := get_some hlt
    have h4 := inc64 hlt hl2
    have hE := aftErr_of hx
    have h2 := lt_t hlt
    have h6 := dec64' hlt hl2
    obtain ⟨y, hy, hf⟩ := prev_of hx
    rw [hf] at hE
    clear hf
    unfold leS at hE
    repeat' (first
      | (simp -implicitDefEqProofs only [*, List.getElem?_map, Option.map_some, zr, Nat.reduceAdd, Nat.reduceSub, Nat.reduceMul, Nat.reduceLT, Nat.reduceLeDiff, Nat.reduceEqDiff, Nat.reduceBEq, reduceIte, reduceCtorEq, Int.reduceLE, Int.reduceLT, Int.reduceToNat, Int.reduceEq, Int.reduceNe])
      | ((first | apply zk0 | apply zk1 | apply zk2 | apply zk3 | apply zk4 | apply zk5 | apply zk6 | apply zk7 | apply zk8 | apply zk9) <;> intro hc)
      | (refine callP0 rfl ?_)
      | (refine callD0 rfl ?_)
      | (refine cP (isWord_f _) ?_)
      | (refine cD (isWord_f _) ?_)
      | (refine cF (isWord_f _) ?_)
      | fail)
    all_goals simp only [*, if_true, if_false, Bool.false_eq_true] at hE
    all_goals first
      | exact ret_ve (by rw [fe_hit hall hlt (by rw [hE]; decide), hE])
      | (refine ⟨s + 1, ⟨hlt, fe_step hall hE⟩, by omega, ?_⟩; refine wk_i ?_ ?_ <;> simp only [zw, Nat.reduceEqDiff, Nat.reduceBEq, Nat.reduceLT, Nat.reduceLeDiff, reduceIte, reduceCtorEq])
  · simp -implicitDefEqProofs only [lt_f hge, zr, Nat.reduceAdd, Nat.reduceSub, Nat.reduceMul, Nat.reduceLT, Nat.reduceLeDiff, Nat.reduceEqDiff, Nat.reduceBEq, reduceIte, reduceCtorEq, Int.reduceLE, Int.reduceLT, Int.reduceToNat, Int.reduceEq, Int.reduceNe]
    obtain rfl : s = aft.length := by omega
    rw [fe_none hall]
    exact ret_v
theorem workAtC_f (b : Work) (s : ByteArray) : FRet Tryd.prog 24 [.agg ((fWork b).map .f), .f (.str s)] [.c (.v (.int .i64 (cmpB b.1 s)))] := by
  refine FCall.of_ax low_workers_workAt_c1 ?_
  dsimp only [l_workers_workAt_c1, fWork]
  refine srun_sound 300 _ _ _ _ ?_
  repeat' (first
    | (simp -implicitDefEqProofs only [*, zr, Nat.reduceAdd, Nat.reduceSub, Nat.reduceMul, Nat.reduceLT, Nat.reduceLeDiff, Nat.reduceEqDiff, Nat.reduceBEq, reduceIte, reduceCtorEq, Int.reduceLE, Int.reduceLT, Int.reduceToNat, Int.reduceEq, Int.reduceNe])
    | ((first | apply zk0 | apply zk1 | apply zk2 | apply zk3 | apply zk4 | apply zk5 | apply zk6 | apply zk7 | apply zk8 | apply zk9) <;> intro hc)
    | (refine callP0 rfl ?_)
    | (refine callD0 rfl ?_)
    | (refine cP (compare_f _ _) ?_)
    | (refine cD (compare_f _ _) ?_)
    | (refine cF (compare_f _ _) ?_)
    | fail)
  exact ret_v
theorem bs_work (l : List Work) (tgt : ByteArray) (fn : FuncId) (cf : Work → Int) (hl : l.length ≤ 1000000) (hcmp : ∀ x ∈ l, FRet Tryd.prog fn [.agg ((fWork x).map .f), .f (.str tgt)] [.c (.v (.int .i64 (cf x)))]) (hmono : ∀ (i j : Nat) x y, i ≤ j → l[i]? = some x → l[j]? = some y → cf y < 0 → cf x < 0) :
    FRet Tryd.prog 23 [.f (.fr 4 (l.map fWork)), .f (.str tgt), .f (.fn (.func fn))] [.c (.v (.int .i64 (bsIdx cf l))), .c (.v (.bool (bsHit cf l)))] := by
  refine FCall.of_ax low_slices_BinarySearchFunc_api_Work_api_Work_string ?_
  dsimp only [l_slices_BinarySearchFunc_api_Work_api_Work_string]
  refine srun_sound 300 _ _ _ _ ?_
  repeat' (first
    | (simp -implicitDefEqProofs only [*, zr, Nat.reduceAdd, Nat.reduceSub, Nat.reduceMul, Nat.reduceLT, Nat.reduceLeDiff, Nat.reduceEqDiff, Nat.reduceBEq, reduceIte, reduceCtorEq, Int.reduceLE, Int.reduceLT, Int.reduceToNat, Int.reduceEq, Int.reduceNe])
    | ((first | apply zk0 | apply zk1 | apply zk2 | apply zk3 | apply zk4 | apply zk5 | apply zk6 | apply zk7 | apply zk8 | apply zk9) <;> intro hc)
    | (refine callP0 rfl ?_)
    | (refine callD0 rfl ?_)
    | fail)
  refine ax_loopU (S := Nat × Nat) 49 [0, 1, 2, 8] [] (fun s => [(9, .f (.int .i64 s.1)), (10, .f (.int .i64 s.2))]) (fun s => []) (fun s => s.1 ≤ s.2 ∧ s.2 ≤ l.length ∧ (∀ (m : Nat) x, m < s.1 → l[m]? = some x → cf x < 0) ∧ (∀ (m : Nat) x, s.2 ≤ m → l[m]? = some x → ¬ cf x < 0)) (fun s => s.2 - s.1) (0, l.length) [] ?_ ?_ fun s hs => ?_
  · exact ⟨Nat.zero_le _, Nat.le_refl _, fun m x h => absurd h (by omega), fun m x h hx => by have := (List.getElem?_eq_some_iff.1 hx).1; omega⟩
  · refine wk_i ?_ ?_ <;> simp only [zw, Nat.reduceEqDiff, Nat.reduceBEq, Nat.reduceLT, Nat.reduceLeDiff, reduceIte, reduceCtorEq]
  obtain ⟨i, j⟩ := s
  obtain ⟨hij, hj, hlo, hhi⟩ := hs
  dsimp only at hij hj hlo hhi ⊢
  refine srun_sound 300 _ _ _ _ ?_
  rcases Nat.lt_or_ge i j with hlt | hge
  · have h2 := lt_t hlt
    have hw1 : IntKind.i64.wrap ((i : Int) + j) = ((i + j : Nat) : Int) := by rw [wrap64] <;> omega
    have hw2 : IntKind.u64.wrap ((i + j : Nat) : Int) = ((i + j : Nat) : Int) := wrapu64 (by omega) (by omega)
    have hw3 : Int.fdiv ((i + j : Nat) : Int) (2 ^ min 1 IntKind.u64.bits) = (((i + j) / 2 : Nat) : Int) := by
      rw [show min 1 IntKind.u64.bits = 1 from rfl, Int.fdiv_eq_ediv_of_nonneg _ (by decide)]; omega
    have hw4 : IntKind.i64.wrap (((i + j) / 2 : Nat) : Int) = (((i + j) / 2 : Nat) : Int) := by rw [wrap64] <;> omega
    have hw5 : IntKind.i64.wrap ((((i + j) / 2 : Nat) : Int) + 1) = (((i + j) / 2 + 1 : Nat) : Int) := by rw [wrap64] <;> omega
    obtain ⟨x, hx⟩ := get_some (l := l) (i := (i + j) / 2) (by omega)
    have hm := List.mem_of_getElem? hx
    generalize hmid : (i + j) / 2 = mid at hw3 hw4 hw5 hx
    have hi1 : i ≤ mid := by omega
    have hi2 : mid < j := by omega
    clear hmid
    repeat' (first
      | (simp -implicitDefEqProofs only [*, List.getElem?_map, Option.map_some, fWork, zr, Nat.reduceAdd, Nat.reduceSub, Nat.reduceMul, Nat.reduceLT, Nat.reduceLeDiff, Nat.reduceEqDiff, Nat.reduceBEq, reduceIte, reduceCtorEq, Int.reduceLE, Int.reduceLT, Int.reduceToNat, Int.reduceEq, Int.reduceNe])
      | ((first | apply zk0 | apply zk1 | apply zk2 | apply zk3 | apply zk4 | apply zk5 | apply zk6 | apply zk7 | apply zk8 | apply zk9) <;> intro hc)
      | (refine callP0 rfl ?_)
      | (refine callD0 rfl ?_)
      | (refine cP (hcmp x hm) ?_)
      | (refine cD (hcmp x hm) ?_)
      | (refine cF (hcmp x hm) ?_)
      | fail)
    · refine ⟨(mid + 1, j), ⟨hi2, hj, fun m y h1 h3 => hmono m mid y x (by omega) h3 hx (of_decide_eq_true hc), hhi⟩, by simp only; omega, ?_⟩
      refine wk_i ?_ ?_ <;> simp only [zw, Nat.reduceEqDiff, Nat.reduceBEq, Nat.reduceLT, Nat.reduceLeDiff, reduceIte, reduceCtorEq]
    · refine ⟨(i, mid), ⟨hi1, by omega, hlo, fun m y h1 h3 h4 => of_decide_eq_false hc (hmono mid m x y h1 hx h3 h4)⟩, by simp only; omega, ?_⟩
      refine wk_i ?_ ?_ <;> simp only [zw, Nat.reduceEqDiff, Nat.reduceBEq, Nat.reduceLT, Nat.reduceLeDiff, reduceIte, reduceCtorEq]
  · obtain rfl : i = j := by omega
    have hidx : bsIdx cf l = i := bsIdx_eq hj hlo hhi
    have h2 := lt_f hge
    rcases Nat.lt_or_ge i l.length with h3 | h3
    · obtain ⟨x, hx⟩ := get_some h3
      have hhit : bsHit cf l = decide (cf x = 0) := by rw [bsHit, hidx, hx]
      rw [hidx, hhit]
      have h4 := lt_t h3
      repeat' (first
        | (simp -implicitDefEqProofs only [*, List.getElem?_map, Option.map_some, fWork, zr, Nat.reduceAdd, Nat.reduceSub, Nat.reduceMul, Nat.reduceLT, Nat.reduceLeDiff, Nat.reduceEqDiff, Nat.reduceBEq, reduceIte, reduceCtorEq, Int.reduceLE, Int.reduceLT, Int.reduceToNat, Int.reduceEq, Int.reduceNe])
        | ((first | apply zk0 | apply zk1 | apply zk2 | apply zk3 | apply zk4 | apply zk5 | apply zk6 | apply zk7 | apply zk8 | apply zk9) <;> intro hc)
        | (refine callP0 rfl ?_)
        | (refine callD0 rfl ?_)
        | (refine cP (hcmp x (List.mem_of_getElem? hx)) ?_)
        | (refine cD (hcmp x (List.mem_of_getElem? hx)) ?_)
        | (refine cF (hcmp x (List.mem_of_getElem? hx)) ?_)
        | fail)
      exact ret_vv
    · have hhit : bsHit cf l = false := by rw [bsHit, hidx, List.getElem?_eq_none h3]
      rw [hidx, hhit]
      have h4 := lt_f h3
      repeat' (first
        | (simp -implicitDefEqProofs only [*, zr, Nat.reduceAdd, Nat.reduceSub, Nat.reduceMul, Nat.reduceLT, Nat.reduceLeDiff, Nat.reduceEqDiff, Nat.reduceBEq, reduceIte, reduceCtorEq, Int.reduceLE, Int.reduceLT, Int.reduceToNat, Int.reduceEq, Int.reduceNe])
        | ((first | apply zk0 | apply zk1 | apply zk2 | apply zk3 | apply zk4 | apply zk5 | apply zk6 | apply zk7 | apply zk8 | apply zk9) <;> intro hc)
        | (refine callP0 rfl ?_)
        | (refine callD0 rfl ?_)
        | fail)
      exact ret_vv

theorem workAt_f (l : List Work) (t : ByteArray) (hl : l.length ≤ 1000000) (hr : Rising (fun b : Work => b.1) l) : FRet Tryd.prog 15 [.f (frWorks l), .f (.str t)] [.c (.v (.int .i64 (wIdx l t))), .c (.v (.bool (wHas l t)))] := by
  have k := bs_work l t 24 (fun b => cmpB b.1 t) hl (fun x _ => workAtC_f x t) (mono_of hr t)
  rw [bsHit_eq hr] at k
  unfold wHas wIdx
  generalize hasK (fun b : Work => b.1) l t = h at *
  generalize bsIdx (fun b : Work => cmpB b.1 t) l = i at *
  replace k := hide k
  refine FCall.of_ax low_workers_workAt ?_
  dsimp only [l_workers_workAt, frWorks]
  refine srun_sound 300 _ _ _ _ ?_
  repeat' (first
    | (simp -implicitDefEqProofs only [*, zr, Nat.reduceAdd, Nat.reduceSub, Nat.reduceMul, Nat.reduceLT, Nat.reduceLeDiff, Nat.reduceEqDiff, Nat.reduceBEq, reduceIte, reduceCtorEq, Int.reduceLE, Int.reduceLT, Int.reduceToNat, Int.reduceEq, Int.reduceNe])
    | ((first | apply zk0 | apply zk1 | apply zk2 | apply zk3 | apply zk4 | apply zk5 | apply zk6 | apply zk7 | apply zk8 | apply zk9) <;> intro hc)
    | (refine callP0 rfl ?_)
    | (refine callD0 rfl ?_)
    | (refine cP (k.out) ?_)
    | (refine cD (k.out) ?_)
    | (refine cF (k.out) ?_)
    | fail)
  exact ret_vv
end Go.Proofs.YtbnmclcoekehbaaDoor
