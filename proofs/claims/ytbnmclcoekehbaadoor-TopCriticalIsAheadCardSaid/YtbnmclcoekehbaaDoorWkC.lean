/-
  The check of works on the machine. No statement of the seat is proved here; no conditions.
-/
import Derived.Test.YtbnmclcoekehbaaDoorWkB
namespace Go.Proofs.YtbnmclcoekehbaaDoor
open Go.RowKit Go.Shelf
set_option linter.unusedVariables false
set_option linter.unusedSimpArgs false
set_option maxRecDepth 100000

def WBound (l : List Work) : Prop := (l.length : Int) ≤ 9223372036854775807 ∧ ∀ x ∈ l, (x.2.1.length : Int) ≤ 9223372036854775807 ∧ (x.2.2.2.length : Int) ≤ 9223372036854775807
theorem works_rising {l : List Work} (h : ∀ m, m < l.length → wkErr l m = 0) : Rising (fun b : Work => b.1) l := rising_of fun i x y hx hy => by
  have h1 := h (i + 1) (List.getElem?_eq_some_iff.1 hy).1
  rw [wkErr_of hy] at h1
  split at h1
  · rename_i h2; exact absurd h1 h2
  · exact leS_false (prevV_zero (p := fun e => leS y.1 e.1) hx (by decide) h1)
theorem works_ok {l : List Work} (h : ∀ m, m < l.length → wkErr l m = 0) : ∀ x ∈ l, ckWork x = 0 := fun n hn => by
  obtain ⟨m, hm⟩ := List.mem_iff_getElem?.1 hn
  have h1 := h m (List.getElem?_eq_some_iff.1 hm).1
  rw [wkErr_of hm] at h1
  by_cases h2 : ckWork n = 0
  · exact h2
  · rw [if_pos h2] at h1; exact absurd h1 h2
theorem ckWork_parts {x : Work} (h : ckWork x = 0) : isWordV x.1 = true ∧ (1 ≤ x.2.2.1 ∧ x.2.2.1 ≤ 1000000) ∧ ∀ m, m < x.2.2.2.length → aftErr x.2.2.2 m = 0 := by
  unfold ckWork at h
  split at h
  · cases h
  split at h
  · rename_i h2; exact absurd h h2
  split at h
  · cases h
  rename_i h1 h2 h3
  exact ⟨by simpa using h1, rg_iff.1 (by simpa using h3), fun m hm => fe_zero h m hm⟩
theorem aft_words {A : List ByteArray} (h : ∀ m, m < A.length → aftErr A m = 0) : (∀ d ∈ A, isWordV d = true) ∧ Rising (fun d : ByteArray => d) A := by
  have hw : ∀ (m : Nat) d, A[m]? = some d → isWordV d = true := fun m d hm => by
    have h1 := h m (List.getElem?_eq_some_iff.1 hm).1
    rw [aftErr_of hm] at h1
    by_cases h2 : isWordV d = true
    · exact h2
    · rw [if_neg h2] at h1; cases h1
  refine ⟨fun d hd => ?_, rising_of fun i x y hx hy => ?_⟩
  · obtain ⟨m, hm⟩ := List.mem_iff_getElem?.1 hd
    exact hw m d hm
  · have h1 := h (i + 1) (List.getElem?_eq_some_iff.1 hy).1
    rw [aftErr_of hy, if_pos (hw _ _ hy)] at h1
    exact leS_false (prevV_zero (p := fun e => leS y e) hx (by decide) h1)
theorem wIdx_at {l : List Work} {t : ByteArray} (hr : Rising (fun b : Work => b.1) l) (h : wHas l t = true) : ∃ x, l[wIdx l t]? = some x ∧ x.1 = t := by
  unfold wHas at h
  rw [← bsHit_eq hr, bsHit] at h
  unfold wIdx
  split at h
  · rename_i x hx
    exact ⟨x, hx, cmpB_eq.1 (of_decide_eq_true h)⟩
  · cases h
theorem aft_len {l : List Work} (hr : Rising (fun b : Work => b.1) l) {A : List ByteArray} (hA : Rising (fun d : ByteArray => d) A) (hh : ∀ d ∈ A, wHas l d = true) : A.length ≤ l.length := by
  have h1 : (A.map (wIdx l)).Nodup := by
    rw [List.Nodup, List.pairwise_map, List.pairwise_iff_getElem]
    intro i j hi hj hij e
    have hne := strLt_ne (hA i j _ _ hij (List.getElem?_eq_getElem hi) (List.getElem?_eq_getElem hj))
    obtain ⟨x, hx, ex⟩ := wIdx_at hr (hh _ (List.getElem_mem hi))
    obtain ⟨y, hy, ey⟩ := wIdx_at hr (hh _ (List.getElem_mem hj))
    rw [e, hy] at hx
    exact hne (ex.symm.trans ((congrArg (·.1) (Option.some.inj hx)).symm.trans ey))
  have := nd_bound l.length (A.map (wIdx l)) h1 fun i hi => by
    obtain ⟨d, hd, rfl⟩ := List.mem_map.1 hi
    exact wIdx_lt hr (hh d hd)
  rwa [List.length_map] at this
set_option maxHeartbeats 4000000 in
theorem CheckWorks_f (l : List Work) (hb : WBound l) : FRet Tryd.prog 8 [.f (frWorks l)] [.c (.v (.int .i64 (ckWorks l)))] := by
  obtain ⟨hb1, hb2⟩ := hb
  have hB := hide hb2
  clear hb2
  refine FCall.of_ax low_workers_CheckWorks ?_
  dsimp only [l_workers_CheckWorks, frWorks]
  refine srun_sound 300 _ _ _ _ ?_
  repeat' (first
    | (simp -implicitDefEqProofs only [*, zr, Nat.reduceAdd, Nat.reduceSub, Nat.reduceMul, Nat.reduceLT, Nat.reduceLeDiff, Nat.reduceEqDiff, Nat.reduceBEq, reduceIte, reduceCtorEq, Int.reduceLE, Int.reduceLT, Int.reduceToNat, Int.reduceEq, Int.reduceNe])
    | ((first | apply zk0 | apply zk1 | apply zk2 | apply zk3 | apply zk4 | apply zk5 | apply zk6 | apply zk7 | apply zk8 | apply zk9) <;> intro hc)
    | (refine callP0 rfl ?_)
    | (refine callD0 rfl ?_)
    | fail)
  · rw [ckWorks, if_pos (of_decide_eq_true hc)]
    exact ret_v
  have hl : l.length ≤ 200 := by have := of_decide_eq_false hc; omega
  rw [ckWorks, if_neg (of_decide_eq_false hc)]
  clear hc
  refine ax_loopU (S := Nat) 73 [0, 17, 18] [] (fun s => [(19, .f (.int .i64 s))]) (fun s => []) (fun s => s ≤ l.length ∧ ∀ m, m < s → wkErr l m = 0) (fun s => l.length - s) (0) [] ?_ ?_ fun s hs => ?_
  · exact ⟨Nat.zero_le _, fe_0⟩
  · refine wk_i ?_ ?_ <;> simp only [zw, Nat.reduceEqDiff, Nat.reduceBEq, Nat.reduceLT, Nat.reduceLeDiff, reduceIte, reduceCtorEq]
  obtain ⟨hi, hall⟩ := hs
  refine srun_sound 300 _ _ _ _ ?_
  rcases Nat.lt_or_ge s l.length with hlt | hge
  · obtain ⟨x, hx⟩ := get_some hlt
    have h4 := inc64 hlt hb1
    have hE := wkErr_of hx
    have h2 := lt_t hlt
    have h6 := dec64' hlt hb1
    obtain ⟨y, hy, hf⟩ := prev_of hx
    rw [hf] at hE
    clear hf
    have hW := checkWork_f x (hB.out x (List.mem_of_getElem? hx)).1 (hB.out x (List.mem_of_getElem? hx)).2
    generalize ckWork x = q at hE hW
    obtain ⟨xi, xn, xs, xa⟩ := x
    obtain ⟨yi, yn, ys, ya⟩ := y
    unfold leS at hE
    simp only at hE
    dsimp only [fWork, List.map_cons, List.map_nil] at hW
    by_cases hq : q = 0
    · subst hq
      have d0 : decide ((0 : Int) = 0) = true := rfl
      rw [if_neg (fun h => h rfl)] at hE
      repeat' (first
        | (simp -implicitDefEqProofs only [*, List.getElem?_map, Option.map_some, fWork, zr, Nat.reduceAdd, Nat.reduceSub, Nat.reduceMul, Nat.reduceLT, Nat.reduceLeDiff, Nat.reduceEqDiff, Nat.reduceBEq, reduceIte, reduceCtorEq, Int.reduceLE, Int.reduceLT, Int.reduceToNat, Int.reduceEq, Int.reduceNe])
        | ((first | apply zk0 | apply zk1 | apply zk2 | apply zk3 | apply zk4 | apply zk5 | apply zk6 | apply zk7 | apply zk8 | apply zk9) <;> intro hc)
        | (refine callP0 rfl ?_)
        | (refine callD0 rfl ?_)
        | (refine cP (hW) ?_)
        | (refine cD (hW) ?_)
        | (refine cF (hW) ?_)
        | fail)
      all_goals simp only [*, if_true, if_false, Bool.false_eq_true] at hE
      all_goals first
        | exact ret_ve (by rw [fe_hit hall hlt (by rw [hE]; decide), hE]; rfl)
        | (refine ⟨s + 1, ⟨hlt, fe_step hall hE⟩, by omega, ?_⟩; refine wk_i ?_ ?_ <;> simp only [zw, Nat.reduceEqDiff, Nat.reduceBEq, Nat.reduceLT, Nat.reduceLeDiff, reduceIte, reduceCtorEq])
    · rw [if_pos hq] at hE
      have d0 := dcF hq
      have hq2 := hide hq
      clear hq
      repeat' (first
        | (simp -implicitDefEqProofs only [*, List.getElem?_map, Option.map_some, fWork, zr, Nat.reduceAdd, Nat.reduceSub, Nat.reduceMul, Nat.reduceLT, Nat.reduceLeDiff, Nat.reduceEqDiff, Nat.reduceBEq, reduceIte, reduceCtorEq, Int.reduceLE, Int.reduceLT, Int.reduceToNat, Int.reduceEq, Int.reduceNe])
        | ((first | apply zk0 | apply zk1 | apply zk2 | apply zk3 | apply zk4 | apply zk5 | apply zk6 | apply zk7 | apply zk8 | apply zk9) <;> intro hc)
        | (refine callP0 rfl ?_)
        | (refine callD0 rfl ?_)
        | (refine cP (hW) ?_)
        | (refine cD (hW) ?_)
        | (refine cF (hW) ?_)
        | fail)
      exact ret_ve (by rw [fe_hit hall hlt (by rw [hE]; exact hq2.out), hE, if_pos hq2.out])
  obtain rfl : s = l.length := by omega
  have h2 := lt_f hge
  have hF : firstErr (wkErr l) 0 l.length = 0 := fe_none hall
  rw [hF, if_neg (fun h => h rfl)]
  have hr := works_rising hall
  have hok := works_ok hall
  have hR := hide hr
  have hOK := hide hok
  clear hall hF hr hok hge hi
  repeat' (first
    | (simp -implicitDefEqProofs only [*, List.length_map, zr, Nat.reduceAdd, Nat.reduceSub, Nat.reduceMul, Nat.reduceLT, Nat.reduceLeDiff, Nat.reduceEqDiff, Nat.reduceBEq, reduceIte, reduceCtorEq, Int.reduceLE, Int.reduceLT, Int.reduceToNat, Int.reduceEq, Int.reduceNe])
    | ((first | apply zk0 | apply zk1 | apply zk2 | apply zk3 | apply zk4 | apply zk5 | apply zk6 | apply zk7 | apply zk8 | apply zk9) <;> intro hc)
    | (refine callP0 rfl ?_)
    | (refine callD0 rfl ?_)
    | fail)
  clear h2
  refine ax_loopU (S := Nat) 73 [0, 43, 44] [] (fun s => [(45, .f (.int .i64 s))]) (fun s => []) (fun s => s ≤ l.length ∧ ∀ (m : Nat) x, m < s → l[m]? = some x → x.2.2.2.all (wHas l) = true) (fun s => l.length - s) (0) [] ?_ ?_ fun s hs => ?_
  · exact ⟨Nat.zero_le _, fun m x h => absurd h (by omega)⟩
  · refine wk_i ?_ ?_ <;> simp only [zw, Nat.reduceEqDiff, Nat.reduceBEq, Nat.reduceLT, Nat.reduceLeDiff, reduceIte, reduceCtorEq]
  obtain ⟨hi, hall⟩ := hs
  refine srun_sound 300 _ _ _ _ ?_
  have hA := hide hall
  clear hall
  rcases Nat.lt_or_ge s l.length with hlt | hge
  · obtain ⟨x, hx⟩ := get_some hlt
    have h4 := inc64 hlt hb1
    have h2 := lt_t hlt
    have hxb := (hB.out x (List.mem_of_getElem? hx)).2
    have hxm := List.mem_of_getElem? hx
    obtain ⟨xi, xn, xs, xa⟩ := x
    dsimp only at hxb
    repeat' (first
      | (simp -implicitDefEqProofs only [*, List.getElem?_map, Option.map_some, fWork, frStrs, zr, Nat.reduceAdd, Nat.reduceSub, Nat.reduceMul, Nat.reduceLT, Nat.reduceLeDiff, Nat.reduceEqDiff, Nat.reduceBEq, reduceIte, reduceCtorEq, Int.reduceLE, Int.reduceLT, Int.reduceToNat, Int.reduceEq, Int.reduceNe])
      | ((first | apply zk0 | apply zk1 | apply zk2 | apply zk3 | apply zk4 | apply zk5 | apply zk6 | apply zk7 | apply zk8 | apply zk9) <;> intro hc)
      | (refine callP0 rfl ?_)
      | (refine callD0 rfl ?_)
      | fail)
    obtain ⟨i, hi⟩ : ∃ i, i = s := ⟨s, rfl⟩
    subst hi
    refine ax_loopU (S := Nat) 73 [0, 43, 44, 45, 50, 51] [] (fun s => [(52, .f (.int .i64 s))]) (fun s => []) (fun s => s ≤ xa.length ∧ ∀ (m : Nat) d, m < s → xa[m]? = some d → wHas l d = true) (fun s => xa.length - s) (0) [] ?_ ?_ fun s hs => ?_
    · exact ⟨Nat.zero_le _, fun m x h => absurd h (by omega)⟩
    · refine wk_i ?_ ?_ <;> simp only [zw, Nat.reduceEqDiff, Nat.reduceBEq, Nat.reduceLT, Nat.reduceLeDiff, reduceIte, reduceCtorEq]
    obtain ⟨hj, hall⟩ := hs
    refine srun_sound 300 _ _ _ _ ?_
    have hA2 := hide hall
    clear hall
    clear h2
    rcases Nat.lt_or_ge s xa.length with hlt2 | hge2
    · obtain ⟨d, hd⟩ := get_some hlt2
      have g4 := inc64 hlt2 hxb
      have g2 := lt_t hlt2
      have hW := workAt_f l d (by omega) hR.out
      cases hh : wHas l d
      · have hno : aftOk l = false := by
          cases e : aftOk l
          · rfl
          · have := List.all_eq_true.1 (List.all_eq_true.1 e _ hxm) d (List.mem_of_getElem? hd)
            rw [hh] at this; cases this
        rw [hh] at hW
        generalize wIdx l d = k at hW
        rw [hno, if_neg (by decide)]
        replace hno := hide hno
        repeat' (first
          | (simp -implicitDefEqProofs only [*, List.getElem?_map, Option.map_some, zr, Nat.reduceAdd, Nat.reduceSub, Nat.reduceMul, Nat.reduceLT, Nat.reduceLeDiff, Nat.reduceEqDiff, Nat.reduceBEq, reduceIte, reduceCtorEq, Int.reduceLE, Int.reduceLT, Int.reduceToNat, Int.reduceEq, Int.reduceNe])
          | ((first | apply zk0 | apply zk1 | apply zk2 | apply zk3 | apply zk4 | apply zk5 | apply zk6 | apply zk7 | apply zk8 | apply zk9) <;> intro hc)
          | (refine callP0 rfl ?_)
          | (refine callD0 rfl ?_)
          | (refine cP (hW) ?_)
          | (refine cD (hW) ?_)
          | (refine cF (hW) ?_)
          | fail)
        exact ret_v
      · rw [hh] at hW
        generalize wIdx l d = k at hW
        repeat' (first
          | (simp -implicitDefEqProofs only [*, List.getElem?_map, Option.map_some, zr, Nat.reduceAdd, Nat.reduceSub, Nat.reduceMul, Nat.reduceLT, Nat.reduceLeDiff, Nat.reduceEqDiff, Nat.reduceBEq, reduceIte, reduceCtorEq, Int.reduceLE, Int.reduceLT, Int.reduceToNat, Int.reduceEq, Int.reduceNe])
          | ((first | apply zk0 | apply zk1 | apply zk2 | apply zk3 | apply zk4 | apply zk5 | apply zk6 | apply zk7 | apply zk8 | apply zk9) <;> intro hc)
          | (refine callP0 rfl ?_)
          | (refine callD0 rfl ?_)
          | (refine cP (hW) ?_)
          | (refine cD (hW) ?_)
          | (refine cF (hW) ?_)
          | fail)
        refine ⟨s + 1, ⟨hlt2, fun m e hm he => ?_⟩, by omega, ?_⟩
        · rcases Nat.lt_succ_iff_lt_or_eq.1 hm with h1 | rfl
          · exact hA2.out m e h1 he
          · rw [hd] at he; obtain rfl := Option.some.inj he; exact hh
        · refine wk_i ?_ ?_ <;> simp only [zw, Nat.reduceEqDiff, Nat.reduceBEq, Nat.reduceLT, Nat.reduceLeDiff, reduceIte, reduceCtorEq]
    · obtain rfl : s = xa.length := by omega
      have g2 := lt_f hge2
      repeat' (first
        | (simp -implicitDefEqProofs only [*, List.length_map, zr, Nat.reduceAdd, Nat.reduceSub, Nat.reduceMul, Nat.reduceLT, Nat.reduceLeDiff, Nat.reduceEqDiff, Nat.reduceBEq, reduceIte, reduceCtorEq, Int.reduceLE, Int.reduceLT, Int.reduceToNat, Int.reduceEq, Int.reduceNe])
        | ((first | apply zk0 | apply zk1 | apply zk2 | apply zk3 | apply zk4 | apply zk5 | apply zk6 | apply zk7 | apply zk8 | apply zk9) <;> intro hc)
        | (refine callP0 rfl ?_)
        | (refine callD0 rfl ?_)
        | fail)
      refine ⟨i + 1, ⟨hlt, fun m e hm he => ?_⟩, by omega, ?_⟩
      · rcases Nat.lt_succ_iff_lt_or_eq.1 hm with h1 | rfl
        · exact hA.out m e h1 he
        · rw [hx] at he; obtain rfl := Option.some.inj he
          rw [List.all_eq_true]
          intro d hd
          obtain ⟨k, hk⟩ := List.mem_iff_getElem?.1 hd
          exact hA2.out k d (List.getElem?_eq_some_iff.1 hk).1 hk
      · refine wk_i ?_ ?_ <;> simp only [zw, Nat.reduceEqDiff, Nat.reduceBEq, Nat.reduceLT, Nat.reduceLeDiff, reduceIte, reduceCtorEq]
  obtain rfl : s = l.length := by omega
  have h2 := lt_f hge
  have hao : aftOk l = true := by
    unfold aftOk
    rw [List.all_eq_true]
    intro x hx
    obtain ⟨k, hk⟩ := List.mem_iff_getElem?.1 hx
    exact hA.out k x (List.getElem?_eq_some_iff.1 hk).1 hk
  have hO := ordered_f l hl hR.out hao fun x hx => by
    have := aft_len hR.out (aft_words (ckWork_parts (hOK.out x hx)).2.2).2 (fun d hd => List.all_eq_true.1 (List.all_eq_true.1 hao x hx) d hd)
    omega
  rw [hao, if_pos rfl]
  clear hao hA hOK hR hB hge hi
  generalize ordWV l = o at hO ⊢
  replace hO := hide hO
  by_cases ho : o.length = l.length
  · rw [if_pos ho]
    have d1 : decide ((o.length : Int) = (l.length : Int)) = true := dcT (by omega)
    replace ho := hide ho
    repeat' (first
      | (simp -implicitDefEqProofs only [*, List.length_map, zr, Nat.reduceAdd, Nat.reduceSub, Nat.reduceMul, Nat.reduceLT, Nat.reduceLeDiff, Nat.reduceEqDiff, Nat.reduceBEq, reduceIte, reduceCtorEq, Int.reduceLE, Int.reduceLT, Int.reduceToNat, Int.reduceEq, Int.reduceNe])
      | ((first | apply zk0 | apply zk1 | apply zk2 | apply zk3 | apply zk4 | apply zk5 | apply zk6 | apply zk7 | apply zk8 | apply zk9) <;> intro hc)
      | (refine callP0 rfl ?_)
      | (refine callD0 rfl ?_)
      | (refine cP (hO.out) ?_)
      | (refine cD (hO.out) ?_)
      | (refine cF (hO.out) ?_)
      | fail)
    exact ret_v
  · rw [if_neg ho]
    have d1 : decide ((o.length : Int) = (l.length : Int)) = false := dcF (by omega)
    replace ho := hide ho
    repeat' (first
      | (simp -implicitDefEqProofs only [*, List.length_map, zr, Nat.reduceAdd, Nat.reduceSub, Nat.reduceMul, Nat.reduceLT, Nat.reduceLeDiff, Nat.reduceEqDiff, Nat.reduceBEq, reduceIte, reduceCtorEq, Int.reduceLE, Int.reduceLT, Int.reduceToNat, Int.reduceEq, Int.reduceNe])
      | ((first | apply zk0 | apply zk1 | apply zk2 | apply zk3 | apply zk4 | apply zk5 | apply zk6 | apply zk7 | apply zk8 | apply zk9) <;> intro hc)
      | (refine callP0 rfl ?_)
      | (refine callD0 rfl ?_)
      | (refine cP (hO.out) ?_)
      | (refine cD (hO.out) ?_)
      | (refine cF (hO.out) ?_)
      | fail)
    exact ret_v
end Go.Proofs.YtbnmclcoekehbaaDoor
