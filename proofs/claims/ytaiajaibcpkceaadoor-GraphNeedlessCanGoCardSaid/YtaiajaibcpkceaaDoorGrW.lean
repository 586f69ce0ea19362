/-
  Graphs on the machine: Loop. No statement of the seat is proved here; no conditions.
-/
import Derived.Test.YtaiajaibcpkceaaDoorGrV
import Derived.Test.YtaiajaibcpkceaaDoorGrP
namespace Go.Proofs.YtaiajaibcpkceaaDoor
open Go.RowKit Go.Shelf
set_option linter.unusedVariables false
set_option linter.unusedSimpArgs false
set_option maxRecDepth 100000

theorem net_mutual {g : Graph} (h : GOk g) : Mutual g.length (allDeps g) (usersOf g) := fun u x hu hx hm => by
  have h1 := usTo_count (D := allDeps g) (x := x) hu g.length
  rw [if_pos hx] at h1
  have h2 : 0 < ((usersOf g).getD u []).count x := List.count_pos_iff.2 hm
  rw [usersOf, h1] at h2
  exact List.count_pos_iff.1 h2
theorem rowD_lt {n : Nat} {D U : List (List Nat)} (hN : NetOk n D U) (a : Nat) : ∀ k ∈ D.getD a [], k < n := fun k hk => by
  rw [List.getD_eq_getElem?_getD] at hk
  cases e : D[a]? with
  | none => rw [e] at hk; cases hk
  | some r => rw [e] at hk; exact (hN.dr r (List.mem_of_getElem? e)).2 k hk
theorem rowU_lt {n : Nat} {D U : List (List Nat)} (hN : NetOk n D U) (a : Nat) : ∀ k ∈ U.getD a [], k < n := fun k hk => by
  rw [List.getD_eq_getElem?_getD] at hk
  cases e : U[a]? with
  | none => rw [e] at hk; cases hk
  | some r => rw [e] at hk; exact (hN.ur r (List.mem_of_getElem? e)).2 k hk
theorem next_lt {n : Nat} {F : List Int} {row : List Nat} {a : Nat} (ha : a < n) (h : ∀ k ∈ row, k < n) : nextV F row a < n := by
  unfold nextV
  cases e : row.find? fun k => isNext F a k with
  | none => exact ha
  | some k => exact h k (List.mem_of_find?_eq_some e)
theorem wayGo_lt {n : Nat} {D U : List (List Nat)} {F : List Int} (hN : NetOk n D U) : ∀ (m a : Nat), a < n → (wayGo D F m a).length = m ∧ ∀ k ∈ wayGo D F m a, k < n
  | 0, a, _ => ⟨rfl, fun k hk => by cases hk⟩
  | m + 1, a, ha => by
    have h1 := next_lt (F := F) ha (rowD_lt hN a)
    obtain ⟨h2, h3⟩ := wayGo_lt (F := F) hN m _ h1
    refine ⟨by rw [wayGo, List.length_cons, h2], fun k hk => ?_⟩
    rw [wayGo] at hk
    rcases List.mem_cons.1 hk with rfl | hk
    · exact h1
    · exact h3 k hk
theorem loopV_ok {n : Nat} {D U : List (List Nat)} (hN : NetOk n D U) {l : List Nat} (h : loopV D U n = some l) : l.length ≤ 1002 ∧ ∀ k ∈ l, k < n := by
  obtain ⟨i, hi, hl⟩ := List.exists_of_findSome?_eq_some h
  rw [List.mem_range] at hi
  unfold loopAt at hl
  obtain ⟨c, hc, rfl⟩ := Option.map_eq_some_iff.1 hl
  have hc1 := (best_ok (n := n) (rowD_lt hN i) (fun c h => by cases h) c hc).1
  have hsp := steps_spec (E := U) (from_ := [i]) (rowU_lt hN) (fun k hk => by rw [List.mem_singleton.1 hk]; exact hi)
  have hlo := (hsp.lo c hc1).2
  obtain ⟨h2, h3⟩ := wayGo_lt (F := stepsV U n [i]) hN ((stepsV U n [i]).getD c 0).toNat c hc1
  have hnl := hN.nl
  refine ⟨?_, fun k hk => ?_⟩
  · rw [List.length_dropLast, List.length_cons, wayV, List.length_cons, h2]; omega
  · rw [List.dropLast_eq_take] at hk
    rcases List.mem_cons.1 (List.mem_of_mem_take hk) with rfl | hk
    · exact hi
    · rcases List.mem_cons.1 hk with rfl | hk
      · exact hc1
      · exact h3 k hk
def loopOf (g : Graph) : Option (List Nat) := loopV (allDeps g) (usersOf g) g.length
theorem Loop_f (g : Graph) (hb : GBound g) : FRet Tryd.prog 14 [.f (frNodes g)] [.c (.v (if opErr g = 0 then frStrs (((loopOf g).getD []).map (labN g)) else .nil)), .c (.v (.bool (if opErr g = 0 then decide (0 < ((loopOf g).getD []).length) else false))), .c (.v (.int .i64 (opErr g)))] := by
  have hO := open_f g hb
  refine FCall.of_ax low_graph_Loop ?_
  dsimp only [l_graph_Loop]
  refine srun_sound 300 _ _ _ _ ?_
  by_cases h0 : opErr g = 0
  · have hG := gok_of h0
    have hN := net_ok hG
    have hL := loop_f g _ _ hN (net_mutual hG)
    rw [h0, if_pos rfl] at hO
    rw [h0, if_pos rfl, if_pos rfl]
    change FRet Tryd.prog 31 [.f (netOf g)] [.c (.v (ordR (loopOf g)))] at hL
    cases hl : loopOf g with
    | none =>
      rw [hl] at hL
      have hB := labels_f g (allDeps g) (usersOf g) [] (by simp) (fun i hi => by cases hi)
      change FRet Tryd.prog _ [.f (netOf g), _] _ at hB
      dsimp only [ordR, Option.getD_none] at hL ⊢
      have d1 : decide ((0 : Int) < ((0 : Nat) : Int)) = false := rfl
      repeat' (first
        | (simp -implicitDefEqProofs only [*, zr, Nat.reduceAdd, Nat.reduceSub, Nat.reduceMul, Nat.reduceLT, Nat.reduceLeDiff, Nat.reduceEqDiff, Nat.reduceBEq, reduceIte, reduceCtorEq, Int.reduceLE, Int.reduceLT, Int.reduceToNat, Int.reduceEq, Int.reduceNe])
        | ((first | apply condS_splitN | apply condS_split | apply guardS_splitTN | apply guardS_splitFN | apply guardD_splitTN | apply guardD_splitFN | apply guardS_splitT | apply guardS_splitF | apply guardD_splitT | apply guardD_splitF) <;> intro hc)
        | (refine callP0 rfl ?_)
        | (refine callD0 rfl ?_)
        | (refine cP (hO) ?_)
        | (refine cD (hO) ?_)
        | (refine cF (hO) ?_)
        | (refine cP (hL) ?_)
        | (refine cD (hL) ?_)
        | (refine cF (hL) ?_)
        | (refine cP (hB) ?_)
        | (refine cD (hB) ?_)
        | (refine cF (hB) ?_)
        | fail)
      exact ret_vvve rfl rfl rfl
    | some l =>
      rw [hl] at hL
      obtain ⟨h1, h2⟩ := loopV_ok hN hl
      have hB := labels_f g (allDeps g) (usersOf g) l (by omega) h2
      change FRet Tryd.prog _ [.f (netOf g), _] _ at hB
      dsimp only [ordR, Option.getD_some] at hL ⊢
      replace h2 := hide h2
      have d1 : decide ((0 : Int) < (l.length : Int)) = decide (0 < l.length) := by simp
      repeat' (first
        | (simp -implicitDefEqProofs only [*, frN, zr, Nat.reduceAdd, Nat.reduceSub, Nat.reduceMul, Nat.reduceLT, Nat.reduceLeDiff, Nat.reduceEqDiff, Nat.reduceBEq, reduceIte, reduceCtorEq, Int.reduceLE, Int.reduceLT, Int.reduceToNat, Int.reduceEq, Int.reduceNe])
        | ((first | apply condS_splitN | apply condS_split | apply guardS_splitTN | apply guardS_splitFN | apply guardD_splitTN | apply guardD_splitFN | apply guardS_splitT | apply guardS_splitF | apply guardD_splitT | apply guardD_splitF) <;> intro hc)
        | (refine callP0 rfl ?_)
        | (refine callD0 rfl ?_)
        | (refine cP (hO) ?_)
        | (refine cD (hO) ?_)
        | (refine cF (hO) ?_)
        | (refine cP (hL) ?_)
        | (refine cD (hL) ?_)
        | (refine cF (hL) ?_)
        | (refine cP (hB) ?_)
        | (refine cD (hB) ?_)
        | (refine cF (hB) ?_)
        | fail)
      exact ret_vvve rfl rfl rfl
  · rw [if_neg h0] at hO
    rw [if_neg h0, if_neg h0]
    have hd := dec_f h0
    generalize opErr g = e at *
    repeat' (first
      | (simp -implicitDefEqProofs only [*, zr, Nat.reduceAdd, Nat.reduceSub, Nat.reduceMul, Nat.reduceLT, Nat.reduceLeDiff, Nat.reduceEqDiff, Nat.reduceBEq, reduceIte, reduceCtorEq, Int.reduceLE, Int.reduceLT, Int.reduceToNat, Int.reduceEq, Int.reduceNe])
      | ((first | apply condS_splitN | apply condS_split | apply guardS_splitTN | apply guardS_splitFN | apply guardD_splitTN | apply guardD_splitFN | apply guardS_splitT | apply guardS_splitF | apply guardD_splitT | apply guardD_splitF) <;> intro hc)
      | (refine callP0 rfl ?_)
      | (refine callD0 rfl ?_)
      | (refine cP (hO) ?_)
      | (refine cD (hO) ?_)
      | (refine cF (hO) ?_)
      | fail)
    exact ret_vvve rfl rfl rfl
end Go.Proofs.YtaiajaibcpkceaaDoor
