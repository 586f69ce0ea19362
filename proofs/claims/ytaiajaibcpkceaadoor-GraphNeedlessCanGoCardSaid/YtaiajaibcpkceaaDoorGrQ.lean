/-
  Graphs on the machine: why, between; the law NeedsTurn (calls freeze by so_one). No statement of the seat is proved here; no conditions.
-/
import Derived.Test.YtaiajaibcpkceaaDoorGrZ
import Derived.Test.YtaiajaibcpkceaaDoorGrT
import Derived.Test.YtaiajaibcpkceaaDoorLowB
import Derived.Test.YtaiajaibcpkceaaDoorGrL
namespace Go.Proofs.YtaiajaibcpkceaaDoor
open Go.RowKit Go.Shelf
set_option linter.unusedVariables false
set_option linter.unusedSimpArgs false
set_option maxRecDepth 100000

def numErr (g : Graph) (l : List ByteArray) : Int := if 1000 < l.length then 2 else if l.all (nHas g) = true then 0 else 9
def numsV (g : Graph) (l : List ByteArray) : List Nat := l.map (nIdx g)
theorem numbers_f (g : Graph) (D U : List (List Nat)) (hl : g.length ≤ 1000) (hr : Rising (fun b : Node => b.1) g) (l : List ByteArray) (hll : (l.length : Int) ≤ 9223372036854775807) : FRet Tryd.prog 52 [.f (fNet g D U), .f (frStrs l)] [.c (.v (if numErr g l = 0 then frN (numsV g l) else .nil)), .c (.v (.int .i64 (numErr g l)))] := by
  have hAt := fun t => at_f g t (by omega) hr
  refine FCall.of_ax low_graph_net_numbers ?_
  dsimp only [l_graph_net_numbers, fNet, frStrs]
  refine srun_sound 300 _ _ _ _ ?_
  replace hr := hide hr
  replace hAt := hide hAt
  by_cases h1 : 1000 < l.length
  · have e : numErr g l = 2 := by unfold numErr; rw [if_pos h1]
    rw [e, if_neg (by decide)]
    have d1 : decide ((1000 : Int) < (l.length : Int)) = true := dec_t (by omega)
    repeat' (first
      | (simp -implicitDefEqProofs only [*, zr, Nat.reduceAdd, Nat.reduceSub, Nat.reduceMul, Nat.reduceLT, Nat.reduceLeDiff, Nat.reduceEqDiff, Nat.reduceBEq, reduceIte, reduceCtorEq, Int.reduceLE, Int.reduceLT, Int.reduceToNat, Int.reduceEq, Int.reduceNe])
      | ((first | apply condS_splitN | apply condS_split | apply guardS_splitTN | apply guardS_splitFN | apply guardD_splitTN | apply guardD_splitFN | apply guardS_splitT | apply guardS_splitF | apply guardD_splitT | apply guardD_splitF) <;> intro hc)
      | (refine callP0 rfl ?_)
      | (refine callD0 rfl ?_)
      | fail)
    exact ret_vve rfl rfl
  · have e : numErr g l = if l.all (nHas g) = true then 0 else 9 := by unfold numErr; rw [if_neg h1]
    have d1 : decide ((1000 : Int) < (l.length : Int)) = false := dec_f (by omega)
    replace e := hide e
    repeat' (first
      | (simp -implicitDefEqProofs only [*, zr, Nat.reduceAdd, Nat.reduceSub, Nat.reduceMul, Nat.reduceLT, Nat.reduceLeDiff, Nat.reduceEqDiff, Nat.reduceBEq, reduceIte, reduceCtorEq, Int.reduceLE, Int.reduceLT, Int.reduceToNat, Int.reduceEq, Int.reduceNe])
      | ((first | apply condS_splitN | apply condS_split | apply guardS_splitTN | apply guardS_splitFN | apply guardD_splitTN | apply guardD_splitFN | apply guardS_splitT | apply guardS_splitF | apply guardD_splitT | apply guardD_splitF) <;> intro hc)
      | (refine callP0 rfl ?_)
      | (refine callD0 rfl ?_)
      | fail)
    refine ax_loopU (S := Nat) 33 [0, 13, 14] [] (fun s => [(6, .sl 30 1 1 0 s), (15, .f (.int .i64 s))]) (fun s => [(30, 1, .cells ((((l.take s).map (nIdx g)).map fN).map .f))]) (fun s => s ≤ l.length ∧ ∀ (m : Nat) x, m < s → l[m]? = some x → nHas g x = true) (fun s => l.length - s) (0) [30] ?_ ?_ fun s hs => ?_
    · exact ⟨Nat.zero_le _, fun m x h => absurd h (Nat.not_lt_zero _)⟩
    · refine ⟨rfl, (by first | exact small_0 | exact small_mk rfl | (repeat (first | exact small_0 | exact small_mk rfl | refine small_upd rfl ?_ | refine small_sw rfl rfl ?_))), rfl, rfl, (by rfl), ?_, ?_⟩ <;> simp only [List.take_zero, zw, swN, ElOk, HlOk, Nat.reduceEqDiff, Nat.reduceBEq, Nat.reduceLT, Nat.reduceLeDiff, reduceIte, reduceCtorEq, H0, AObj.cells.injEq]
    obtain ⟨hi, hall⟩ := hs
    rcases Nat.lt_or_ge s l.length with hlt | hge
    · refine srun_sound 300 _ _ _ _ ?_
      obtain ⟨x, hx⟩ := get_some hlt
      have h4 := inc64 hlt (by omega)
      have h2 := lt_t hlt
      have hk8 := nle_t (show (s + 1) * 8 ≤ 140737488355328 by omega)
      have hA := hAt.out x
      have hst : (((l.take s).map (nIdx g)).map fN).map AV.f ++ [.f (.int .i64 (nIdx g x))] = (((l.take (s + 1)).map (nIdx g)).map fN).map AV.f := by
        rw [List.take_add_one, hx]; simp [fN]
      have hlen : ((l.take s).map (nIdx g)).length = s := by rw [List.length_map, List.length_take]; omega
      unfold atV at hA
      cases hc : nHas g x
      · rw [hc, if_neg (by decide)] at hA
        have e9 : numErr g l = 9 := by
          rw [e.out, if_neg]
          intro h
          rw [List.all_eq_true] at h
          rw [h x (List.mem_of_getElem? hx)] at hc; cases hc
        rw [e9, if_neg (by decide)]
        replace hall := hide hall
        have d3 : decide ((-1 : Int) < 0) = true := rfl
        repeat' (first
          | (simp -implicitDefEqProofs only [*, List.getElem?_map, Option.map_some, zr, Nat.reduceAdd, Nat.reduceSub, Nat.reduceMul, Nat.reduceLT, Nat.reduceLeDiff, Nat.reduceEqDiff, Nat.reduceBEq, reduceIte, reduceCtorEq, Int.reduceLE, Int.reduceLT, Int.reduceToNat, Int.reduceEq, Int.reduceNe])
          | ((first | apply condS_splitN | apply condS_split | apply guardS_splitTN | apply guardS_splitFN | apply guardD_splitTN | apply guardD_splitFN | apply guardS_splitT | apply guardS_splitF | apply guardD_splitT | apply guardD_splitF) <;> intro hc)
          | (refine callP0 rfl ?_)
          | (refine callD0 rfl ?_)
          | (refine cP (hA) ?_)
          | (refine cD (hA) ?_)
          | (refine cF (hA) ?_)
          | fail)
        exact ret_vve rfl rfl
      · rw [hc, if_pos rfl] at hA
        have hst2 : ∀ (m : Nat) y, m < s + 1 → l[m]? = some y → nHas g y = true := fun m y hm hy => by
          rcases Nat.lt_or_ge m s with h3 | h3
          · exact hall m y h3 hy
          · obtain rfl : m = s := by omega
            rw [hx] at hy; obtain rfl := Option.some.inj hy; exact hc
        replace hst2 := hide hst2
        replace hall := hide hall
        have d3 : decide ((nIdx g x : Int) < 0) = false := dec_f (by omega)
        repeat' (first
          | (simp -implicitDefEqProofs only [*, List.getElem?_map, Option.map_some, zr, Nat.reduceAdd, Nat.reduceSub, Nat.reduceMul, Nat.reduceLT, Nat.reduceLeDiff, Nat.reduceEqDiff, Nat.reduceBEq, reduceIte, reduceCtorEq, Int.reduceLE, Int.reduceLT, Int.reduceToNat, Int.reduceEq, Int.reduceNe])
          | ((first | apply condS_splitN | apply condS_split | apply guardS_splitTN | apply guardS_splitFN | apply guardD_splitTN | apply guardD_splitFN | apply guardS_splitT | apply guardS_splitF | apply guardD_splitT | apply guardD_splitF) <;> intro hc)
          | (refine callP0 rfl ?_)
          | (refine callD0 rfl ?_)
          | (refine cP (hA) ?_)
          | (refine cD (hA) ?_)
          | (refine cF (hA) ?_)
          | fail)
        refine ⟨s + 1, ⟨hlt, hst2.out⟩, by omega, ?_⟩
        refine ⟨rfl, (by first | exact small_0 | exact small_mk rfl | (repeat (first | exact small_0 | exact small_mk rfl | refine small_upd rfl ?_ | refine small_sw rfl rfl ?_))), rfl, rfl, (by rfl), ?_, ?_⟩ <;> simp only [hst, zw, swN, ElOk, HlOk, Nat.reduceEqDiff, Nat.reduceBEq, Nat.reduceLT, Nat.reduceLeDiff, reduceIte, reduceCtorEq, H0, AObj.cells.injEq]
    obtain rfl : s = l.length := by omega
    have h2 := lt_f hge
    have e0 : numErr g l = 0 := by
      rw [e.out, if_pos]
      rw [List.all_eq_true]
      intro x hx
      obtain ⟨m, hm⟩ := List.mem_iff_getElem?.1 hx
      exact hall m x (List.getElem?_eq_some_iff.1 hm).1 hm
    rw [e0, if_pos rfl, List.take_length]
    refine ax_weak (nw := []) (n := 33) (el := [(6, .f (frN (numsV g l))), (14, .f (.int .i64 l.length)), (15, .f (.int .i64 l.length))]) (hl := []) ?_ ?_
    · refine ⟨rfl, small_mk rfl, rfl, rfl, rfl, ⟨by decide, ?_, by decide, .inl rfl, by decide, .inl rfl, trivial⟩, trivial⟩
      rw [frN_eq]
      exact so_cells1 (l := (l.map (nIdx g)).map fN) rfl rfl (by rw [List.length_map, List.length_map])
    refine srun_sound 300 _ _ _ _ ?_
    repeat' (first
      | (simp -implicitDefEqProofs only [*, frN, zr, Nat.reduceAdd, Nat.reduceSub, Nat.reduceMul, Nat.reduceLT, Nat.reduceLeDiff, Nat.reduceEqDiff, Nat.reduceBEq, reduceIte, reduceCtorEq, Int.reduceLE, Int.reduceLT, Int.reduceToNat, Int.reduceEq, Int.reduceNe])
      | ((first | apply condS_splitN | apply condS_split | apply guardS_splitTN | apply guardS_splitFN | apply guardD_splitTN | apply guardD_splitFN | apply guardS_splitT | apply guardS_splitF | apply guardD_splitT | apply guardD_splitF) <;> intro hc)
      | (refine callP0 rfl ?_)
      | (refine callD0 rfl ?_)
      | fail)
    exact ret_vve rfl rfl
def inM (F : List Int) (most : Int) (i : Nat) : Bool := decide (0 ≤ F.getD i 0) && (decide (most < 0) || decide (F.getD i 0 ≤ most))
def withinV (E : List (List Nat)) (n : Nat) (from_ : List Nat) (most : Int) : List Nat := (List.range n).filter (inM (stepsV E n from_) most)
theorem within_f (E : List (List Nat)) (from_ : List Nat) (n : Nat) (most : Int) (hE : E.length = n) (hn : n ≤ 1000) (hEr : ∀ r ∈ E, r.length ≤ 300000 ∧ ∀ k ∈ r, k < n) (hf : ∀ k ∈ from_, k < n) (hfl : from_.length ≤ 1000000) :
    FRet Tryd.prog 35 [.f (frRows E), .f (frN from_), .f (.int .i64 most)] [.c (.v (frN (withinV E n from_ most)))] := by
  have hSt := steps_f E from_ n hE hn hEr hf hfl
  have hsl : (stepsV E n from_).length = n := (steps_spec (fun i k hk => by
      rw [List.getD_eq_getElem?_getD] at hk
      cases e : E[i]? with
      | none => rw [e] at hk; cases hk
      | some r => rw [e] at hk; exact (hEr r (List.mem_of_getElem? e)).2 k hk) hf).len
  unfold withinV
  generalize stepsV E n from_ = F at *
  refine FCall.of_ax low_graph_within ?_
  dsimp only [l_graph_within]
  refine srun_sound 300 _ _ _ _ ?_
  replace hEr := hide hEr
  replace hf := hide hf
  repeat' (first
    | (simp -implicitDefEqProofs only [*, frI, zr, Nat.reduceAdd, Nat.reduceSub, Nat.reduceMul, Nat.reduceLT, Nat.reduceLeDiff, Nat.reduceEqDiff, Nat.reduceBEq, reduceIte, reduceCtorEq, Int.reduceLE, Int.reduceLT, Int.reduceToNat, Int.reduceEq, Int.reduceNe])
    | ((first | apply condS_splitN | apply condS_split | apply guardS_splitTN | apply guardS_splitFN | apply guardD_splitTN | apply guardD_splitFN | apply guardS_splitT | apply guardS_splitF | apply guardD_splitT | apply guardD_splitF) <;> intro hc)
    | (refine callP0 rfl ?_)
    | (refine callD0 rfl ?_)
    | (refine cP (hSt) ?_)
    | (refine cD (hSt) ?_)
    | (refine cF (hSt) ?_)
    | fail)
  have hlim : ∀ s, s ≤ n → ((List.range s).filter (inM F most)).length ≤ s := fun s hs => by
    have := List.length_filter_le (inM F most) (List.range s)
    rwa [List.length_range] at this
  refine ax_loopU (S := Nat) 36 [2, 12, 13] [] (fun s => [(7, .sl 33 1 1 0 ((List.range s).filter (inM F most)).length), (14, .f (.int .i64 s))]) (fun s => [(33, 1, .cells ((((List.range s).filter (inM F most)).map fN).map .f))]) (fun s => s ≤ n) (fun s => n - s) (0) [33] ?_ ?_ fun s hs => ?_
  · exact Nat.zero_le _
  · refine ⟨rfl, (by first | exact small_0 | exact small_mk rfl | (repeat (first | exact small_0 | exact small_mk rfl | refine small_upd rfl ?_ | refine small_sw rfl rfl ?_))), rfl, rfl, (by rfl), ?_, ?_⟩ <;> simp only [List.range_zero, List.filter_nil, zw, swN, ElOk, HlOk, Nat.reduceEqDiff, Nat.reduceBEq, Nat.reduceLT, Nat.reduceLeDiff, reduceIte, reduceCtorEq, H0, AObj.cells.injEq]
  rcases Nat.lt_or_ge s n with hlt | hge
  · refine srun_sound 300 _ _ _ _ ?_
    obtain ⟨z, hz⟩ := get_some (l := F) (i := s) (by omega)
    have h4 := inc64 hlt (by omega)
    have h2 := lt_t hlt
    have hfz : fI z = FV.int .i64 z := rfl
    have hL := hlim s hs
    have hnx : (List.range (s + 1)).filter (inM F most) = (List.range s).filter (inM F most) ++ (if inM F most s = true then [s] else []) := by
      rw [List.range_succ, List.filter_append, List.filter_cons, List.filter_nil]
    have hin : inM F most s = (decide (0 ≤ z) && (decide (most < 0) || decide (z ≤ most))) := by unfold inM; rw [getD_some hz]
    have hst : (((List.range s).filter (inM F most)).map fN).map AV.f ++ [.f (.int .i64 s)] = ((((List.range s).filter (inM F most)) ++ [s]).map fN).map AV.f := by simp [fN]
    have hlen : (((List.range s).filter (inM F most)) ++ [s]).length = ((List.range s).filter (inM F most)).length + 1 := by simp
    replace hlim := hide hlim
    generalize (List.range s).filter (inM F most) = L at *
    have hk8 := nle_t (show (L.length + 1) * 8 ≤ 140737488355328 by omega)
    cases q1 : decide (0 ≤ z) <;> cases q2 : decide (most < 0) <;> cases q3 : decide (z ≤ most)
    all_goals (
      rw [q1, q2, q3] at hin
      simp only [Bool.and_true, Bool.true_and, Bool.and_false, Bool.false_and, Bool.or_true, Bool.or_false] at hin
      rw [hin] at hnx
      replace hin := hide hin)
    all_goals (first | (rw [if_pos rfl] at hnx) | (rw [if_neg (by decide), List.append_nil] at hnx))
    all_goals replace hnx := hide hnx
    repeat' (first
      | (simp -implicitDefEqProofs only [*, List.getElem?_map, Option.map_some, zr, Nat.reduceAdd, Nat.reduceSub, Nat.reduceMul, Nat.reduceLT, Nat.reduceLeDiff, Nat.reduceEqDiff, Nat.reduceBEq, reduceIte, reduceCtorEq, Int.reduceLE, Int.reduceLT, Int.reduceToNat, Int.reduceEq, Int.reduceNe])
      | ((first | apply condS_splitN | apply condS_split | apply guardS_splitTN | apply guardS_splitFN | apply guardD_splitTN | apply guardD_splitFN | apply guardS_splitT | apply guardS_splitF | apply guardD_splitT | apply guardD_splitF) <;> intro hc)
      | (refine callP0 rfl ?_)
      | (refine callD0 rfl ?_)
      | fail)
    all_goals (refine ⟨s + 1, hlt, by omega, ?_⟩; rw [hnx.out])
    all_goals (try rw [hlen])
    all_goals refine ⟨rfl, (by first | exact small_0 | exact small_mk rfl | (repeat (first | exact small_0 | exact small_mk rfl | refine small_upd rfl ?_ | refine small_sw rfl rfl ?_))), rfl, rfl, (by rfl), ?_, ?_⟩ <;> simp only [hst, zw, swN, ElOk, HlOk, Nat.reduceEqDiff, Nat.reduceBEq, Nat.reduceLT, Nat.reduceLeDiff, reduceIte, reduceCtorEq, H0, AObj.cells.injEq]
  obtain rfl : s = n := by omega
  have h2 := lt_f hge
  refine ax_weak (nw := []) (n := 36) (el := [(7, .f (frN ((List.range s).filter (inM F most)))), (13, .f (.int .i64 s)), (14, .f (.int .i64 s))]) (hl := []) ?_ ?_
  · refine ⟨rfl, small_mk rfl, rfl, rfl, rfl, ⟨by decide, ?_, by decide, ?_, by decide, .inl rfl, trivial⟩, trivial⟩
    · have hso : ∀ L : List Nat, SlotOk (mkH [(33, 1, .cells ((L.map fN).map .f))]) (mkH []) [] (.sl 33 1 1 0 L.length) (.f (frN L)) := fun L => by
        rw [frN_eq]; exact so_cells1 (l := L.map fN) rfl rfl (List.length_map _)
      exact hso _
    · rw [← hsl]; exact .inl rfl
  refine srun_sound 300 _ _ _ _ ?_
  repeat' (first
    | (simp -implicitDefEqProofs only [*, frN, zr, Nat.reduceAdd, Nat.reduceSub, Nat.reduceMul, Nat.reduceLT, Nat.reduceLeDiff, Nat.reduceEqDiff, Nat.reduceBEq, reduceIte, reduceCtorEq, Int.reduceLE, Int.reduceLT, Int.reduceToNat, Int.reduceEq, Int.reduceNe])
    | ((first | apply condS_splitN | apply condS_split | apply guardS_splitTN | apply guardS_splitFN | apply guardD_splitTN | apply guardD_splitFN | apply guardS_splitT | apply guardS_splitF | apply guardD_splitT | apply guardD_splitF) <;> intro hc)
    | (refine callP0 rfl ?_)
    | (refine callD0 rfl ?_)
    | fail)
  exact ret_ve rfl
theorem within_lt {E : List (List Nat)} {n : Nat} {from_ : List Nat} {most : Int} : (withinV E n from_ most).length ≤ n ∧ ∀ k ∈ withinV E n from_ most, k < n := by
  refine ⟨?_, fun k hk => List.mem_range.1 (List.mem_filter.1 hk).1⟩
  have := List.length_filter_le (inM (stepsV E n from_) most) (List.range n)
  rwa [List.length_range] at this
theorem tree_ok {g : Graph} (h0 : treeErr g = 0) : GOk g ∧ ∃ l, orderOf g = some l := by
  have h1 : opErr g = 0 := by
    unfold treeErr at h0
    split at h0
    · rename_i h; exact absurd h0 h
    · rename_i h; simpa using h
  refine ⟨gok_of h1, ?_⟩
  unfold treeErr at h0
  rw [h1, if_neg (show ¬ ((0 : Int) ≠ 0) from fun h => h rfl)] at h0
  split at h0
  · rename_i h; exact Option.isSome_iff_exists.1 h
  · cases h0
theorem nums_ok {g : Graph} {l : List ByteArray} (hr : Rising (fun b : Node => b.1) g) (h : numErr g l = 0) : l.length ≤ 1000 ∧ ∀ k ∈ numsV g l, k < g.length := by
  unfold numErr at h
  split at h
  · cases h
  · split at h
    · rename_i h1 h2
      refine ⟨by omega, fun k hk => ?_⟩
      obtain ⟨t, ht, rfl⟩ := List.mem_map.1 hk
      exact nIdx_lt hr (List.all_eq_true.1 h2 t ht)
    · cases h
def reErr (g : Graph) (l : List ByteArray) (most : Int) : Int := if treeErr g ≠ 0 then treeErr g else if numErr g l ≠ 0 then numErr g l else if most < -1 ∨ 1000 < most then 1 else 0
def reV (g : Graph) (l : List ByteArray) (most : Int) (up : Bool) : List Nat := withinV (if up = true then usersOf g else allDeps g) g.length (numsV g l) most
theorem reached_f (g : Graph) (hb : GBound g) (l : List ByteArray) (hll : (l.length : Int) ≤ 9223372036854775807) (most : Int) (up : Bool) : FRet Tryd.prog 36 [.f (frNodes g), .f (frStrs l), .f (.int .i64 most), .f (.bool up)]
    [.c (.v (if reErr g l most = 0 then frStrs ((reV g l most up).map (labN g)) else .nil)), .c (.v (.int .i64 (reErr g l most)))] := by
  have hT := tree_f g hb
  refine FCall.of_ax low_graph_reached ?_
  dsimp only [l_graph_reached]
  refine srun_sound 300 _ _ _ _ ?_
  by_cases h0 : treeErr g = 0
  · obtain ⟨hG, o, ho⟩ := tree_ok h0
    have hN := net_ok hG
    have hNu := numbers_f g (allDeps g) (usersOf g) hG.len hG.rising l hll
    change FRet Tryd.prog _ [.f (netOf g), _] _ at hNu
    rw [h0, if_pos rfl, if_pos rfl, ho] at hT
    dsimp only [ordR] at hT
    have e0 : reErr g l most = if numErr g l ≠ 0 then numErr g l else if most < -1 ∨ 1000 < most then 1 else 0 := by unfold reErr; rw [if_neg (by rw [h0]; exact fun h => h rfl)]
    by_cases h1 : numErr g l = 0
    · rw [h1, if_pos rfl] at hNu
      obtain ⟨hl2, hnm⟩ := nums_ok hG.rising h1
      rw [if_neg (by rw [h1]; exact fun h => h rfl)] at e0
      have hW := fun E h1 h2 => within_f E (numsV g l) g.length most h1 hG.len h2 hnm (by unfold numsV; rw [List.length_map]; omega)
      have hW1 := hW (allDeps g) hN.dl (fun r hr => by have := hN.dr r hr; exact ⟨by omega, this.2⟩)
      have hW2 := hW (usersOf g) hN.ul hN.ur
      have hLb := fun (E : List (List Nat)) => labels_f g (allDeps g) (usersOf g) (withinV E g.length (numsV g l) most) (by have := within_lt (E := E) (n := g.length) (from_ := numsV g l) (most := most); have := hN.nl; omega) (within_lt).2
      have hL1 := hLb (allDeps g)
      have hL2 := hLb (usersOf g)
      change FRet Tryd.prog _ [.f (netOf g), _] _ at hL1
      change FRet Tryd.prog _ [.f (netOf g), _] _ at hL2
      clear hW hLb
      replace hN := hide hN
      replace hG := hide hG
      replace hnm := hide hnm
      replace ho := hide ho
      cases q1 : decide (most < -1)
      · cases q2 : decide (1000 < most)
        · rw [if_neg (by rw [decide_eq_false_iff_not] at q1 q2; omega)] at e0
          rw [e0, if_pos rfl]
          cases up
          · dsimp only [reV]
            rw [if_neg (by decide)]
            unfold netOf fNet at *
            change FRet Tryd.prog _ [.f (.fp [frNodes g, frRows (allDeps g), frRows (usersOf g)]), _] _ at hL1
            repeat' (first
              | (simp -implicitDefEqProofs only [*, zr, Nat.reduceAdd, Nat.reduceSub, Nat.reduceMul, Nat.reduceLT, Nat.reduceLeDiff, Nat.reduceEqDiff, Nat.reduceBEq, reduceIte, reduceCtorEq, Int.reduceLE, Int.reduceLT, Int.reduceToNat, Int.reduceEq, Int.reduceNe])
              | ((first | apply condS_splitN | apply condS_split | apply guardS_splitTN | apply guardS_splitFN | apply guardD_splitTN | apply guardD_splitFN | apply guardS_splitT | apply guardS_splitF | apply guardD_splitT | apply guardD_splitF) <;> intro hc)
              | (refine callP0 rfl ?_)
              | (refine callD0 rfl ?_)
              | (refine cP (hT) ?_)
              | (refine cD (hT) ?_)
              | (refine cF (hT) ?_)
              | (refine cP (hNu) ?_)
              | (refine cD (hNu) ?_)
              | (refine cF (hNu) ?_)
              | (refine cP (hW1) ?_)
              | (refine cD (hW1) ?_)
              | (refine cF (hW1) ?_)
              | (refine cP (hL1) ?_)
              | (refine cD (hL1) ?_)
              | (refine cF (hL1) ?_)
              | fail)
            exact ret_vve rfl rfl
          · dsimp only [reV]
            rw [if_pos rfl]
            unfold netOf fNet at *
            change FRet Tryd.prog _ [.f (.fp [frNodes g, frRows (allDeps g), frRows (usersOf g)]), _] _ at hL2
            repeat' (first
              | (simp -implicitDefEqProofs only [*, zr, Nat.reduceAdd, Nat.reduceSub, Nat.reduceMul, Nat.reduceLT, Nat.reduceLeDiff, Nat.reduceEqDiff, Nat.reduceBEq, reduceIte, reduceCtorEq, Int.reduceLE, Int.reduceLT, Int.reduceToNat, Int.reduceEq, Int.reduceNe])
              | ((first | apply condS_splitN | apply condS_split | apply guardS_splitTN | apply guardS_splitFN | apply guardD_splitTN | apply guardD_splitFN | apply guardS_splitT | apply guardS_splitF | apply guardD_splitT | apply guardD_splitF) <;> intro hc)
              | (refine callP0 rfl ?_)
              | (refine callD0 rfl ?_)
              | (refine cP (hT) ?_)
              | (refine cD (hT) ?_)
              | (refine cF (hT) ?_)
              | (refine cP (hNu) ?_)
              | (refine cD (hNu) ?_)
              | (refine cF (hNu) ?_)
              | (refine cP (hW2) ?_)
              | (refine cD (hW2) ?_)
              | (refine cF (hW2) ?_)
              | (refine cP (hL2) ?_)
              | (refine cD (hL2) ?_)
              | (refine cF (hL2) ?_)
              | fail)
            exact ret_vve rfl rfl
        · rw [if_pos (by rw [decide_eq_true_eq] at q2; exact .inr q2)] at e0
          rw [e0, if_neg (by decide)]
          repeat' (first
            | (simp -implicitDefEqProofs only [*, zr, Nat.reduceAdd, Nat.reduceSub, Nat.reduceMul, Nat.reduceLT, Nat.reduceLeDiff, Nat.reduceEqDiff, Nat.reduceBEq, reduceIte, reduceCtorEq, Int.reduceLE, Int.reduceLT, Int.reduceToNat, Int.reduceEq, Int.reduceNe])
            | ((first | apply condS_splitN | apply condS_split | apply guardS_splitTN | apply guardS_splitFN | apply guardD_splitTN | apply guardD_splitFN | apply guardS_splitT | apply guardS_splitF | apply guardD_splitT | apply guardD_splitF) <;> intro hc)
            | (refine callP0 rfl ?_)
            | (refine callD0 rfl ?_)
            | (refine cP (hT) ?_)
            | (refine cD (hT) ?_)
            | (refine cF (hT) ?_)
            | (refine cP (hNu) ?_)
            | (refine cD (hNu) ?_)
            | (refine cF (hNu) ?_)
            | fail)
          exact ret_vve rfl rfl
      · rw [if_pos (by rw [decide_eq_true_eq] at q1; exact .inl q1)] at e0
        rw [e0, if_neg (by decide)]
        repeat' (first
          | (simp -implicitDefEqProofs only [*, zr, Nat.reduceAdd, Nat.reduceSub, Nat.reduceMul, Nat.reduceLT, Nat.reduceLeDiff, Nat.reduceEqDiff, Nat.reduceBEq, reduceIte, reduceCtorEq, Int.reduceLE, Int.reduceLT, Int.reduceToNat, Int.reduceEq, Int.reduceNe])
          | ((first | apply condS_splitN | apply condS_split | apply guardS_splitTN | apply guardS_splitFN | apply guardD_splitTN | apply guardD_splitFN | apply guardS_splitT | apply guardS_splitF | apply guardD_splitT | apply guardD_splitF) <;> intro hc)
          | (refine callP0 rfl ?_)
          | (refine callD0 rfl ?_)
          | (refine cP (hT) ?_)
          | (refine cD (hT) ?_)
          | (refine cF (hT) ?_)
          | (refine cP (hNu) ?_)
          | (refine cD (hNu) ?_)
          | (refine cF (hNu) ?_)
          | fail)
        exact ret_vve rfl rfl
    · rw [if_pos h1] at e0
      rw [if_neg h1] at hNu
      rw [e0, if_neg h1]
      have hd := dec_f h1
      generalize numErr g l = e at *
      replace hN := hide hN
      replace hG := hide hG
      replace ho := hide ho
      repeat' (first
        | (simp -implicitDefEqProofs only [*, zr, Nat.reduceAdd, Nat.reduceSub, Nat.reduceMul, Nat.reduceLT, Nat.reduceLeDiff, Nat.reduceEqDiff, Nat.reduceBEq, reduceIte, reduceCtorEq, Int.reduceLE, Int.reduceLT, Int.reduceToNat, Int.reduceEq, Int.reduceNe])
        | ((first | apply condS_splitN | apply condS_split | apply guardS_splitTN | apply guardS_splitFN | apply guardD_splitTN | apply guardD_splitFN | apply guardS_splitT | apply guardS_splitF | apply guardD_splitT | apply guardD_splitF) <;> intro hc)
        | (refine callP0 rfl ?_)
        | (refine callD0 rfl ?_)
        | (refine cP (hT) ?_)
        | (refine cD (hT) ?_)
        | (refine cF (hT) ?_)
        | (refine cP (hNu) ?_)
        | (refine cD (hNu) ?_)
        | (refine cF (hNu) ?_)
        | fail)
      exact ret_vve rfl rfl
  · have e0 : reErr g l most = treeErr g := by unfold reErr; rw [if_pos h0]
    rw [e0, if_neg h0]
    rw [if_neg h0, if_neg h0] at hT
    have hd := dec_f h0
    generalize treeErr g = e at *
    repeat' (first
      | (simp -implicitDefEqProofs only [*, zr, Nat.reduceAdd, Nat.reduceSub, Nat.reduceMul, Nat.reduceLT, Nat.reduceLeDiff, Nat.reduceEqDiff, Nat.reduceBEq, reduceIte, reduceCtorEq, Int.reduceLE, Int.reduceLT, Int.reduceToNat, Int.reduceEq, Int.reduceNe])
      | ((first | apply condS_splitN | apply condS_split | apply guardS_splitTN | apply guardS_splitFN | apply guardD_splitTN | apply guardD_splitFN | apply guardS_splitT | apply guardS_splitF | apply guardD_splitT | apply guardD_splitF) <;> intro hc)
      | (refine callP0 rfl ?_)
      | (refine callD0 rfl ?_)
      | (refine cP (hT) ?_)
      | (refine cD (hT) ?_)
      | (refine cF (hT) ?_)
      | fail)
    exact ret_vve rfl rfl
theorem Needs_f (g : Graph) (hb : GBound g) (l : List ByteArray) (hll : (l.length : Int) ≤ 9223372036854775807) (most : Int) : FRet Tryd.prog 17 [.f (frNodes g), .f (frStrs l), .f (.int .i64 most)]
    [.c (.v (if reErr g l most = 0 then frStrs ((reV g l most false).map (labN g)) else .nil)), .c (.v (.int .i64 (reErr g l most)))] := by
  have hR := reached_f g hb l hll most false
  generalize (if reErr g l most = 0 then frStrs ((reV g l most false).map (labN g)) else .nil) = r at *
  generalize reErr g l most = e at *
  refine FCall.of_ax low_graph_Needs ?_
  dsimp only [l_graph_Needs]
  refine srun_sound 300 _ _ _ _ ?_
  repeat' (first
    | (simp -implicitDefEqProofs only [*, zr, Nat.reduceAdd, Nat.reduceSub, Nat.reduceMul, Nat.reduceLT, Nat.reduceLeDiff, Nat.reduceEqDiff, Nat.reduceBEq, reduceIte, reduceCtorEq, Int.reduceLE, Int.reduceLT, Int.reduceToNat, Int.reduceEq, Int.reduceNe])
    | ((first | apply condS_splitN | apply condS_split | apply guardS_splitTN | apply guardS_splitFN | apply guardD_splitTN | apply guardD_splitFN | apply guardS_splitT | apply guardS_splitF | apply guardD_splitT | apply guardD_splitF) <;> intro hc)
    | (refine callP0 rfl ?_)
    | (refine callD0 rfl ?_)
    | (refine cP (hR) ?_)
    | (refine cD (hR) ?_)
    | (refine cF (hR) ?_)
    | fail)
  exact ret_vve rfl rfl
theorem Users_f (g : Graph) (hb : GBound g) (l : List ByteArray) (hll : (l.length : Int) ≤ 9223372036854775807) (most : Int) : FRet Tryd.prog 18 [.f (frNodes g), .f (frStrs l), .f (.int .i64 most)]
    [.c (.v (if reErr g l most = 0 then frStrs ((reV g l most true).map (labN g)) else .nil)), .c (.v (.int .i64 (reErr g l most)))] := by
  have hR := reached_f g hb l hll most true
  generalize (if reErr g l most = 0 then frStrs ((reV g l most true).map (labN g)) else .nil) = r at *
  generalize reErr g l most = e at *
  refine FCall.of_ax low_graph_Users ?_
  dsimp only [l_graph_Users]
  refine srun_sound 300 _ _ _ _ ?_
  repeat' (first
    | (simp -implicitDefEqProofs only [*, zr, Nat.reduceAdd, Nat.reduceSub, Nat.reduceMul, Nat.reduceLT, Nat.reduceLeDiff, Nat.reduceEqDiff, Nat.reduceBEq, reduceIte, reduceCtorEq, Int.reduceLE, Int.reduceLT, Int.reduceToNat, Int.reduceEq, Int.reduceNe])
    | ((first | apply condS_splitN | apply condS_split | apply guardS_splitTN | apply guardS_splitFN | apply guardD_splitTN | apply guardD_splitFN | apply guardS_splitT | apply guardS_splitF | apply guardD_splitT | apply guardD_splitF) <;> intro hc)
    | (refine callP0 rfl ?_)
    | (refine callD0 rfl ?_)
    | (refine cP (hR) ?_)
    | (refine cD (hR) ?_)
    | (refine cF (hR) ?_)
    | fail)
  exact ret_vve rfl rfl
def twoErr (g : Graph) (a b : ByteArray) : Int := if treeErr g ≠ 0 then treeErr g else if (nHas g a && nHas g b) = true then 0 else 9
theorem ret_vvvve {x y z w x' y' z' w' : FV} {H : Heap} (h : x' = x) (h' : y' = y) (h'' : z' = z) (h3 : w' = w) : Rets [.c (.v x), .c (.v y), .c (.v z), .c (.v w)] (.tup [.f x', .f y', .f z', .f w']) H := by subst h h' h'' h3; exact ⟨[_, _, _, _], rfl, ⟨rfl, rfl, rfl, rfl, rfl⟩, List.nodup_nil⟩
theorem two_f (g : Graph) (hb : GBound g) (a b : ByteArray) : FRet Tryd.prog 37 [.f (frNodes g), .f (.str a), .f (.str b)]
    [.c (.v (if twoErr g a b = 0 then netOf g else nilP)), .c (.v (if twoErr g a b = 0 then fN (nIdx g a) else fN 0)), .c (.v (if twoErr g a b = 0 then fN (nIdx g b) else fN 0)), .c (.v (.int .i64 (twoErr g a b)))] := by
  have hT := tree_f g hb
  refine FCall.of_ax low_graph_two ?_
  dsimp only [l_graph_two]
  refine srun_sound 300 _ _ _ _ ?_
  by_cases h0 : treeErr g = 0
  · obtain ⟨hG, o, ho⟩ := tree_ok h0
    have hl := hG.len
    have hA := at_f g a (by omega) hG.rising
    have hB := at_f g b (by omega) hG.rising
    rw [h0, if_pos rfl, if_pos rfl] at hT
    have e0 : twoErr g a b = if (nHas g a && nHas g b) = true then 0 else 9 := by unfold twoErr; rw [if_neg (by rw [h0]; exact fun h => h rfl)]
    replace hG := hide hG
    replace ho := hide ho
    unfold atV at hA hB
    have dm : decide ((-1 : Int) < 0) = true := rfl
    have da : decide ((nIdx g a : Int) < 0) = false := dec_f (by omega)
    have db : decide ((nIdx g b : Int) < 0) = false := dec_f (by omega)
    cases qa : nHas g a
    · rw [qa] at e0 hA
      rw [if_neg (by decide)] at hA
      rw [show twoErr g a b = 9 by rw [e0]; rfl]
      cases qb : nHas g b
      all_goals (
        rw [qb] at hB
        first | rw [if_pos rfl] at hB | rw [if_neg (by decide)] at hB)
      all_goals clear e0
      repeat' (first
        | (simp -implicitDefEqProofs only [*, zr, Nat.reduceAdd, Nat.reduceSub, Nat.reduceMul, Nat.reduceLT, Nat.reduceLeDiff, Nat.reduceEqDiff, Nat.reduceBEq, reduceIte, reduceCtorEq, Int.reduceLE, Int.reduceLT, Int.reduceToNat, Int.reduceEq, Int.reduceNe])
        | ((first | apply condS_splitN | apply condS_split | apply guardS_splitTN | apply guardS_splitFN | apply guardD_splitTN | apply guardD_splitFN | apply guardS_splitT | apply guardS_splitF | apply guardD_splitT | apply guardD_splitF) <;> intro hc)
        | (refine callP0 rfl ?_)
        | (refine callD0 rfl ?_)
        | (refine cP (hT) ?_)
        | (refine cD (hT) ?_)
        | (refine cF (hT) ?_)
        | (refine cP (hA) ?_)
        | (refine cD (hA) ?_)
        | (refine cF (hA) ?_)
        | (refine cP (hB) ?_)
        | (refine cD (hB) ?_)
        | (refine cF (hB) ?_)
        | fail)
      all_goals exact ret_vvvve rfl rfl rfl rfl
    · rw [qa] at e0 hA
      rw [if_pos rfl] at hA
      cases qb : nHas g b
      · rw [qb] at hB e0
        rw [if_neg (by decide)] at hB
        rw [show twoErr g a b = 9 by rw [e0]; rfl]
        clear e0
        repeat' (first
          | (simp -implicitDefEqProofs only [*, zr, Nat.reduceAdd, Nat.reduceSub, Nat.reduceMul, Nat.reduceLT, Nat.reduceLeDiff, Nat.reduceEqDiff, Nat.reduceBEq, reduceIte, reduceCtorEq, Int.reduceLE, Int.reduceLT, Int.reduceToNat, Int.reduceEq, Int.reduceNe])
          | ((first | apply condS_splitN | apply condS_split | apply guardS_splitTN | apply guardS_splitFN | apply guardD_splitTN | apply guardD_splitFN | apply guardS_splitT | apply guardS_splitF | apply guardD_splitT | apply guardD_splitF) <;> intro hc)
          | (refine callP0 rfl ?_)
          | (refine callD0 rfl ?_)
          | (refine cP (hT) ?_)
          | (refine cD (hT) ?_)
          | (refine cF (hT) ?_)
          | (refine cP (hA) ?_)
          | (refine cD (hA) ?_)
          | (refine cF (hA) ?_)
          | (refine cP (hB) ?_)
          | (refine cD (hB) ?_)
          | (refine cF (hB) ?_)
          | fail)
        exact ret_vvvve rfl rfl rfl rfl
      · rw [qb] at hB e0
        rw [if_pos rfl] at hB
        rw [show twoErr g a b = 0 by rw [e0]; rfl]
        clear e0
        repeat' (first
          | (simp -implicitDefEqProofs only [*, fN, zr, Nat.reduceAdd, Nat.reduceSub, Nat.reduceMul, Nat.reduceLT, Nat.reduceLeDiff, Nat.reduceEqDiff, Nat.reduceBEq, reduceIte, reduceCtorEq, Int.reduceLE, Int.reduceLT, Int.reduceToNat, Int.reduceEq, Int.reduceNe])
          | ((first | apply condS_splitN | apply condS_split | apply guardS_splitTN | apply guardS_splitFN | apply guardD_splitTN | apply guardD_splitFN | apply guardS_splitT | apply guardS_splitF | apply guardD_splitT | apply guardD_splitF) <;> intro hc)
          | (refine callP0 rfl ?_)
          | (refine callD0 rfl ?_)
          | (refine cP (hT) ?_)
          | (refine cD (hT) ?_)
          | (refine cF (hT) ?_)
          | (refine cP (hA) ?_)
          | (refine cD (hA) ?_)
          | (refine cF (hA) ?_)
          | (refine cP (hB) ?_)
          | (refine cD (hB) ?_)
          | (refine cF (hB) ?_)
          | fail)
        exact ret_vvvve rfl rfl rfl rfl
  · have e0 : twoErr g a b = treeErr g := by unfold twoErr; rw [if_pos h0]
    rw [e0, if_neg h0, if_neg h0, if_neg h0]
    rw [if_neg h0, if_neg h0] at hT
    have hd := dec_f h0
    generalize treeErr g = e at *
    repeat' (first
      | (simp -implicitDefEqProofs only [*, zr, Nat.reduceAdd, Nat.reduceSub, Nat.reduceMul, Nat.reduceLT, Nat.reduceLeDiff, Nat.reduceEqDiff, Nat.reduceBEq, reduceIte, reduceCtorEq, Int.reduceLE, Int.reduceLT, Int.reduceToNat, Int.reduceEq, Int.reduceNe])
      | ((first | apply condS_splitN | apply condS_split | apply guardS_splitTN | apply guardS_splitFN | apply guardD_splitTN | apply guardD_splitFN | apply guardS_splitT | apply guardS_splitF | apply guardD_splitT | apply guardD_splitF) <;> intro hc)
      | (refine callP0 rfl ?_)
      | (refine callD0 rfl ?_)
      | (refine cP (hT) ?_)
      | (refine cD (hT) ?_)
      | (refine cF (hT) ?_)
      | fail)
    exact ret_vvvve rfl rfl rfl rfl
theorem inM_iff {E : List (List Nat)} {n : Nat} (hE : ∀ i, ∀ k ∈ E.getD i [], k < n) {from_ : List Nat} (hf : ∀ k ∈ from_, k < n) {k : Nat} (hk : k < n) (m : Int) : inM (stepsV E n from_) m k = true ↔ ∃ a ∈ from_, ∃ j : Nat, (m < 0 ∨ (j : Int) ≤ m) ∧ Walk E j a k := by
  rw [← steps_iff hE hf hk m, inM, Bool.and_eq_true, Bool.or_eq_true, decide_eq_true_eq, decide_eq_true_eq, decide_eq_true_eq]
/-- Up from b just if down from a. -/
theorem turn_iff {n : Nat} {D U : List (List Nat)} (hN : NetOk n D U) (hm : Mutual n D U) (hm' : Mutual' n D U) {a b : Nat} (ha : a < n) (hb : b < n) (most : Int) : inM (stepsV D n [a]) most b = inM (stepsV U n [b]) most a := by
  have h1 : ∀ {x : Nat}, x < n → ∀ k ∈ [x], k < n := fun hx k hk => by rw [List.mem_singleton.1 hk]; exact hx
  rw [Bool.eq_iff_iff, inM_iff (rowD_lt hN) (h1 ha) hb, inM_iff (rowU_lt hN) (h1 hb) ha]
  constructor
  · rintro ⟨x, hx, j, hj, hw⟩
    rw [List.mem_singleton.1 hx] at hw
    exact ⟨b, List.mem_singleton.2 rfl, j, hj, Walk.turn (rowD_lt hN) hm' ha hw⟩
  · rintro ⟨x, hx, j, hj, hw⟩
    rw [List.mem_singleton.1 hx] at hw
    exact ⟨a, List.mem_singleton.2 rfl, j, hj, Walk.turn (rowU_lt hN) (fun u x hu hx h => hm x u hx hu h) hb hw⟩
theorem turn0 {n : Nat} {D U : List (List Nat)} (hN : NetOk n D U) (hm : Mutual n D U) (hm' : Mutual' n D U) {a b : Nat} (ha : a < n) (hb : b < n) : 0 ≤ (stepsV D n [a]).getD b 0 ↔ 0 ≤ (stepsV U n [b]).getD a 0 := by
  have := turn_iff hN hm hm' ha hb (-1)
  rw [Bool.eq_iff_iff] at this
  simpa [inM] using this
theorem two_ok {g : Graph} {a b : ByteArray} (h : twoErr g a b = 0) : GOk g ∧ nIdx g a < g.length ∧ nIdx g b < g.length ∧ nHas g a = true ∧ nHas g b = true ∧ treeErr g = 0 := by
  unfold twoErr at h
  split at h
  · rename_i h1; exact absurd h h1
  · rename_i h1
    have h0 : treeErr g = 0 := by simpa using h1
    split at h
    · rename_i h2
      rw [Bool.and_eq_true] at h2
      have hG := (tree_ok h0).1
      exact ⟨hG, nIdx_lt hG.rising h2.1, nIdx_lt hG.rising h2.2, h2.1, h2.2, h0⟩
    · cases h
/-- A way is told. -/
def whyIs (g : Graph) (a b : ByteArray) : Bool := decide (0 ≤ (stepsV (allDeps g) g.length [nIdx g a]).getD (nIdx g b) 0)
def whyL (g : Graph) (a b : ByteArray) : List Nat := wayV (allDeps g) (stepsV (usersOf g) g.length [nIdx g b]) (nIdx g a)
theorem sing_lt {n x : Nat} (hx : x < n) : ∀ k ∈ [x], k < n := fun k hk => by rw [List.mem_singleton.1 hk]; exact hx
theorem way_ok {n : Nat} {D U : List (List Nat)} (hN : NetOk n D U) {a b : Nat} (ha : a < n) (hb : b < n) : (wayV D (stepsV U n [b]) a).length ≤ 1001 ∧ ∀ k ∈ wayV D (stepsV U n [b]) a, k < n := by
  have hsp := steps_spec (E := U) (from_ := [b]) (rowU_lt hN) (sing_lt hb)
  have hlo := (hsp.lo a ha).2
  obtain ⟨h2, h3⟩ := wayGo_lt (F := stepsV U n [b]) hN ((stepsV U n [b]).getD a 0).toNat a ha
  have hnl := hN.nl
  refine ⟨by rw [wayV, List.length_cons, h2]; omega, fun k hk => ?_⟩
  rcases List.mem_cons.1 hk with rfl | hk
  · exact ha
  · exact h3 k hk
theorem Why_f (g : Graph) (hb : GBound g) (a b : ByteArray) : FRet Tryd.prog 19 [.f (frNodes g), .f (.str a), .f (.str b)]
    [.c (.v (if twoErr g a b = 0 then (if whyIs g a b = true then frStrs ((whyL g a b).map (labN g)) else .nil) else .nil)), .c (.v (.bool (if twoErr g a b = 0 then whyIs g a b else false))), .c (.v (.int .i64 (twoErr g a b)))] := by
  have hT := two_f g hb a b
  refine FCall.of_ax low_graph_Why ?_
  dsimp only [l_graph_Why]
  refine srun_sound 300 _ _ _ _ ?_
  by_cases h0 : twoErr g a b = 0
  · obtain ⟨hG, ha, hb', _⟩ := two_ok h0
    have hN := net_ok hG
    have hm := net_mutual hG
    have hm' := net_mutual' hG
    rw [h0, if_pos rfl, if_pos rfl, if_pos rfl] at hT
    rw [h0, if_pos rfl, if_pos rfl]
    have hS := steps_f (allDeps g) [nIdx g a] g.length hN.dl hN.nl (fun r hr => by have := hN.dr r hr; exact ⟨by omega, this.2⟩) (sing_lt ha) (by simp)
    have hlen := (steps_spec (E := allDeps g) (from_ := [nIdx g a]) (rowD_lt hN) (sing_lt ha)).len
    have ht := turn0 hN hm hm' ha hb'
    have hW : 0 ≤ (stepsV (usersOf g) g.length [nIdx g b]).getD (nIdx g a) 0 → FRet Tryd.prog 39 [.f (fNet g (allDeps g) (usersOf g)), .f (fN (nIdx g a)), .f (fN (nIdx g b))] [.c (.v (frN (whyL g a b)))] := fun h => way_f g (allDeps g) (usersOf g) (nIdx g a) (nIdx g b) hN hm ha hb' h
    have hwo := way_ok hN ha hb'
    have hL := labels_f g (allDeps g) (usersOf g) (whyL g a b) (by have := hwo.1; unfold whyL; omega) hwo.2
    have hi : whyIs g a b = decide (0 ≤ (stepsV (allDeps g) g.length [nIdx g a]).getD (nIdx g b) 0) := rfl
    change FRet Tryd.prog 27 [.f (netOf g), _] _ at hL
    generalize whyL g a b = w at *
    generalize stepsV (allDeps g) g.length [nIdx g a] = F at *
    obtain ⟨z, hz⟩ := get_some (l := F) (i := nIdx g b) (by omega)
    rw [getD_some hz] at hi ht
    rw [hi]
    have hfz : fI z = FV.int .i64 z := rfl
    have d1 := lt_t hb'
    clear hwo
    replace ht := hide ht
    replace hN := hide hN
    replace hG := hide hG
    replace hm := hide hm
    replace hm' := hide hm'
    replace hi := hide hi
    unfold netOf fNet fN at *
    have hWx := fun h => hW (ht.out.1 h)
    replace hW := hide hW
    cases q : decide (0 ≤ z)
    · have q2 : decide (z < 0) = true := by rw [decide_eq_true_eq]; rw [decide_eq_false_iff_not] at q; omega
      replace hWx := hide hWx
      rw [if_neg (by decide)]
      repeat' (first
        | (simp -implicitDefEqProofs only [*, zr, Nat.reduceAdd, Nat.reduceSub, Nat.reduceMul, Nat.reduceLT, Nat.reduceLeDiff, Nat.reduceEqDiff, Nat.reduceBEq, reduceIte, reduceCtorEq, Int.reduceLE, Int.reduceLT, Int.reduceToNat, Int.reduceEq, Int.reduceNe])
        | ((first | apply condS_splitN | apply condS_split | apply guardS_splitTN | apply guardS_splitFN | apply guardD_splitTN | apply guardD_splitFN | apply guardS_splitT | apply guardS_splitF | apply guardD_splitT | apply guardD_splitF) <;> intro hc)
        | (refine callP0 rfl ?_)
        | (refine callD0 rfl ?_)
        | (refine cP (hT) ?_)
        | (refine cD (hT) ?_)
        | (refine cF (hT) ?_)
        | fail)
      refine ax_weakA [] (nw := []) (n := 42) (el := [(9, .f (.fp [frNodes g, frRows (allDeps g), frRows (usersOf g)])), (10, .f (.int .i64 (nIdx g a))), (11, .f (.int .i64 (nIdx g b))), (28, .f (frRows (allDeps g))), (30, .f (frN [nIdx g a]))]) (hl := []) rfl ?_ ?_
      · refine ⟨rfl, (by repeat (first | exact small_0 | exact small_mk rfl | refine small_upd rfl ?_)), rfl, rfl, rfl, ?_, trivial⟩
        repeat (first | exact trivial | refine And.intro (by decide) ?_ | refine And.intro (so_one rfl rfl) ?_ | refine And.intro (Or.inl rfl) ?_)
      repeat' (first
        | (simp -implicitDefEqProofs only [*, List.getElem?_map, Option.map_some, frI, zr, Nat.reduceAdd, Nat.reduceSub, Nat.reduceMul, Nat.reduceLT, Nat.reduceLeDiff, Nat.reduceEqDiff, Nat.reduceBEq, reduceIte, reduceCtorEq, Int.reduceLE, Int.reduceLT, Int.reduceToNat, Int.reduceEq, Int.reduceNe])
        | ((first | apply condS_splitN | apply condS_split | apply guardS_splitTN | apply guardS_splitFN | apply guardD_splitTN | apply guardD_splitFN | apply guardS_splitT | apply guardS_splitF | apply guardD_splitT | apply guardD_splitF) <;> intro hc)
        | (refine callP0 rfl ?_)
        | (refine callD0 rfl ?_)
        | (refine cP (hS) ?_)
        | (refine cD (hS) ?_)
        | (refine cF (hS) ?_)
        | fail)
      exact ret_vvve rfl rfl rfl
    · have q2 : decide (z < 0) = false := by rw [decide_eq_false_iff_not]; rw [decide_eq_true_eq] at q; omega
      have hW1 := hWx (of_decide_eq_true q)
      replace hWx := hide hWx
      rw [if_pos rfl]
      repeat' (first
        | (simp -implicitDefEqProofs only [*, zr, Nat.reduceAdd, Nat.reduceSub, Nat.reduceMul, Nat.reduceLT, Nat.reduceLeDiff, Nat.reduceEqDiff, Nat.reduceBEq, reduceIte, reduceCtorEq, Int.reduceLE, Int.reduceLT, Int.reduceToNat, Int.reduceEq, Int.reduceNe])
        | ((first | apply condS_splitN | apply condS_split | apply guardS_splitTN | apply guardS_splitFN | apply guardD_splitTN | apply guardD_splitFN | apply guardS_splitT | apply guardS_splitF | apply guardD_splitT | apply guardD_splitF) <;> intro hc)
        | (refine callP0 rfl ?_)
        | (refine callD0 rfl ?_)
        | (refine cP (hT) ?_)
        | (refine cD (hT) ?_)
        | (refine cF (hT) ?_)
        | fail)
      refine ax_weakA [] (nw := []) (n := 42) (el := [(9, .f (.fp [frNodes g, frRows (allDeps g), frRows (usersOf g)])), (10, .f (.int .i64 (nIdx g a))), (11, .f (.int .i64 (nIdx g b))), (28, .f (frRows (allDeps g))), (30, .f (frN [nIdx g a]))]) (hl := []) rfl ?_ ?_
      · refine ⟨rfl, (by repeat (first | exact small_0 | exact small_mk rfl | refine small_upd rfl ?_)), rfl, rfl, rfl, ?_, trivial⟩
        repeat (first | exact trivial | refine And.intro (by decide) ?_ | refine And.intro (so_one rfl rfl) ?_ | refine And.intro (Or.inl rfl) ?_)
      repeat' (first
        | (simp -implicitDefEqProofs only [*, List.getElem?_map, Option.map_some, frI, zr, Nat.reduceAdd, Nat.reduceSub, Nat.reduceMul, Nat.reduceLT, Nat.reduceLeDiff, Nat.reduceEqDiff, Nat.reduceBEq, reduceIte, reduceCtorEq, Int.reduceLE, Int.reduceLT, Int.reduceToNat, Int.reduceEq, Int.reduceNe])
        | ((first | apply condS_splitN | apply condS_split | apply guardS_splitTN | apply guardS_splitFN | apply guardD_splitTN | apply guardD_splitFN | apply guardS_splitT | apply guardS_splitF | apply guardD_splitT | apply guardD_splitF) <;> intro hc)
        | (refine callP0 rfl ?_)
        | (refine callD0 rfl ?_)
        | (refine cP (hS) ?_)
        | (refine cD (hS) ?_)
        | (refine cF (hS) ?_)
        | (refine cP (hW1) ?_)
        | (refine cD (hW1) ?_)
        | (refine cF (hW1) ?_)
        | (refine cP (hL) ?_)
        | (refine cD (hL) ?_)
        | (refine cF (hL) ?_)
        | fail)
      exact ret_vvve rfl rfl rfl
  · rw [if_neg h0, if_neg h0, if_neg h0] at hT
    rw [if_neg h0, if_neg h0]
    have hd := dec_f h0
    generalize twoErr g a b = e at *
    unfold fN at hT
    repeat' (first
      | (simp -implicitDefEqProofs only [*, zr, Nat.reduceAdd, Nat.reduceSub, Nat.reduceMul, Nat.reduceLT, Nat.reduceLeDiff, Nat.reduceEqDiff, Nat.reduceBEq, reduceIte, reduceCtorEq, Int.reduceLE, Int.reduceLT, Int.reduceToNat, Int.reduceEq, Int.reduceNe])
      | ((first | apply condS_splitN | apply condS_split | apply guardS_splitTN | apply guardS_splitFN | apply guardD_splitTN | apply guardD_splitFN | apply guardS_splitT | apply guardS_splitF | apply guardD_splitT | apply guardD_splitF) <;> intro hc)
      | (refine callP0 rfl ?_)
      | (refine callD0 rfl ?_)
      | (refine cP (hT) ?_)
      | (refine cD (hT) ?_)
      | (refine cF (hT) ?_)
      | fail)
    exact ret_vvve rfl rfl rfl
def btP (Fd Fu : List Int) (i : Nat) : Bool := decide (0 ≤ Fd.getD i 0) && decide (0 ≤ Fu.getD i 0)
def btwV (D U : List (List Nat)) (n a b : Nat) : List Nat := (List.range n).filter (btP (stepsV D n [a]) (stepsV U n [b]))
theorem between_f (g : Graph) (D U : List (List Nat)) (a b : Nat) (hN : NetOk g.length D U) (ha : a < g.length) (hb : b < g.length) : FRet Tryd.prog 40 [.f (fNet g D U), .f (frN [a]), .f (frN [b])] [.c (.v (frN (btwV D U g.length a b)))] := by
  have hS1 := steps_f D [a] g.length hN.dl hN.nl (fun r hr => by have := hN.dr r hr; exact ⟨by omega, this.2⟩) (sing_lt ha) (by simp)
  have hS2 := steps_f U [b] g.length hN.ul hN.nl (fun r hr => hN.ur r hr) (sing_lt hb) (by simp)
  have hl1 := (steps_spec (E := D) (from_ := [a]) (rowD_lt hN) (sing_lt ha)).len
  have hl2 := (steps_spec (E := U) (from_ := [b]) (rowU_lt hN) (sing_lt hb)).len
  have hn := hN.nl
  unfold btwV
  generalize stepsV D g.length [a] = F at *
  generalize stepsV U g.length [b] = G at *
  refine FCall.of_ax low_graph_net_between ?_
  dsimp only [l_graph_net_between, fNet]
  refine srun_sound 300 _ _ _ _ ?_
  replace hN := hide hN
  repeat' (first
    | (simp -implicitDefEqProofs only [*, frI, frNodes, zr, Nat.reduceAdd, Nat.reduceSub, Nat.reduceMul, Nat.reduceLT, Nat.reduceLeDiff, Nat.reduceEqDiff, Nat.reduceBEq, reduceIte, reduceCtorEq, Int.reduceLE, Int.reduceLT, Int.reduceToNat, Int.reduceEq, Int.reduceNe])
    | ((first | apply condS_splitN | apply condS_split | apply guardS_splitTN | apply guardS_splitFN | apply guardD_splitTN | apply guardD_splitFN | apply guardS_splitT | apply guardS_splitF | apply guardD_splitT | apply guardD_splitF) <;> intro hc)
    | (refine callP0 rfl ?_)
    | (refine callD0 rfl ?_)
    | (refine cP (hS1) ?_)
    | (refine cD (hS1) ?_)
    | (refine cF (hS1) ?_)
    | (refine cP (hS2) ?_)
    | (refine cD (hS2) ?_)
    | (refine cF (hS2) ?_)
    | fail)
  have hlim : ∀ s, s ≤ g.length → ((List.range s).filter (btP F G)).length ≤ s := fun s hs => by
    have := List.length_filter_le (btP F G) (List.range s)
    rwa [List.length_range] at this
  refine ax_loopU (S := Nat) 49 [7, 8, 27] [] (fun s => [(9, .sl 46 1 1 0 ((List.range s).filter (btP F G)).length), (28, .f (.int .i64 s))]) (fun s => [(46, 1, .cells ((((List.range s).filter (btP F G)).map fN).map .f))]) (fun s => s ≤ g.length) (fun s => g.length - s) (0) [46] ?_ ?_ fun s hs => ?_
  · exact Nat.zero_le _
  · refine ⟨rfl, (by first | exact small_0 | exact small_mk rfl | (repeat (first | exact small_0 | exact small_mk rfl | refine small_upd rfl ?_ | refine small_sw rfl rfl ?_))), rfl, rfl, (by rfl), ?_, ?_⟩ <;> simp only [List.range_zero, List.filter_nil, zw, swN, ElOk, HlOk, Nat.reduceEqDiff, Nat.reduceBEq, Nat.reduceLT, Nat.reduceLeDiff, reduceIte, reduceCtorEq, H0, AObj.cells.injEq]
  rcases Nat.lt_or_ge s g.length with hlt | hge
  · refine srun_sound 300 _ _ _ _ ?_
    obtain ⟨z, hz⟩ := get_some (l := F) (i := s) (by omega)
    obtain ⟨y, hy⟩ := get_some (l := G) (i := s) (by omega)
    have h4 := inc64 hlt (by omega)
    have h2 := lt_t hlt
    have hfz : fI z = FV.int .i64 z := rfl
    have hfy : fI y = FV.int .i64 y := rfl
    have hL := hlim s hs
    have hnx : (List.range (s + 1)).filter (btP F G) = (List.range s).filter (btP F G) ++ (if btP F G s = true then [s] else []) := by
      rw [List.range_succ, List.filter_append, List.filter_cons, List.filter_nil]
    have hin : btP F G s = (decide (0 ≤ z) && decide (0 ≤ y)) := by unfold btP; rw [getD_some hz, getD_some hy]
    have hst : (((List.range s).filter (btP F G)).map fN).map AV.f ++ [.f (.int .i64 s)] = ((((List.range s).filter (btP F G)) ++ [s]).map fN).map AV.f := by simp [fN]
    have hlen : (((List.range s).filter (btP F G)) ++ [s]).length = ((List.range s).filter (btP F G)).length + 1 := by simp
    replace hlim := hide hlim
    generalize (List.range s).filter (btP F G) = L at *
    have hk8 := nle_t (show (L.length + 1) * 8 ≤ 140737488355328 by omega)
    cases q1 : decide (0 ≤ z) <;> cases q2 : decide (0 ≤ y)
    all_goals (
      rw [q1, q2] at hin
      simp only [Bool.and_true, Bool.true_and, Bool.and_false, Bool.false_and] at hin
      rw [hin] at hnx
      replace hin := hide hin)
    all_goals (first | (rw [if_pos rfl] at hnx) | (rw [if_neg (by decide), List.append_nil] at hnx))
    all_goals replace hnx := hide hnx
    repeat' (first
      | (simp -implicitDefEqProofs only [*, List.getElem?_map, Option.map_some, zr, Nat.reduceAdd, Nat.reduceSub, Nat.reduceMul, Nat.reduceLT, Nat.reduceLeDiff, Nat.reduceEqDiff, Nat.reduceBEq, reduceIte, reduceCtorEq, Int.reduceLE, Int.reduceLT, Int.reduceToNat, Int.reduceEq, Int.reduceNe])
      | ((first | apply condS_splitN | apply condS_split | apply guardS_splitTN | apply guardS_splitFN | apply guardD_splitTN | apply guardD_splitFN | apply guardS_splitT | apply guardS_splitF | apply guardD_splitT | apply guardD_splitF) <;> intro hc)
      | (refine callP0 rfl ?_)
      | (refine callD0 rfl ?_)
      | fail)
    all_goals (refine ⟨s + 1, hlt, by omega, ?_⟩; rw [hnx.out])
    all_goals (try rw [hlen])
    all_goals refine ⟨rfl, (by first | exact small_0 | exact small_mk rfl | (repeat (first | exact small_0 | exact small_mk rfl | refine small_upd rfl ?_ | refine small_sw rfl rfl ?_))), rfl, rfl, (by rfl), ?_, ?_⟩ <;> simp only [hst, zw, swN, ElOk, HlOk, Nat.reduceEqDiff, Nat.reduceBEq, Nat.reduceLT, Nat.reduceLeDiff, reduceIte, reduceCtorEq, H0, AObj.cells.injEq]
  obtain rfl : s = g.length := by omega
  have h2 := lt_f hge
  refine ax_weak (nw := []) (n := 49) (el := [(9, .f (frN ((List.range g.length).filter (btP F G)))), (27, .f (.int .i64 g.length)), (28, .f (.int .i64 g.length))]) (hl := []) ?_ ?_
  · refine ⟨rfl, small_mk rfl, rfl, rfl, rfl, ⟨by decide, ?_, by decide, .inl rfl, by decide, .inl rfl, trivial⟩, trivial⟩
    have hso : ∀ L : List Nat, SlotOk (mkH [(46, 1, .cells ((L.map fN).map .f))]) (mkH []) [] (.sl 46 1 1 0 L.length) (.f (frN L)) := fun L => by
      rw [frN_eq]; exact so_cells1 (l := L.map fN) rfl rfl (List.length_map _)
    exact hso _
  refine srun_sound 300 _ _ _ _ ?_
  repeat' (first
    | (simp -implicitDefEqProofs only [*, frN, zr, Nat.reduceAdd, Nat.reduceSub, Nat.reduceMul, Nat.reduceLT, Nat.reduceLeDiff, Nat.reduceEqDiff, Nat.reduceBEq, reduceIte, reduceCtorEq, Int.reduceLE, Int.reduceLT, Int.reduceToNat, Int.reduceEq, Int.reduceNe])
    | ((first | apply condS_splitN | apply condS_split | apply guardS_splitTN | apply guardS_splitFN | apply guardD_splitTN | apply guardD_splitFN | apply guardS_splitT | apply guardS_splitF | apply guardD_splitT | apply guardD_splitF) <;> intro hc)
    | (refine callP0 rfl ?_)
    | (refine callD0 rfl ?_)
    | fail)
  exact ret_ve rfl
def btwOf (g : Graph) (a b : ByteArray) : List Nat := btwV (allDeps g) (usersOf g) g.length (nIdx g a) (nIdx g b)
theorem btw_lt {D U : List (List Nat)} {n a b : Nat} : (btwV D U n a b).length ≤ n ∧ ∀ k ∈ btwV D U n a b, k < n := by
  refine ⟨?_, fun k hk => List.mem_range.1 (List.mem_filter.1 hk).1⟩
  have := List.length_filter_le (btP (stepsV D n [a]) (stepsV U n [b])) (List.range n)
  rwa [List.length_range] at this
theorem Between_f (g : Graph) (hb : GBound g) (a b : ByteArray) : FRet Tryd.prog 20 [.f (frNodes g), .f (.str a), .f (.str b)]
    [.c (.v (if twoErr g a b = 0 then frStrs ((btwOf g a b).map (labN g)) else .nil)), .c (.v (.int .i64 (twoErr g a b)))] := by
  have hT := two_f g hb a b
  refine FCall.of_ax low_graph_Between ?_
  dsimp only [l_graph_Between]
  refine srun_sound 300 _ _ _ _ ?_
  by_cases h0 : twoErr g a b = 0
  · obtain ⟨hG, ha, hb', _⟩ := two_ok h0
    have hN := net_ok hG
    have hnl := hN.nl
    rw [h0, if_pos rfl, if_pos rfl, if_pos rfl] at hT
    rw [h0, if_pos rfl]
    have hS := between_f g (allDeps g) (usersOf g) (nIdx g a) (nIdx g b) hN ha hb'
    change FRet Tryd.prog 40 _ [.c (.v (frN (btwOf g a b)))] at hS
    have hL := labels_f g (allDeps g) (usersOf g) (btwOf g a b) (by have := (btw_lt (D := allDeps g) (U := usersOf g) (n := g.length) (a := nIdx g a) (b := nIdx g b)).1; unfold btwOf; omega) btw_lt.2
    generalize btwOf g a b = w at *
    replace hN := hide hN
    replace hG := hide hG
    have hfa : fN (nIdx g a) = .int .i64 (nIdx g a) := rfl
    have hfb : fN (nIdx g b) = .int .i64 (nIdx g b) := rfl
    change FRet Tryd.prog 37 _ [.c (.v (fNet g (allDeps g) (usersOf g))), _, _, _] at hT
    repeat' (first
      | (simp -implicitDefEqProofs only [*, zr, Nat.reduceAdd, Nat.reduceSub, Nat.reduceMul, Nat.reduceLT, Nat.reduceLeDiff, Nat.reduceEqDiff, Nat.reduceBEq, reduceIte, reduceCtorEq, Int.reduceLE, Int.reduceLT, Int.reduceToNat, Int.reduceEq, Int.reduceNe])
      | ((first | apply condS_splitN | apply condS_split | apply guardS_splitTN | apply guardS_splitFN | apply guardD_splitTN | apply guardD_splitFN | apply guardS_splitT | apply guardS_splitF | apply guardD_splitT | apply guardD_splitF) <;> intro hc)
      | (refine callP0 rfl ?_)
      | (refine callD0 rfl ?_)
      | (refine cP (hT) ?_)
      | (refine cD (hT) ?_)
      | (refine cF (hT) ?_)
      | fail)
    refine ax_weakA [] (nw := []) (n := 32) (el := [(24, .f (fNet g (allDeps g) (usersOf g))), (25, .f (fNet g (allDeps g) (usersOf g))), (27, .f (frN [nIdx g a])), (29, .f (frN [nIdx g b]))]) (hl := []) rfl ?_ ?_
    · refine ⟨rfl, (by repeat (first | exact small_0 | exact small_mk rfl | refine small_upd rfl ?_)), rfl, rfl, rfl, ?_, trivial⟩
      repeat (first | exact trivial | refine And.intro (by decide) ?_ | refine And.intro (so_one rfl rfl) ?_ | refine And.intro (Or.inl rfl) ?_)
    repeat' (first
      | (simp -implicitDefEqProofs only [*, zr, Nat.reduceAdd, Nat.reduceSub, Nat.reduceMul, Nat.reduceLT, Nat.reduceLeDiff, Nat.reduceEqDiff, Nat.reduceBEq, reduceIte, reduceCtorEq, Int.reduceLE, Int.reduceLT, Int.reduceToNat, Int.reduceEq, Int.reduceNe])
      | ((first | apply condS_splitN | apply condS_split | apply guardS_splitTN | apply guardS_splitFN | apply guardD_splitTN | apply guardD_splitFN | apply guardS_splitT | apply guardS_splitF | apply guardD_splitT | apply guardD_splitF) <;> intro hc)
      | (refine callP0 rfl ?_)
      | (refine callD0 rfl ?_)
      | (refine cP (hS) ?_)
      | (refine cD (hS) ?_)
      | (refine cF (hS) ?_)
      | (refine cP (hL) ?_)
      | (refine cD (hL) ?_)
      | (refine cF (hL) ?_)
      | fail)
    exact ret_vve rfl rfl
  · rw [if_neg h0, if_neg h0, if_neg h0] at hT
    rw [if_neg h0]
    have hd := dec_f h0
    generalize twoErr g a b = e at *
    unfold fN at hT
    repeat' (first
      | (simp -implicitDefEqProofs only [*, zr, Nat.reduceAdd, Nat.reduceSub, Nat.reduceMul, Nat.reduceLT, Nat.reduceLeDiff, Nat.reduceEqDiff, Nat.reduceBEq, reduceIte, reduceCtorEq, Int.reduceLE, Int.reduceLT, Int.reduceToNat, Int.reduceEq, Int.reduceNe])
      | ((first | apply condS_splitN | apply condS_split | apply guardS_splitTN | apply guardS_splitFN | apply guardD_splitTN | apply guardD_splitFN | apply guardS_splitT | apply guardS_splitF | apply guardD_splitT | apply guardD_splitF) <;> intro hc)
      | (refine callP0 rfl ?_)
      | (refine callD0 rfl ?_)
      | (refine cP (hT) ?_)
      | (refine cD (hT) ?_)
      | (refine cF (hT) ?_)
      | fail)
    exact ret_vve rfl rfl
end Go.Proofs.YtaiajaibcpkceaaDoor
