/-
  Graphs on the machine: why, between; the law NeedsTurn (calls freeze by so_one). No statement of the seat is proved here; no conditions.
-/
import Derived.Test.YtaiajaibcpkceaaDoorGrR
import Derived.Test.YtaiajaibcpkceaaDoorGrL
namespace Go.Proofs.YtaiajaibcpkceaaDoor
open Go.RowKit Go.Shelf
set_option linter.unusedVariables false
set_option linter.unusedSimpArgs false
set_option maxRecDepth 100000

theorem inM_iff {E : List (List Nat)} {n : Nat} (hE : ∀ i, ∀ k ∈ E.getD i [], k < n) {from_ : List Nat} (hf : ∀ k ∈ from_, k < n) {k : Nat} (hk : k < n) (m : Int) : inM (stepsV E n from_) m k = true ↔ ∃ a ∈ from_, ∃ j : Nat, (m < 0 ∨ (j : Int) ≤ m) ∧ Walk E j a k := by
  rw [← steps_iff hE hf hk m, inM, Bool.and_eq_true, Bool.or_eq_true, decide_eq_true_eq, decide_eq_true_eq, decide_eq_true_eq]
/-- Up from b just if down from a. -/
theorem turn_iff {n : Nat} {D U : List (List Nat)} (hN : NetOk n D U) (hm : Mutual n D U) (hm' : Mutual' n D U) {a b : Nat} (ha : a < n) (hb : b < n) (most : Int) : inM (stepsV D n [a]) most b = inM (stepsV U n [b]) most a := by
  have h1 : ∀ {x : Nat}, x < n → ∀ k ∈ [x], k < n := fun hx k hk => by rw [List.mem_singleton.1 hk]; exact hx
  rw [Bool.eq_iff_iff, inM_iff (rowD_lt hN) (h1 ha) hb, inM_iff (rowU_lt hN) (h1 hb) ha]
  constructor
  · rintro ⟨x, hx, j, hj, hw⟩
    rw [List.mem_singleton.1 hx] at hw
    exact ⟨b, List.mem_singleton.2 rfl, j, hj, Walk.turn (rowD_lt hN) hm' ha hw⟩
  · rintro ⟨x, hx, j, hj, hw⟩
    rw [List.mem_singleton.1 hx] at hw
    exact ⟨a, List.mem_singleton.2 rfl, j, hj, Walk.turn (rowU_lt hN) (fun u x hu hx h => hm x u hx hu h) hb hw⟩
theorem turn0 {n : Nat} {D U : List (List Nat)} (hN : NetOk n D U) (hm : Mutual n D U) (hm' : Mutual' n D U) {a b : Nat} (ha : a < n) (hb : b < n) : 0 ≤ (stepsV D n [a]).getD b 0 ↔ 0 ≤ (stepsV U n [b]).getD a 0 := by
  have := turn_iff hN hm hm' ha hb (-1)
  rw [Bool.eq_iff_iff] at this
  simpa [inM] using this
theorem two_ok {g : Graph} {a b : ByteArray} (h : twoErr g a b = 0) : GOk g ∧ nIdx g a < g.length ∧ nIdx g b < g.length ∧ nHas g a = true ∧ nHas g b = true ∧ treeErr g = 0 := by
  unfold twoErr at h
  split at h
  · rename_i h1; exact absurd h h1
  · rename_i h1
    have h0 : treeErr g = 0 := by simpa using h1
    split at h
    · rename_i h2
      rw [Bool.and_eq_true] at h2
      have hG := (tree_ok h0).1
      exact ⟨hG, nIdx_lt hG.rising h2.1, nIdx_lt hG.rising h2.2, h2.1, h2.2, h0⟩
    · cases h
/-- A way is told. -/
def whyIs (g : Graph) (a b : ByteArray) : Bool := decide (0 ≤ (stepsV (allDeps g) g.length [nIdx g a]).getD (nIdx g b) 0)
def whyL (g : Graph) (a b : ByteArray) : List Nat := wayV (allDeps g) (stepsV (usersOf g) g.length [nIdx g b]) (nIdx g a)
theorem sing_lt {n x : Nat} (hx : x < n) : ∀ k ∈ [x], k < n := fun k hk => by rw [List.mem_singleton.1 hk]; exact hx
theorem way_ok {n : Nat} {D U : List (List Nat)} (hN : NetOk n D U) {a b : Nat} (ha : a < n) (hb : b < n) : (wayV D (stepsV U n [b]) a).length ≤ 1001 ∧ ∀ k ∈ wayV D (stepsV U n [b]) a, k < n := by
  have hsp := steps_spec (E := U) (from_ := [b]) (rowU_lt hN) (sing_lt hb)
  have hlo := (hsp.lo a ha).2
  obtain ⟨h2, h3⟩ := wayGo_lt (F := stepsV U n [b]) hN ((stepsV U n [b]).getD a 0).toNat a ha
  have hnl := hN.nl
  refine ⟨by rw [wayV, List.length_cons, h2]; omega, fun k hk => ?_⟩
  rcases List.mem_cons.1 hk with rfl | hk
  · exact ha
  · exact h3 k hk
theorem Why_f (g : Graph) (hb : GBound g) (a b : ByteArray) : FRet Tryd.prog 19 [.f (frNodes g), .f (.str a), .f (.str b)]
    [.c (.v (if twoErr g a b = 0 then (if whyIs g a b = true then frStrs ((whyL g a b).map (labN g)) else .nil) else .nil)), .c (.v (.bool (if twoErr g a b = 0 then whyIs g a b else false))), .c (.v (.int .i64 (twoErr g a b)))] := by
  have hT := two_f g hb a b
  refine FCall.of_ax low_graph_Why ?_
  dsimp only [l_graph_Why]
  refine srun_sound 300 _ _ _ _ ?_
  by_cases h0 : twoErr g a b = 0
  · obtain ⟨hG, ha, hb', _⟩ := two_ok h0
    have hN := net_ok hG
    have hm := net_mutual hG
    have hm' := net_mutual' hG
    rw [h0, if_pos rfl, if_pos rfl, if_pos rfl] at hT
    rw [h0, if_pos rfl, if_pos rfl]
    have hS := steps_f (allDeps g) [nIdx g a] g.length hN.dl hN.nl (fun r hr => by have := hN.dr r hr; exact ⟨by omega, this.2⟩) (sing_lt ha) (by simp)
    have hlen := (steps_spec (E := allDeps g) (from_ := [nIdx g a]) (rowD_lt hN) (sing_lt ha)).len
    have ht := turn0 hN hm hm' ha hb'
    have hW : 0 ≤ (stepsV (usersOf g) g.length [nIdx g b]).getD (nIdx g a) 0 → FRet Tryd.prog 39 [.f (fNet g (allDeps g) (usersOf g)), .f (fN (nIdx g a)), .f (fN (nIdx g b))] [.c (.v (frN (whyL g a b)))] := fun h => way_f g (allDeps g) (usersOf g) (nIdx g a) (nIdx g b) hN hm ha hb' h
    have hwo := way_ok hN ha hb'
    have hL := labels_f g (allDeps g) (usersOf g) (whyL g a b) (by have := hwo.1; unfold whyL; omega) hwo.2
    have hi : whyIs g a b = decide (0 ≤ (stepsV (allDeps g) g.length [nIdx g a]).getD (nIdx g b) 0) := rfl
    change FRet Tryd.prog 27 [.f (netOf g), _] _ at hL
    generalize whyL g a b = w at *
    generalize stepsV (allDeps g) g.length [nIdx g a] = F at *
    obtain ⟨z, hz⟩ := get_some (l := F) (i := nIdx g b) (by omega)
    rw [getD_some hz] at hi ht
    rw [hi]
    have hfz : fI z = FV.int .i64 z := rfl
    have d1 := lt_t hb'
    clear hwo
    replace ht := hide ht
    replace hN := hide hN
    replace hG := hide hG
    replace hm := hide hm
    replace hm' := hide hm'
    replace hi := hide hi
    unfold netOf fNet fN at *
    have hWx := fun h => hW (ht.out.1 h)
    replace hW := hide hW
    cases q : decide (0 ≤ z)
    · have q2 : decide (z < 0) = true := by rw [decide_eq_true_eq]; rw [decide_eq_false_iff_not] at q; omega
      replace hWx := hide hWx
      rw [if_neg (by decide)]
      repeat' (first
        | (simp -implicitDefEqProofs only [*, zr, Nat.reduceAdd, Nat.reduceSub, Nat.reduceMul, Nat.reduceLT, Nat.reduceLeDiff, Nat.reduceEqDiff, Nat.reduceBEq, reduceIte, reduceCtorEq, Int.reduceLE, Int.reduceLT, Int.reduceToNat, Int.reduceEq, Int.reduceNe])
        | ((first | apply condS_splitN | apply condS_split | apply guardS_splitTN | apply guardS_splitFN | apply guardD_splitTN | apply guardD_splitFN | apply guardS_splitT | apply guardS_splitF | apply guardD_splitT | apply guardD_splitF) <;> intro hc)
        | (refine callP0 rfl ?_)
        | (refine callD0 rfl ?_)
        | (refine cP (hT) ?_)
        | (refine cD (hT) ?_)
        | (refine cF (hT) ?_)
        | fail)
      refine ax_weakA [] (nw := []) (n := 42) (el := [(9, .f (.fp [frNodes g, frRows (allDeps g), frRows (usersOf g)])), (10, .f (.int .i64 (nIdx g a))), (11, .f (.int .i64 (nIdx g b))), (28, .f (frRows (allDeps g))), (30, .f (frN [nIdx g a]))]) (hl := []) rfl ?_ ?_
      · refine ⟨rfl, (by repeat (first | exact small_0 | exact small_mk rfl | refine small_upd rfl ?_)), rfl, rfl, rfl, ?_, trivial⟩
        repeat (first | exact trivial | refine And.intro (by decide) ?_ | refine And.intro (so_one rfl rfl) ?_ | refine And.intro (Or.inl rfl) ?_)
      repeat' (first
        | (simp -implicitDefEqProofs only [*, List.getElem?_map, Option.map_some, frI, zr, Nat.reduceAdd, Nat.reduceSub, Nat.reduceMul, Nat.reduceLT, Nat.reduceLeDiff, Nat.reduceEqDiff, Nat.reduceBEq, reduceIte, reduceCtorEq, Int.reduceLE, Int.reduceLT, Int.reduceToNat, Int.reduceEq, Int.reduceNe])
        | ((first | apply condS_splitN | apply condS_split | apply guardS_splitTN | apply guardS_splitFN | apply guardD_splitTN | apply guardD_splitFN | apply guardS_splitT | apply guardS_splitF | apply guardD_splitT | apply guardD_splitF) <;> intro hc)
        | (refine callP0 rfl ?_)
        | (refine callD0 rfl ?_)
        | (refine cP (hS) ?_)
        | (refine cD (hS) ?_)
        | (refine cF (hS) ?_)
        | fail)
      exact ret_vvve rfl rfl rfl
    · have q2 : decide (z < 0) = false := by rw [decide_eq_false_iff_not]; rw [decide_eq_true_eq] at q; omega
      have hW1 := hWx (of_decide_eq_true q)
      replace hWx := hide hWx
      rw [if_pos rfl]
      repeat' (first
        | (simp -implicitDefEqProofs only [*, zr, Nat.reduceAdd, Nat.reduceSub, Nat.reduceMul, Nat.reduceLT, Nat.reduceLeDiff, Nat.reduceEqDiff, Nat.reduceBEq, reduceIte, reduceCtorEq, Int.reduceLE, Int.reduceLT, Int.reduceToNat, Int.reduceEq, Int.reduceNe])
        | ((first | apply condS_splitN | apply condS_split | apply guardS_splitTN | apply guardS_splitFN | apply guardD_splitTN | apply guardD_splitFN | apply guardS_splitT | apply guardS_splitF | apply guardD_splitT | apply guardD_splitF) <;> intro hc)
        | (refine callP0 rfl ?_)
        | (refine callD0 rfl ?_)
        | (refine cP (hT) ?_)
        | (refine cD (hT) ?_)
        | (refine cF (hT) ?_)
        | fail)
      refine ax_weakA [] (nw := []) (n := 42) (el := [(9, .f (.fp [frNodes g, frRows (allDeps g), frRows (usersOf g)])), (10, .f (.int .i64 (nIdx g a))), (11, .f (.int .i64 (nIdx g b))), (28, .f (frRows (allDeps g))), (30, .f (frN [nIdx g a]))]) (hl := []) rfl ?_ ?_
      · refine ⟨rfl, (by repeat (first | exact small_0 | exact small_mk rfl | refine small_upd rfl ?_)), rfl, rfl, rfl, ?_, trivial⟩
        repeat (first | exact trivial | refine And.intro (by decide) ?_ | refine And.intro (so_one rfl rfl) ?_ | refine And.intro (Or.inl rfl) ?_)
      repeat' (first
        | (simp -implicitDefEqProofs only [*, List.getElem?_map, Option.map_some, frI, zr, Nat.reduceAdd, Nat.reduceSub, Nat.reduceMul, Nat.reduceLT, Nat.reduceLeDiff, Nat.reduceEqDiff, Nat.reduceBEq, reduceIte, reduceCtorEq, Int.reduceLE, Int.reduceLT, Int.reduceToNat, Int.reduceEq, Int.reduceNe])
        | ((first | apply condS_splitN | apply condS_split | apply guardS_splitTN | apply guardS_splitFN | apply guardD_splitTN | apply guardD_splitFN | apply guardS_splitT | apply guardS_splitF | apply guardD_splitT | apply guardD_splitF) <;> intro hc)
        | (refine callP0 rfl ?_)
        | (refine callD0 rfl ?_)
        | (refine cP (hS) ?_)
        | (refine cD (hS) ?_)
        | (refine cF (hS) ?_)
        | (refine cP (hW1) ?_)
        | (refine cD (hW1) ?_)
        | (refine cF (hW1) ?_)
        | (refine cP (hL) ?_)
        | (refine cD (hL) ?_)
        | (refine cF (hL) ?_)
        | fail)
      exact ret_vvve rfl rfl rfl
  · rw [if_neg h0, if_neg h0, if_neg h0] at hT
    rw [if_neg h0, if_neg h0]
    have hd := dec_f h0
    generalize twoErr g a b = e at *
    unfold fN at hT
    repeat' (first
      | (simp -implicitDefEqProofs only [*, zr, Nat.reduceAdd, Nat.reduceSub, Nat.reduceMul, Nat.reduceLT, Nat.reduceLeDiff, Nat.reduceEqDiff, Nat.reduceBEq, reduceIte, reduceCtorEq, Int.reduceLE, Int.reduceLT, Int.reduceToNat, Int.reduceEq, Int.reduceNe])
      | ((first | apply condS_splitN | apply condS_split | apply guardS_splitTN | apply guardS_splitFN | apply guardD_splitTN | apply guardD_splitFN | apply guardS_splitT | apply guardS_splitF | apply guardD_splitT | apply guardD_splitF) <;> intro hc)
      | (refine callP0 rfl ?_)
      | (refine callD0 rfl ?_)
      | (refine cP (hT) ?_)
      | (refine cD (hT) ?_)
      | (refine cF (hT) ?_)
      | fail)
    exact ret_vvve rfl rfl rfl
def btP (Fd Fu : List Int) (i : Nat) : Bool := decide (0 ≤ Fd.getD i 0) && decide (0 ≤ Fu.getD i 0)
def btwV (D U : List (List Nat)) (n a b : Nat) : List Nat := (List.range n).filter (btP (stepsV D n [a]) (stepsV U n [b]))
theorem between_f (g : Graph) (D U : List (List Nat)) (a b : Nat) (hN : NetOk g.length D U) (ha : a < g.length) (hb : b < g.length) : FRet Tryd.prog 40 [.f (fNet g D U), .f (frN [a]), .f (frN [b])] [.c (.v (frN (btwV D U g.length a b)))] := by
  have hS1 := steps_f D [a] g.length hN.dl hN.nl (fun r hr => by have := hN.dr r hr; exact ⟨by omega, this.2⟩) (sing_lt ha) (by simp)
  have hS2 := steps_f U [b] g.length hN.ul hN.nl (fun r hr => hN.ur r hr) (sing_lt hb) (by simp)
  have hl1 := (steps_spec (E := D) (from_ := [a]) (rowD_lt hN) (sing_lt ha)).len
  have hl2 := (steps_spec (E := U) (from_ := [b]) (rowU_lt hN) (sing_lt hb)).len
  have hn := hN.nl
  unfold btwV
  generalize stepsV D g.length [a] = F at *
  generalize stepsV U g.length [b] = G at *
  refine FCall.of_ax low_graph_net_between ?_
  dsimp only [l_graph_net_between, fNet]
  refine srun_sound 300 _ _ _ _ ?_
  replace hN := hide hN
  repeat' (first
    | (simp -implicitDefEqProofs only [*, frI, frNodes, zr, Nat.reduceAdd, Nat.reduceSub, Nat.reduceMul, Nat.reduceLT, Nat.reduceLeDiff, Nat.reduceEqDiff, Nat.reduceBEq, reduceIte, reduceCtorEq, Int.reduceLE, Int.reduceLT, Int.reduceToNat, Int.reduceEq, Int.reduceNe])
    | ((first | apply condS_splitN | apply condS_split | apply guardS_splitTN | apply guardS_splitFN | apply guardD_splitTN | apply guardD_splitFN | apply guardS_splitT | apply guardS_splitF | apply guardD_splitT | apply guardD_splitF) <;> intro hc)
    | (refine callP0 rfl ?_)
    | (refine callD0 rfl ?_)
    | (refine cP (hS1) ?_)
    | (refine cD (hS1) ?_)
    | (refine cF (hS1) ?_)
    | (refine cP (hS2) ?_)
    | (refine cD (hS2) ?_)
    | (refine cF (hS2) ?_)
    | fail)
  have hlim : ∀ s, s ≤ g.length → ((List.range s).filter (btP F G)).length ≤ s := fun s hs => by
    have := List.length_filter_le (btP F G) (List.range s)
    rwa [List.length_range] at this
  refine ax_loopU (S := Nat) 49 [7, 8, 27] [] (fun s => [(9, .sl 46 1 1 0 ((List.range s).filter (btP F G)).length), (28, .f (.int .i64 s))]) (fun s => [(46, 1, .cells ((((List.range s).filter (btP F G)).map fN).map .f))]) (fun s => s ≤ g.length) (fun s => g.length - s) (0) [46] ?_ ?_ fun s hs => ?_
  · exact Nat.zero_le _
  · refine ⟨rfl, (by first | exact small_0 | exact small_mk rfl | (repeat (first | exact small_0 | exact small_mk rfl | refine small_upd rfl ?_ | refine small_sw rfl rfl ?_))), rfl, rfl, (by rfl), ?_, ?_⟩ <;> simp only [List.range_zero, List.filter_nil, zw, swN, ElOk, HlOk, Nat.reduceEqDiff, Nat.reduceBEq, Nat.reduceLT, Nat.reduceLeDiff, reduceIte, reduceCtorEq, H0, AObj.cells.injEq]
  rcases Nat.lt_or_ge s g.length with hlt | hge
  · refine srun_sound 300 _ _ _ _ ?_
    obtain ⟨z, hz⟩ := get_some (l := F) (i := s) (by omega)
    obtain ⟨y, hy⟩ := get_some (l := G) (i := s) (by omega)
    have h4 := inc64 hlt (by omega)
    have h2 := lt_t hlt
    have hfz : fI z = FV.int .i64 z := rfl
    have hfy : fI y = FV.int .i64 y := rfl
    have hL := hlim s hs
    have hnx : (List.range (s + 1)).filter (btP F G) = (List.range s).filter (btP F G) ++ (if btP F G s = true then [s] else []) := by
      rw [List.range_succ, List.filter_append, List.filter_cons, List.filter_nil]
    have hin : btP F G s = (decide (0 ≤ z) && decide (0 ≤ y)) := by unfold btP; rw [getD_some hz, getD_some hy]
    have hst : (((List.range s).filter (btP F G)).map fN).map AV.f ++ [.f (.int .i64 s)] = ((((List.range s).filter (btP F G)) ++ [s]).map fN).map AV.f := by simp [fN]
    have hlen : (((List.range s).filter (btP F G)) ++ [s]).length = ((List.range s).filter (btP F G)).length + 1 := by simp
    replace hlim := hide hlim
    generalize (List.range s).filter (btP F G) = L at *
    have hk8 := nle_t (show (L.length + 1) * 8 ≤ 140737488355328 by omega)
    cases q1 : decide (0 ≤ z) <;> cases q2 : decide (0 ≤ y)
    all_goals (
      rw [q1, q2] at hin
      simp only [Bool.and_true, Bool.true_and, Bool.and_false, Bool.false_and] at hin
      rw [hin] at hnx
      replace hin := hide hin)
    all_goals (first | (rw [if_pos rfl] at hnx) | (rw [if_neg (by decide), List.append_nil] at hnx))
    all_goals replace hnx := hide hnx
    repeat' (first
      | (simp -implicitDefEqProofs only [*, List.getElem?_map, Option.map_some, zr, Nat.reduceAdd, Nat.reduceSub, Nat.reduceMul, Nat.reduceLT, Nat.reduceLeDiff, Nat.reduceEqDiff, Nat.reduceBEq, reduceIte, reduceCtorEq, Int.reduceLE, Int.reduceLT, Int.reduceToNat, Int.reduceEq, Int.reduceNe])
      | ((first | apply condS_splitN | apply condS_split | apply guardS_splitTN | apply guardS_splitFN | apply guardD_splitTN | apply guardD_splitFN | apply guardS_splitT | apply guardS_splitF | apply guardD_splitT | apply guardD_splitF) <;> intro hc)
      | (refine callP0 rfl ?_)
      | (refine callD0 rfl ?_)
      | fail)
    all_goals (refine ⟨s + 1, hlt, by omega, ?_⟩; rw [hnx.out])
    all_goals (try rw [hlen])
    all_goals refine ⟨rfl, (by first | exact small_0 | exact small_mk rfl | (repeat (first | exact small_0 | exact small_mk rfl | refine small_upd rfl ?_ | refine small_sw rfl rfl ?_))), rfl, rfl, (by rfl), ?_, ?_⟩ <;> simp only [hst, zw, swN, ElOk, HlOk, Nat.reduceEqDiff, Nat.reduceBEq, Nat.reduceLT, Nat.reduceLeDiff, reduceIte, reduceCtorEq, H0, AObj.cells.injEq]
  obtain rfl : s = g.length := by omega
  have h2 := lt_f hge
  refine ax_weak (nw := []) (n := 49) (el := [(9, .f (frN ((List.range g.length).filter (btP F G)))), (27, .f (.int .i64 g.length)), (28, .f (.int .i64 g.length))]) (hl := []) ?_ ?_
  · refine ⟨rfl, small_mk rfl, rfl, rfl, rfl, ⟨by decide, ?_, by decide, .inl rfl, by decide, .inl rfl, trivial⟩, trivial⟩
    have hso : ∀ L : List Nat, SlotOk (mkH [(46, 1, .cells ((L.map fN).map .f))]) (mkH []) [] (.sl 46 1 1 0 L.length) (.f (frN L)) := fun L => by
      rw [frN_eq]; exact so_cells1 (l := L.map fN) rfl rfl (List.length_map _)
    exact hso _
  refine srun_sound 300 _ _ _ _ ?_
  repeat' (first
    | (simp -implicitDefEqProofs only [*, frN, zr, Nat.reduceAdd, Nat.reduceSub, Nat.reduceMul, Nat.reduceLT, Nat.reduceLeDiff, Nat.reduceEqDiff, Nat.reduceBEq, reduceIte, reduceCtorEq, Int.reduceLE, Int.reduceLT, Int.reduceToNat, Int.reduceEq, Int.reduceNe])
    | ((first | apply condS_splitN | apply condS_split | apply guardS_splitTN | apply guardS_splitFN | apply guardD_splitTN | apply guardD_splitFN | apply guardS_splitT | apply guardS_splitF | apply guardD_splitT | apply guardD_splitF) <;> intro hc)
    | (refine callP0 rfl ?_)
    | (refine callD0 rfl ?_)
    | fail)
  exact ret_ve rfl
def btwOf (g : Graph) (a b : ByteArray) : List Nat := btwV (allDeps g) (usersOf g) g.length (nIdx g a) (nIdx g b)
theorem btw_lt {D U : List (List Nat)} {n a b : Nat} : (btwV D U n a b).length ≤ n ∧ ∀ k ∈ btwV D U n a b, k < n := by
  refine ⟨?_, fun k hk => List.mem_range.1 (List.mem_filter.1 hk).1⟩
  have := List.length_filter_le (btP (stepsV D n [a]) (stepsV U n [b])) (List.range n)
  rwa [List.length_range] at this
theorem Between_f (g : Graph) (hb : GBound g) (a b : ByteArray) : FRet Tryd.prog 20 [.f (frNodes g), .f (.str a), .f (.str b)]
    [.c (.v (if twoErr g a b = 0 then frStrs ((btwOf g a b).map (labN g)) else .nil)), .c (.v (.int .i64 (twoErr g a b)))] := by
  have hT := two_f g hb a b
  refine FCall.of_ax low_graph_Between ?_
  dsimp only [l_graph_Between]
  refine srun_sound 300 _ _ _ _ ?_
  by_cases h0 : twoErr g a b = 0
  · obtain ⟨hG, ha, hb', _⟩ := two_ok h0
    have hN := net_ok hG
    have hnl := hN.nl
    rw [h0, if_pos rfl, if_pos rfl, if_pos rfl] at hT
    rw [h0, if_pos rfl]
    have hS := between_f g (allDeps g) (usersOf g) (nIdx g a) (nIdx g b) hN ha hb'
    change FRet Tryd.prog 40 _ [.c (.v (frN (btwOf g a b)))] at hS
    have hL := labels_f g (allDeps g) (usersOf g) (btwOf g a b) (by have := (btw_lt (D := allDeps g) (U := usersOf g) (n := g.length) (a := nIdx g a) (b := nIdx g b)).1; unfold btwOf; omega) btw_lt.2
    generalize btwOf g a b = w at *
    replace hN := hide hN
    replace hG := hide hG
    have hfa : fN (nIdx g a) = .int .i64 (nIdx g a) := rfl
    have hfb : fN (nIdx g b) = .int .i64 (nIdx g b) := rfl
    change FRet Tryd.prog 37 _ [.c (.v (fNet g (allDeps g) (usersOf g))), _, _, _] at hT
    repeat' (first
      | (simp -implicitDefEqProofs only [*, zr, Nat.reduceAdd, Nat.reduceSub, Nat.reduceMul, Nat.reduceLT, Nat.reduceLeDiff, Nat.reduceEqDiff, Nat.reduceBEq, reduceIte, reduceCtorEq, Int.reduceLE, Int.reduceLT, Int.reduceToNat, Int.reduceEq, Int.reduceNe])
      | ((first | apply condS_splitN | apply condS_split | apply guardS_splitTN | apply guardS_splitFN | apply guardD_splitTN | apply guardD_splitFN | apply guardS_splitT | apply guardS_splitF | apply guardD_splitT | apply guardD_splitF) <;> intro hc)
      | (refine callP0 rfl ?_)
      | (refine callD0 rfl ?_)
      | (refine cP (hT) ?_)
      | (refine cD (hT) ?_)
      | (refine cF (hT) ?_)
      | fail)
    refine ax_weakA [] (nw := []) (n := 32) (el := [(24, .f (fNet g (allDeps g) (usersOf g))), (25, .f (fNet g (allDeps g) (usersOf g))), (27, .f (frN [nIdx g a])), (29, .f (frN [nIdx g b]))]) (hl := []) rfl ?_ ?_
    · refine ⟨rfl, (by repeat (first | exact small_0 | exact small_mk rfl | refine small_upd rfl ?_)), rfl, rfl, rfl, ?_, trivial⟩
      repeat (first | exact trivial | refine And.intro (by decide) ?_ | refine And.intro (so_one rfl rfl) ?_ | refine And.intro (Or.inl rfl) ?_)
    repeat' (first
      | (simp -implicitDefEqProofs only [*, zr, Nat.reduceAdd, Nat.reduceSub, Nat.reduceMul, Nat.reduceLT, Nat.reduceLeDiff, Nat.reduceEqDiff, Nat.reduceBEq, reduceIte, reduceCtorEq, Int.reduceLE, Int.reduceLT, Int.reduceToNat, Int.reduceEq, Int.reduceNe])
      | ((first | apply condS_splitN | apply condS_split | apply guardS_splitTN | apply guardS_splitFN | apply guardD_splitTN | apply guardD_splitFN | apply guardS_splitT | apply guardS_splitF | apply guardD_splitT | apply guardD_splitF) <;> intro hc)
      | (refine callP0 rfl ?_)
      | (refine callD0 rfl ?_)
      | (refine cP (hS) ?_)
      | (refine cD (hS) ?_)
      | (refine cF (hS) ?_)
      | (refine cP (hL) ?_)
      | (refine cD (hL) ?_)
      | (refine cF (hL) ?_)
      | fail)
    exact ret_vve rfl rfl
  · rw [if_neg h0, if_neg h0, if_neg h0] at hT
    rw [if_neg h0]
    have hd := dec_f h0
    generalize twoErr g a b = e at *
    unfold fN at hT
    repeat' (first
      | (simp -implicitDefEqProofs only [*, zr, Nat.reduceAdd, Nat.reduceSub, Nat.reduceMul, Nat.reduceLT, Nat.reduceLeDiff, Nat.reduceEqDiff, Nat.reduceBEq, reduceIte, reduceCtorEq, Int.reduceLE, Int.reduceLT, Int.reduceToNat, Int.reduceEq, Int.reduceNe])
      | ((first | apply condS_splitN | apply condS_split | apply guardS_splitTN | apply guardS_splitFN | apply guardD_splitTN | apply guardD_splitFN | apply guardS_splitT | apply guardS_splitF | apply guardD_splitT | apply guardD_splitF) <;> intro hc)
      | (refine callP0 rfl ?_)
      | (refine callD0 rfl ?_)
      | (refine cP (hT) ?_)
      | (refine cD (hT) ?_)
      | (refine cF (hT) ?_)
      | fail)
    exact ret_vve rfl rfl
end Go.Proofs.YtaiajaibcpkceaaDoor
