/-
  Longest on the machine. No statement of the seat is proved here; no conditions.
-/
import Derived.Test.YtaiajaibcpkceaaDoorGrRv
namespace Go.Proofs.YtaiajaibcpkceaaDoor
open Go.RowKit Go.Shelf
set_option linter.unusedVariables false
set_option linter.unusedSimpArgs false
set_option maxRecDepth 100000

def downV (g : Graph) : List Int := sumsV (allDeps g) (wkOf g) g.length ((orderOf g).getD [])
def topP (U : List (List Nat)) (i : Nat) : Bool := decide ((U.getD i []).length = 0)
def topsV (g : Graph) : List Nat := (List.range g.length).filter (topP (usersOf g))
def longGo (D : List (List Nat)) (S : List Int) : Nat → Nat → List Nat
  | 0, _ => []
  | m + 1, i => if (D.getD i []).length = 0 then [] else bestS S (D.getD i []) :: longGo D S m (bestS S (D.getD i []))
def longV (g : Graph) : List Nat := bestS (downV g) (topsV g) :: longGo (allDeps g) (downV g) g.length (bestS (downV g) (topsV g))
theorem pos_lt {g : Graph} {o : List Nat} (h : TOk g o) {i d : Nat} (hi : i < g.length) (hd : d ∈ (allDeps g).getD i []) : o.idxOf d < o.idxOf i := by
  have him := nd_all h.nd h.lt h.len hi
  have h1 := List.idxOf_lt_length_iff.2 him
  have h2 : o[o.idxOf i]? = some i := by rw [List.getElem?_eq_getElem h1, List.getElem_idxOf]
  obtain ⟨q, hq⟩ := List.mem_iff_getElem?.1 (h.bd _ i h2 d hd)
  have hqk : q < o.idxOf i := by have := (List.getElem?_eq_some_iff.1 hq).1; rw [List.length_take] at this; omega
  rw [List.getElem?_take_of_lt hqk] at hq
  obtain ⟨a1, a2⟩ := List.getElem?_eq_some_iff.1 hq
  have : o.idxOf d ≤ q := by rw [← a2, h.nd.idxOf_getElem]; exact Nat.le_refl _
  omega
theorem pos_n {g : Graph} {o : List Nat} (h : TOk g o) {i : Nat} (hi : i < g.length) : o.idxOf i < g.length := by
  have := List.idxOf_lt_length_iff.2 (nd_all h.nd h.lt h.len hi)
  rwa [h.len] at this
/-- Somebody is needed by nobody. -/
theorem tops_ne {g : Graph} {o : List Nat} (h : TOk g o) (hn : 0 < g.length) : topsV g ≠ [] ∧ ∀ k ∈ topsV g, k < g.length ∧ (usersOf g).getD k [] = [] := by
  have hmem : ∀ k, k ∈ topsV g ↔ k < g.length ∧ (usersOf g).getD k [] = [] := fun k => by
    rw [topsV, List.mem_filter, List.mem_range, topP, decide_eq_true_eq, List.length_eq_zero_iff]
  refine ⟨fun e => ?_, fun k hk => (hmem k).1 hk⟩
  obtain ⟨t, ht⟩ : ∃ t, o[g.length - 1]? = some t := ⟨_, List.getElem?_eq_getElem (by have := h.len; omega)⟩
  have htn := h.lt t (List.mem_of_getElem? ht)
  have : t ∈ topsV g := by
    rw [hmem]
    refine ⟨htn, ?_⟩
    cases e : (usersOf g).getD t [] with
    | nil => rfl
    | cons u r =>
      have hu : u ∈ (usersOf g).getD t [] := by rw [e]; exact List.mem_cons_self ..
      have hun := rowU_lt h.net t u hu
      have hd := net_mutual h.ok t u htn hun hu
      have h1 := pos_lt h hun hd
      have h2 := pos_n h hun
      obtain ⟨a1, a2⟩ := List.getElem?_eq_some_iff.1 ht
      have h3 : o.idxOf t = g.length - 1 := by rw [← a2, h.nd.idxOf_getElem]
      omega
  rw [e] at this; cases this
theorem longGo_lt {D : List (List Nat)} {S : List Int} {n : Nat} (hD : ∀ i, ∀ k ∈ D.getD i [], k < n) : ∀ (m i k : Nat), k ∈ longGo D S m i → k < n
  | 0, i, k, h => by cases h
  | m + 1, i, k, h => by
    rw [longGo] at h
    split at h
    · cases h
    · rename_i hz
      rcases List.mem_cons.1 h with rfl | h
      · exact hD i _ (bestS_spec (fun e => hz (by rw [e]; rfl))).1
      · exact longGo_lt hD m _ k h
theorem rowD_len {D : List (List Nat)} {i : Nat} {row : List Nat} (h : D[i]? = some row) : (D.getD i []).length = row.length := by rw [getD_some h]
theorem Longest_f (g : Graph) (hb : GBound g) : FRet Tryd.prog 9 [.f (frNodes g)] [.c (.v (if treeErr g = 0 ∧ 0 < g.length then frStrs ((longV g).map (labN g)) else .nil)), .c (.v (.int .i64 (if treeErr g = 0 ∧ 0 < g.length then (downV g).getD (bestS (downV g) (topsV g)) 0 else 0))), .c (.v (.int .i64 (treeErr g)))] := by
  have hT := tree_f g hb
  refine FCall.of_ax low_graph_Longest ?_
  dsimp only [l_graph_Longest]
  refine srun_sound 300 _ _ _ _ ?_
  by_cases h0 : treeErr g = 0
  · rw [h0, if_pos rfl, if_pos rfl] at hT
    rw [h0]
    by_cases hn : 0 < g.length
    · rw [if_pos ⟨rfl, hn⟩, if_pos ⟨rfl, hn⟩]
      obtain ⟨o, hK⟩ := tok_of h0
      have hgl := hK.ok.len
      have hol := hK.len
      have hDl := hK.net.dl
      have hUl := hK.net.ul
      rw [hK.ord] at hT
      dsimp only [ordR] at hT
      have hSu := sums_f g (allDeps g) (usersOf g) (allDeps g) o hgl hK.net.dl (fun r hr => by have := hK.net.dr r hr; exact ⟨by omega, this.2⟩) (self_of hK.nd hK.lt hol hK.bd hK.net.dl) hK.lt (by omega) hK.wk
      have hdv : downV g = sumsV (allDeps g) (wkOf g) g.length o := by unfold downV; rw [hK.ord]; rfl
      rw [← hdv] at hSu
      have hSl : (downV g).length = g.length := by rw [hdv]; unfold sumsV; rw [sums_len, List.length_replicate]
      obtain ⟨ht1, ht2⟩ := tops_ne hK hn
      have hlv : longV g = bestS (downV g) (topsV g) :: longGo (allDeps g) (downV g) g.length (bestS (downV g) (topsV g)) := rfl
      have htv : topsV g = (List.range g.length).filter (topP (usersOf g)) := rfl
      have hb0 := bestS_spec (S := downV g) ht1
      have hb0n := (ht2 _ hb0.1).1
      have htl : 0 < (topsV g).length := List.length_pos_iff.2 ht1
      have htll : (topsV g).length ≤ g.length := by
        have := List.length_filter_le (topP (usersOf g)) (List.range g.length)
        rwa [List.length_range] at this
      have hB0 := best_f (downV g) (topsV g) g.length hSl (fun k hk => (ht2 k hk).1) htl (by omega)
      have hBr := fun l h1 h2 h3 => best_f (downV g) l g.length hSl h1 h2 h3
      have hLb := fun l h1 h2 => labels_f g (allDeps g) (usersOf g) l h1 h2
      have hpl := fun i d h1 h2 => pos_lt hK (i := i) (d := d) h1 h2
      have hpn := fun i h1 => pos_n hK (i := i) h1
      have hrow := fun i (h : i < g.length) => get_some (l := allDeps g) (i := i) (by omega)
      have hrl := fun r hr => hK.net.dr r hr
      have hWlt : ∀ k ∈ longV g, k < g.length := fun k hk => by
        rcases List.mem_cons.1 hk with rfl | hk
        · exact hb0n
        · exact longGo_lt (rowD_lt hK.net) _ _ k hk
      clear hdv hol
      generalize downV g = S at *
      generalize topsV g = T at *
      generalize longV g = W at *
      replace hWlt := hide hWlt
      replace hK := hide hK
      replace hb0 := hide hb0
      replace ht2 := hide ht2
      replace hBr := hide hBr
      replace hLb := hide hLb
      replace hpl := hide hpl
      replace hpn := hide hpn
      replace hrow := hide hrow
      replace hrl := hide hrl
      replace hlv := hide hlv
      replace htv := hide htv
      have dn : decide ((g.length : Int) = 0) = false := dec_f (by omega)
      unfold netOf fNet at *
      change FRet Tryd.prog 24 _ [.c (.v (.fp [frNodes g, frRows (allDeps g), frRows (usersOf g)])), _, _] at hT
      unfold frNodes at *
      have hfo : (frI S).isOne = true := rfl
      repeat' (first
        | (simp -implicitDefEqProofs only [*, frRows, zr, Nat.reduceAdd, Nat.reduceSub, Nat.reduceMul, Nat.reduceLT, Nat.reduceLeDiff, Nat.reduceEqDiff, Nat.reduceBEq, reduceIte, reduceCtorEq, Int.reduceLE, Int.reduceLT, Int.reduceToNat, Int.reduceEq, Int.reduceNe])
        | ((first | apply condS_splitN | apply condS_split | apply guardS_splitTN | apply guardS_splitFN | apply guardD_splitTN | apply guardD_splitFN | apply guardS_splitT | apply guardS_splitF | apply guardD_splitT | apply guardD_splitF) <;> intro hc)
        | (refine callP0 rfl ?_)
        | (refine callD0 rfl ?_)
        | (refine cP (hT) ?_)
        | (refine cD (hT) ?_)
        | (refine cF (hT) ?_)
        | (refine cP (hSu) ?_)
        | (refine cD (hSu) ?_)
        | (refine cF (hSu) ?_)
        | fail)
      refine ax_loopU (S := Nat) 91 [5, 8, 39, 40] [8] (fun s => [(9, .sl 52 1 1 0 ((List.range s).filter (topP (usersOf g))).length), (41, .f (.int .i64 s))]) (fun s => [(52, 1, .cells ((((List.range s).filter (topP (usersOf g))).map fN).map .f))]) (fun s => s ≤ g.length) (fun s => g.length - s) (0) [52] ?_ ?_ fun s hs => ?_
      · exact Nat.zero_le _
      · refine ⟨rfl, (by first | exact small_0 | exact small_mk rfl | (repeat (first | exact small_0 | exact small_mk rfl | refine small_upd rfl ?_ | refine small_sw rfl rfl ?_))), rfl, rfl, (by rfl), ?_, ?_⟩ <;> simp only [List.range_zero, List.filter_nil, zw, swN, ElOk, HlOk, Nat.reduceEqDiff, Nat.reduceBEq, Nat.reduceLT, Nat.reduceLeDiff, reduceIte, reduceCtorEq, H0, AObj.cells.injEq]
      have hlim : ∀ s, s ≤ g.length → ((List.range s).filter (topP (usersOf g))).length ≤ s := fun s hs => by
        have := List.length_filter_le (topP (usersOf g)) (List.range s)
        rwa [List.length_range] at this
      replace hlim := hide hlim
      rcases Nat.lt_or_ge s g.length with hlt | hge
      · refine srun_sound 300 _ _ _ _ ?_
        obtain ⟨row, hr⟩ := get_some (l := usersOf g) (i := s) (by omega)
        have h4 := inc64 hlt (by omega)
        have h2 := lt_t hlt
        have hL := hlim.out s hs
        have hnx : (List.range (s + 1)).filter (topP (usersOf g)) = (List.range s).filter (topP (usersOf g)) ++ (if topP (usersOf g) s = true then [s] else []) := by
          rw [List.range_succ, List.filter_append, List.filter_cons, List.filter_nil]
        have hin : topP (usersOf g) s = decide (row.length = 0) := by unfold topP; rw [getD_some hr]
        have hst : (((List.range s).filter (topP (usersOf g))).map fN).map AV.f ++ [.f (.int .i64 s)] = ((((List.range s).filter (topP (usersOf g))) ++ [s]).map fN).map AV.f := by simp [fN]
        have hlen : (((List.range s).filter (topP (usersOf g))) ++ [s]).length = ((List.range s).filter (topP (usersOf g))).length + 1 := by simp
        generalize (List.range s).filter (topP (usersOf g)) = L at *
        have hk8 := nle_t (show (L.length + 1) * 8 ≤ 140737488355328 by omega)
        have hrz : decide ((row.length : Int) = 0) = decide (row.length = 0) := by rw [decide_eq_decide]; omega
        rw [hin] at hnx
        replace hin := hide hin
        cases q : decide (row.length = 0)
        · rw [q, if_neg (by decide), List.append_nil] at hnx
          replace hnx := hide hnx
          repeat' (first
            | (simp -implicitDefEqProofs only [*, List.getElem?_map, Option.map_some, frN, zr, Nat.reduceAdd, Nat.reduceSub, Nat.reduceMul, Nat.reduceLT, Nat.reduceLeDiff, Nat.reduceEqDiff, Nat.reduceBEq, reduceIte, reduceCtorEq, Int.reduceLE, Int.reduceLT, Int.reduceToNat, Int.reduceEq, Int.reduceNe])
            | ((first | apply condS_splitN | apply condS_split | apply guardS_splitTN | apply guardS_splitFN | apply guardD_splitTN | apply guardD_splitFN | apply guardS_splitT | apply guardS_splitF | apply guardD_splitT | apply guardD_splitF) <;> intro hc)
            | (refine callP0 rfl ?_)
            | (refine callD0 rfl ?_)
            | fail)
          refine ⟨s + 1, hlt, by omega, ?_⟩
          rw [hnx.out]
          refine ⟨rfl, (by first | exact small_0 | exact small_mk rfl | (repeat (first | exact small_0 | exact small_mk rfl | refine small_upd rfl ?_ | refine small_sw rfl rfl ?_))), rfl, rfl, (by rfl), ?_, ?_⟩ <;> simp only [zw, swN, ElOk, HlOk, Nat.reduceEqDiff, Nat.reduceBEq, Nat.reduceLT, Nat.reduceLeDiff, reduceIte, reduceCtorEq, H0, AObj.cells.injEq]
        · rw [q, if_pos rfl] at hnx
          replace hnx := hide hnx
          repeat' (first
            | (simp -implicitDefEqProofs only [*, List.getElem?_map, Option.map_some, frN, zr, Nat.reduceAdd, Nat.reduceSub, Nat.reduceMul, Nat.reduceLT, Nat.reduceLeDiff, Nat.reduceEqDiff, Nat.reduceBEq, reduceIte, reduceCtorEq, Int.reduceLE, Int.reduceLT, Int.reduceToNat, Int.reduceEq, Int.reduceNe])
            | ((first | apply condS_splitN | apply condS_split | apply guardS_splitTN | apply guardS_splitFN | apply guardD_splitTN | apply guardD_splitFN | apply guardS_splitT | apply guardS_splitF | apply guardD_splitT | apply guardD_splitF) <;> intro hc)
            | (refine callP0 rfl ?_)
            | (refine callD0 rfl ?_)
            | fail)
          refine ⟨s + 1, hlt, by omega, ?_⟩
          rw [hnx.out, hlen]
          refine ⟨rfl, (by first | exact small_0 | exact small_mk rfl | (repeat (first | exact small_0 | exact small_mk rfl | refine small_upd rfl ?_ | refine small_sw rfl rfl ?_))), rfl, rfl, (by rfl), ?_, ?_⟩ <;> simp only [hst, zw, swN, ElOk, HlOk, Nat.reduceEqDiff, Nat.reduceBEq, Nat.reduceLT, Nat.reduceLeDiff, reduceIte, reduceCtorEq, H0, AObj.cells.injEq]
      obtain rfl : s = g.length := by omega
      have h2 := lt_f hge
      rw [← htv.out]
      refine ax_weak (nw := []) (n := 91) (el := [(5, .f (.fp [.fr 6 (g.map fNode), frRows (allDeps g), frRows (usersOf g)])), (8, .f (.fp [frI S])), (9, .f (frN T)), (40, .f (.int .i64 g.length)), (41, .f (.int .i64 g.length))]) (hl := []) ?_ ?_
      · refine ⟨rfl, small_mk rfl, rfl, rfl, rfl, ⟨by decide, .inl rfl, by decide, ?_, by decide, ?_, by decide, ?_, by decide, .inl rfl, trivial⟩, trivial⟩
        · exact so_pf (l := [frI S]) rfl rfl (by simp [splice]) (by simp [splice])
        · have hso : ∀ (o : Nat × Nat × AObj) (L : List Nat), SlotOk (mkH [(52, 1, .cells ((L.map fN).map .f)), o]) (mkH []) [] (.sl 52 1 1 0 L.length) (.f (frN L)) := fun o L => by
            rw [frN_eq]; exact so_cells1 (l := L.map fN) rfl rfl (List.length_map _)
          exact hso _ _
        · rw [← hUl]; exact .inl rfl
      refine srun_sound 300 _ _ _ _ ?_
      clear hge
      replace hlim := hide hlim
      change FRet Tryd.prog _ _ [.c (.v (.int .i64 (bestS S T)))] at hB0
      have hlvo := hlv.out
      generalize hi0 : bestS S T = i0 at *
      replace hlvo := hide hlvo
      repeat' (first
        | (simp -implicitDefEqProofs only [*, zr, Nat.reduceAdd, Nat.reduceSub, Nat.reduceMul, Nat.reduceLT, Nat.reduceLeDiff, Nat.reduceEqDiff, Nat.reduceBEq, reduceIte, reduceCtorEq, Int.reduceLE, Int.reduceLT, Int.reduceToNat, Int.reduceEq, Int.reduceNe])
        | ((first | apply condS_splitN | apply condS_split | apply guardS_splitTN | apply guardS_splitFN | apply guardD_splitTN | apply guardD_splitFN | apply guardS_splitT | apply guardS_splitF | apply guardD_splitT | apply guardD_splitF) <;> intro hc)
        | (refine callP0 rfl ?_)
        | (refine callD0 rfl ?_)
        | (refine cC (hB0) ?_)
        | fail)
      refine ax_loopU (S := Nat × List Nat) 91 [5, 8, 12] [] (fun s => [(13, .f (.int .i64 s.1)), (14, .sl 59 1 1 0 s.2.length)]) (fun s => [(59, 1, .cells ((s.2.map fN).map .f))]) (fun s => s.1 < g.length ∧ (∃ m, o.idxOf s.1 ≤ m ∧ s.2 ++ longGo (allDeps g) S m s.1 = W ∧ s.2.length + m ≤ g.length + 1)) (fun s => o.idxOf s.1) (i0, [i0]) [] ?_ ?_ fun s hs => ?_
      · exact ⟨hb0n, g.length, Nat.le_of_lt (hpn.out _ hb0n), hlvo.out.symm, by simp; omega⟩
      · refine ⟨rfl, (by first | exact small_0 | exact small_mk rfl | (repeat (first | exact small_0 | exact small_mk rfl | refine small_upd rfl ?_ | refine small_sw rfl rfl ?_))), rfl, rfl, (by rfl), ?_, ?_⟩ <;> simp only [List.map_cons, List.map_nil, fN, zw, swN, ElOk, HlOk, Nat.reduceEqDiff, Nat.reduceBEq, Nat.reduceLT, Nat.reduceLeDiff, reduceIte, reduceCtorEq, H0, AObj.cells.injEq]
        exact so_clo rfl
      obtain ⟨i, out⟩ := s
      obtain ⟨hi, m, hm, hgo, hlen⟩ := hs
      dsimp only at hi hm hgo hlen ⊢
      obtain ⟨row, hr⟩ := hrow.out i hi
      obtain ⟨hr1, hr2⟩ := hrl.out row (List.mem_of_getElem? hr)
      have d3 := lt_t hi
      have hDi : (allDeps g).getD i [] = row := getD_some hr
      rcases Nat.eq_zero_or_pos row.length with hz | hp
      · have hW : out = W := by
          rw [← hgo]
          cases m with
          | zero => rw [longGo, List.append_nil]
          | succ m => rw [longGo, hDi, if_pos hz, List.append_nil]
        rw [hW]
        have hWl : W.length ≤ 1001 := by rw [← hW]; omega
        refine ax_weak (nw := []) (n := 91) (el := [(5, .f (.fp [.fr 6 (g.map fNode), frRows (allDeps g), frRows (usersOf g)])), (8, .f (.fp [frI S])), (13, .f (.int .i64 i)), (14, .f (frN W))]) (hl := []) ?_ ?_
        · refine ⟨rfl, small_mk rfl, rfl, rfl, rfl, ⟨by decide, .inl rfl, by decide, .inl rfl, by decide, .inl rfl, by decide, ?_, trivial⟩, trivial⟩
          have hso : ∀ (L : List Nat), SlotOk (mkH [(59, 1, .cells ((L.map fN).map .f))]) (mkH []) [] (.sl 59 1 1 0 L.length) (.f (frN L)) := fun L => by
            rw [frN_eq]; exact so_cells1 (l := L.map fN) rfl rfl (List.length_map _)
          exact hso _
        have hLW := hLb.out W (by omega) hWlt.out
        obtain ⟨z, hz2⟩ := get_some (l := S) (i := i0) (by omega)
        rw [getD_some hz2]
        have hW0 : W[0]? = some i0 := by rw [hlvo.out]; rfl
        have hWp : decide (0 < W.length) = true := dec_t (by rw [hlvo.out]; simp)
        have hdz : decide ((0 : Int) < (row.length : Int)) = false := dec_f (by omega)
        have hdz2 : decide (0 < row.length) = false := dec_f (by omega)
        have d4 := lt_t hb0n
        have hfz : fI z = FV.int .i64 z := rfl
        replace hW := hide hW
        replace hgo := hide hgo
        unfold frN at hLW
        refine srun_sound 300 _ _ _ _ ?_
        replace hz := hide hz
        repeat' (first
          | (simp -implicitDefEqProofs only [*, List.getElem?_map, Option.map_some, frN, frRows, frI, fN, zr, Nat.reduceAdd, Nat.reduceSub, Nat.reduceMul, Nat.reduceLT, Nat.reduceLeDiff, Nat.reduceEqDiff, Nat.reduceBEq, reduceIte, reduceCtorEq, Int.reduceLE, Int.reduceLT, Int.reduceToNat, Int.reduceEq, Int.reduceNe])
          | ((first | apply condS_splitN | apply condS_split | apply guardS_splitTN | apply guardS_splitFN | apply guardD_splitTN | apply guardD_splitFN | apply guardS_splitT | apply guardS_splitF | apply guardD_splitT | apply guardD_splitF) <;> intro hc)
          | (refine callP0 rfl ?_)
          | (refine callD0 rfl ?_)
          | (refine cP (hLW) ?_)
          | (refine cD (hLW) ?_)
          | (refine cF (hLW) ?_)
          | fail)
        exact ret_vvve rfl rfl rfl
      · obtain ⟨hb1, _⟩ := bestS_spec (S := S) (l := row) (fun e => by rw [e] at hp; exact absurd hp (Nat.lt_irrefl _))
        have hpb := hpl.out i (bestS S row) hi (by rw [hDi]; exact hb1)
        obtain ⟨m', rfl⟩ : ∃ m', m = m' + 1 := ⟨m - 1, by omega⟩
        rw [longGo, hDi, if_neg (by omega)] at hgo
        have hBb := hBr.out row hr2 hp (by omega)
        have hbn := hr2 _ hb1
        change FRet Tryd.prog _ _ [.c (.v (.int .i64 (bestS S row)))] at hBb
        generalize bestS S row = b at *
        have hO1 : (out.map fN).map AV.f ++ [AV.f (FV.int .i64 b)] = ((out ++ [b]).map fN).map AV.f := by simp [fN]
        have hl1 : (out ++ [b]).length = out.length + 1 := by simp
        have hdz : decide ((0 : Int) < (row.length : Int)) = true := dec_t (by omega)
        have hdz2 : decide (0 < row.length) = true := dec_t hp
        have hk8 := nle_t (show (out.length + 1) * 8 ≤ 140737488355328 by omega)
        have hgo2 : out ++ [b] ++ longGo (allDeps g) S m' b = W := by rw [← hgo]; simp
        replace hgo := hide hgo
        replace hgo2 := hide hgo2
        unfold frN at hBb
        replace hr2 := hide hr2
        refine srun_sound 300 _ _ _ _ ?_
        repeat' (first
          | (simp -implicitDefEqProofs only [*, List.getElem?_map, Option.map_some, frN, frRows, zr, Nat.reduceAdd, Nat.reduceSub, Nat.reduceMul, Nat.reduceLT, Nat.reduceLeDiff, Nat.reduceEqDiff, Nat.reduceBEq, reduceIte, reduceCtorEq, Int.reduceLE, Int.reduceLT, Int.reduceToNat, Int.reduceEq, Int.reduceNe])
          | ((first | apply condS_splitN | apply condS_split | apply guardS_splitTN | apply guardS_splitFN | apply guardD_splitTN | apply guardD_splitFN | apply guardS_splitT | apply guardS_splitF | apply guardD_splitT | apply guardD_splitF) <;> intro hc)
          | (refine callP0 rfl ?_)
          | (refine callD0 rfl ?_)
          | (refine cC (hBb) ?_)
          | fail)
        refine ⟨(b, out ++ [b]), ⟨hbn, m', by dsimp only; omega, hgo2.out, by dsimp only; rw [hl1]; omega⟩, by dsimp only; omega, ?_⟩
        dsimp only
        rw [hl1]
        refine ⟨rfl, (by first | exact small_0 | exact small_mk rfl | (repeat (first | exact small_0 | exact small_mk rfl | refine small_upd rfl ?_ | refine small_sw rfl rfl ?_))), rfl, rfl, (by rfl), ?_, ?_⟩ <;> simp only [hO1, zw, swN, ElOk, HlOk, Nat.reduceEqDiff, Nat.reduceBEq, Nat.reduceLT, Nat.reduceLeDiff, reduceIte, reduceCtorEq, H0, AObj.cells.injEq]
        exact so_clo rfl
    · rw [if_neg (fun h => hn h.2), if_neg (fun h => hn h.2)]
      have hg0 : g = [] := List.eq_nil_of_length_eq_zero (by omega)
      subst hg0
      have d0 : decide (((0 : Nat) : Int) = 0) = true := rfl
      repeat' (first
        | (simp -implicitDefEqProofs only [*, frNodes, List.map_nil, List.length_nil, zr, Nat.reduceAdd, Nat.reduceSub, Nat.reduceMul, Nat.reduceLT, Nat.reduceLeDiff, Nat.reduceEqDiff, Nat.reduceBEq, reduceIte, reduceCtorEq, Int.reduceLE, Int.reduceLT, Int.reduceToNat, Int.reduceEq, Int.reduceNe])
        | ((first | apply condS_splitN | apply condS_split | apply guardS_splitTN | apply guardS_splitFN | apply guardD_splitTN | apply guardD_splitFN | apply guardS_splitT | apply guardS_splitF | apply guardD_splitT | apply guardD_splitF) <;> intro hc)
        | (refine callP0 rfl ?_)
        | (refine callD0 rfl ?_)
        | (refine cP (hT) ?_)
        | (refine cD (hT) ?_)
        | (refine cF (hT) ?_)
        | fail)
      exact ret_vvve rfl rfl rfl
  · rw [if_neg (fun h => h0 h.1), if_neg (fun h => h0 h.1)]
    rw [if_neg h0, if_neg h0] at hT
    have hd := dec_f h0
    generalize treeErr g = e at *
    repeat' (first
      | (simp -implicitDefEqProofs only [*, zr, Nat.reduceAdd, Nat.reduceSub, Nat.reduceMul, Nat.reduceLT, Nat.reduceLeDiff, Nat.reduceEqDiff, Nat.reduceBEq, reduceIte, reduceCtorEq, Int.reduceLE, Int.reduceLT, Int.reduceToNat, Int.reduceEq, Int.reduceNe])
      | ((first | apply condS_splitN | apply condS_split | apply guardS_splitTN | apply guardS_splitFN | apply guardD_splitTN | apply guardD_splitFN | apply guardS_splitT | apply guardS_splitF | apply guardD_splitT | apply guardD_splitF) <;> intro hc)
      | (refine callP0 rfl ?_)
      | (refine callD0 rfl ?_)
      | (refine cP (hT) ?_)
      | (refine cD (hT) ?_)
      | (refine cF (hT) ?_)
      | fail)
    exact ret_vvve rfl rfl rfl
end Go.Proofs.YtaiajaibcpkceaaDoor
