/-
  The law WaysAreWays, walked (slices are frozen by so_one). No statement of the seat is proved here; no conditions.
-/
import Derived.Test.YtaiajaibcpkceaaDoorGrNt
namespace Go.Proofs.YtaiajaibcpkceaaDoor
open Go.RowKit Go.Shelf
set_option linter.unusedVariables false
set_option linter.unusedSimpArgs false
set_option maxRecDepth 100000

theorem walk_take {E : List (List Nat)} {w : List Nat} {a : Nat} (h0 : w[0]? = some a) : ∀ (j : Nat), (∀ i : Nat, i < j → ∃ u v, w[i]? = some u ∧ w[i + 1]? = some v ∧ v ∈ E.getD u []) → ∀ u, w[j]? = some u → Walk E j a u
  | 0, _, u, hu => by rw [h0] at hu; exact Option.some.inj hu
  | j + 1, h, u, hu => by
    obtain ⟨x, y, h1, h2, h3⟩ := h j (by omega)
    rw [hu] at h2
    obtain rfl := Option.some.inj h2
    exact ⟨x, walk_take h0 j (fun i hi => h i (by omega)) x h1, h3⟩
/-- What the law asks of a way. -/
theorem why_spec {g : Graph} {a b : ByteArray} (h : twoErr g a b = 0) (hi : whyIs g a b = true) : ∃ m : Nat, (whyL g a b).length = m + 1 ∧ m ≤ 1000 ∧ ((whyL g a b).map (labN g))[0]? = some a ∧ ((whyL g a b).map (labN g))[m]? = some b ∧
    (∀ j : Nat, j ≤ m → ∃ u, ((whyL g a b).map (labN g))[j]? = some u ∧ decide (0 ≤ ixS ((btwOf g a b).map (labN g)) u) = true) ∧
    (∀ j : Nat, j < m → ∃ u v, ((whyL g a b).map (labN g))[j]? = some u ∧ ((whyL g a b).map (labN g))[j + 1]? = some v ∧ needsV g u v = true) ∧
    (0 < m → reErr g [a] ((m : Int) - 1) = 0 ∧ decide (0 ≤ ixS ((reV g [a] ((m : Int) - 1) false).map (labN g)) b) = false) := by
  obtain ⟨hG, ha, hb, hna, hnb, ht⟩ := two_ok h
  have hN := net_ok hG
  have hm := net_mutual hG
  have hm' := net_mutual' hG
  have h0 : 0 ≤ (stepsV (usersOf g) g.length [nIdx g b]).getD (nIdx g a) 0 := (turn0 hN hm hm' ha hb).1 (of_decide_eq_true hi)
  have hs := steps_spec (E := usersOf g) (from_ := [nIdx g b]) (rowU_lt hN) (sing_lt hb)
  have hT := turn_iff hN hm hm' ha hb
  have hw : ∃ m : Nat, (stepsV (usersOf g) g.length [nIdx g b]).getD (nIdx g a) 0 = (m : Int) := ⟨_, (Int.toNat_of_nonneg h0).symm⟩
  obtain ⟨m, hmF⟩ := hw
  have hf := way_falls hN hm hs m (nIdx g a) ha hmF
  have hlen := (wayGo_lt (F := stepsV (usersOf g) g.length [nIdx g b]) hN m _ ha).1
  have hwe : whyL g a b = nIdx g a :: wayGo (allDeps g) (stepsV (usersOf g) g.length [nIdx g b]) m (nIdx g a) := by rw [whyL, wayV, hmF]; rfl
  have hm1 : m ≤ 1000 := by have := (hs.lo _ ha).2; have := hN.nl; omega
  rw [hwe]
  generalize hW : nIdx g a :: wayGo (allDeps g) (stepsV (usersOf g) g.length [nIdx g b]) m (nIdx g a) = w at *
  have hw0 : w[0]? = some (nIdx g a) := by rw [← hW]; rfl
  have hstep : ∀ i : Nat, i < m → ∃ u v, w[i]? = some u ∧ w[i + 1]? = some v ∧ v ∈ (allDeps g).getD u [] := fun i hi => by
    obtain ⟨u, g1, g2, g3, g4⟩ := hf i (by omega)
    obtain ⟨v, g5, g6⟩ := g4 hi
    exact ⟨u, v, g1, g5, g6⟩
  have hat : ∀ {j u : Nat}, w[j]? = some u → (w.map (labN g))[j]? = some (labN g u) := fun hu => by rw [List.getElem?_map, hu]; rfl
  refine ⟨m, by rw [← hW, List.length_cons, hlen], hm1, by rw [hat hw0, nIdx_lab hG hna], ?_, fun j hj => ?_, fun j hj => ?_, fun hmp => ⟨?_, ?_⟩⟩
  · obtain ⟨u, g1, g2, g3, _⟩ := hf m (Nat.le_refl _)
    rw [Nat.sub_self] at g3
    rcases hs.pred u g2 (by rw [g3]; exact Int.le_refl _) with ⟨h1, _⟩ | ⟨k, _, _, h2, h3⟩
    · rw [List.mem_singleton.1 h1] at g1
      rw [hat g1, nIdx_lab hG hnb]
    · omega
  · obtain ⟨u, g1, g2, g3, _⟩ := hf j hj
    refine ⟨_, hat g1, ?_⟩
    rw [ix_mem, decide_eq_true_eq]
    refine List.mem_map.2 ⟨u, List.mem_filter.2 ⟨List.mem_range.2 g2, ?_⟩, rfl⟩
    have hwk := walk_take hw0 j (fun i hi => hstep i (by omega)) u g1
    have := (walk_steps (rowD_lt hN) (sing_lt ha) (List.mem_singleton.2 rfl) hwk).1
    rw [btP, Bool.and_eq_true, decide_eq_true_eq, decide_eq_true_eq, g3]
    exact ⟨this, by omega⟩
  · obtain ⟨u, v, g1, g2, g3⟩ := hstep j hj
    obtain ⟨u', g4, g5, _⟩ := hf j (by omega)
    rw [g1] at g4; obtain rfl := Option.some.inj g4
    exact ⟨_, _, hat g1, hat g2, by rw [needsV_dep hG g5 (rowD_lt hN u v g3)]; exact decide_eq_true g3⟩
  · unfold reErr
    rw [if_neg (by rw [ht]; exact fun h => h rfl)]
    have hn : numErr g [a] = 0 := by unfold numErr; rw [if_neg (by simp), if_pos (by simp [hna])]
    rw [if_neg (by rw [hn]; exact fun h => h rfl), if_neg (by omega)]
  · rw [lab_mem hG re_lt.2 hnb, reV, mem_within hb]
    show inM (stepsV (allDeps g) g.length [nIdx g a]) _ _ = false
    rw [hT, inM, hmF]
    rw [show decide (((m : Int) - 1) < 0) = false from dec_f (by omega), show decide ((m : Int) ≤ (m : Int) - 1) = false from dec_f (by omega)]
    simp
theorem ways_f (g : Graph) (hb : GBound g) (a b : ByteArray) : FRet Tryd.prog 7 [.f (frNodes g), .f (.str a), .f (.str b)] [.c (.v (.bool true))] := by
  have hW := Why_f g hb a b
  have hB := Between_f g hb a b
  have hA := awake_f
  have hNd := needs_f g hb
  refine FCall.of_ax low_law4_GraphWaysAreWays ?_
  dsimp only [l_law4_GraphWaysAreWays]
  refine srun_sound 300 _ _ _ _ ?_
  replace hNd := hide hNd
  by_cases h0 : twoErr g a b = 0
  · rw [h0, if_pos rfl, if_pos rfl] at hW
    cases hq : whyIs g a b
    · rw [hq, if_neg (by decide)] at hW
      repeat' (first
        | (simp -implicitDefEqProofs only [*, zr, Nat.reduceAdd, Nat.reduceSub, Nat.reduceMul, Nat.reduceLT, Nat.reduceLeDiff, Nat.reduceEqDiff, Nat.reduceBEq, reduceIte, reduceCtorEq, Int.reduceLE, Int.reduceLT, Int.reduceToNat, Int.reduceEq, Int.reduceNe])
        | ((first | apply condS_splitN | apply condS_split | apply guardS_splitTN | apply guardS_splitFN | apply guardD_splitTN | apply guardD_splitFN | apply guardS_splitT | apply guardS_splitF | apply guardD_splitT | apply guardD_splitF) <;> intro hc)
        | (refine callP0 rfl ?_)
        | (refine callD0 rfl ?_)
        | (refine cP (hW) ?_)
        | (refine cD (hW) ?_)
        | (refine cF (hW) ?_)
        | (refine cP (hA) ?_)
        | (refine cD (hA) ?_)
        | (refine cF (hA) ?_)
        | fail)
      exact ret_ve rfl
    · rw [hq, if_pos rfl] at hW
      rw [h0, if_pos rfl] at hB
      obtain ⟨m, hl, hm1, hx0, hxm, hin, hst, hend⟩ := why_spec h0 hq
      have hNe := fun m => Needs_f g hb [a] (by simp) m
      have hlen : ((whyL g a b).map (labN g)).length = m + 1 := by rw [List.length_map, hl]
      have hbl : ((btwOf g a b).map (labN g)).length ≤ g.length := by rw [List.length_map]; exact btw_lt.1
      have hgl := (two_ok h0).1.len
      have hC := fun u => contains_fS ((btwOf g a b).map (labN g)) u (by omega)
      have hC2 := fun u (h : 0 < m) => contains_fS ((reV g [a] ((m : Int) - 1) false).map (labN g)) u (by rw [List.length_map]; have := (re_lt (g := g) (l := [a]) (m := (m : Int) - 1) (up := false)).1; omega)
      generalize (whyL g a b).map (labN g) = L at *
      generalize (btwOf g a b).map (labN g) = M at *
      replace hin := hide hin
      replace hst := hide hst
      replace hend := hide hend
      replace hC := hide hC
      replace hC2 := hide hC2
      replace hNe := hide hNe
      clear hl
      have w1 : IntKind.i64.wrap (((m + 1 : Nat) : Int) - 1) = (m : Int) := by rw [wrap64] <;> omega
      have d0 : decide (((m + 1 : Nat) : Int) = 0) = false := dec_f (by omega)
      have d1 : decide (m < m + 1) = true := dec_t (by omega)
      have d2 : decide (0 < m + 1) = true := dec_t (by omega)
      have ea : decide (a = a) = true := dec_t rfl
      have eb : decide (b = b) = true := dec_t rfl
      repeat' (first
        | (simp -implicitDefEqProofs only [*, List.getElem?_map, Option.map_some, frStrs, zr, Nat.reduceAdd, Nat.reduceSub, Nat.reduceMul, Nat.reduceLT, Nat.reduceLeDiff, Nat.reduceEqDiff, Nat.reduceBEq, reduceIte, reduceCtorEq, Int.reduceLE, Int.reduceLT, Int.reduceToNat, Int.reduceEq, Int.reduceNe])
        | ((first | apply condS_splitN | apply condS_split | apply guardS_splitTN | apply guardS_splitFN | apply guardD_splitTN | apply guardD_splitFN | apply guardS_splitT | apply guardS_splitF | apply guardD_splitT | apply guardD_splitF) <;> intro hc)
        | (refine callP0 rfl ?_)
        | (refine callD0 rfl ?_)
        | (refine cP (hW) ?_)
        | (refine cD (hW) ?_)
        | (refine cF (hW) ?_)
        | (refine cP (hB) ?_)
        | (refine cD (hB) ?_)
        | (refine cF (hB) ?_)
        | fail)
      refine ax_loopU (S := Nat) 126 [0, 1, 2, 7, 10] [] (fun s => [(11, .f (.int .i64 s))]) (fun s => []) (fun s => s ≤ m + 1) (fun s => m + 1 - s) (0) [] ?_ ?_ fun s hs => ?_
      · exact Nat.zero_le _
      · refine ⟨rfl, (by first | exact small_0 | exact small_mk rfl | (repeat (first | exact small_0 | exact small_mk rfl | refine small_upd rfl ?_ | refine small_sw rfl rfl ?_))), rfl, rfl, (by rfl), ?_, ?_⟩ <;> simp only [zw, swN, ElOk, HlOk, Nat.reduceEqDiff, Nat.reduceBEq, Nat.reduceLT, Nat.reduceLeDiff, reduceIte, reduceCtorEq, H0, AObj.cells.injEq]
      refine srun_sound 300 _ _ _ _ ?_
      rcases Nat.lt_or_ge s (m + 1) with hlt | hge
      · have g4 := inc64 hlt (by omega)
        have g2 := lt_t hlt
        obtain ⟨x, hx, hxi⟩ := hin.out s (by omega)
        have hCx := hC.out x
        rw [hxi] at hCx
        have dxi := hide hxi
        clear hxi w1 d0 d1 d2 ea eb
        cases s with
        | zero =>
          have k1 : decide ((0 : Int) < ((0 : Nat) : Int)) = false := rfl
          rw [hx0] at hx
          obtain rfl := Option.some.inj hx
          repeat' (first
            | (simp -implicitDefEqProofs only [*, List.getElem?_map, Option.map_some, frStrs, zr, Nat.reduceAdd, Nat.reduceSub, Nat.reduceMul, Nat.reduceLT, Nat.reduceLeDiff, Nat.reduceEqDiff, Nat.reduceBEq, reduceIte, reduceCtorEq, Int.reduceLE, Int.reduceLT, Int.reduceToNat, Int.reduceEq, Int.reduceNe])
            | ((first | apply condS_splitN | apply condS_split | apply guardS_splitTN | apply guardS_splitFN | apply guardD_splitTN | apply guardD_splitFN | apply guardS_splitT | apply guardS_splitF | apply guardD_splitT | apply guardD_splitF) <;> intro hc)
            | (refine callP0 rfl ?_)
            | (refine callD0 rfl ?_)
            | (refine cP (hCx) ?_)
            | (refine cD (hCx) ?_)
            | (refine cF (hCx) ?_)
            | fail)
          refine ⟨1, by omega, by omega, ?_⟩
          refine ⟨rfl, (by first | exact small_0 | exact small_mk rfl | (repeat (first | exact small_0 | exact small_mk rfl | refine small_upd rfl ?_ | refine small_sw rfl rfl ?_))), rfl, rfl, (by rfl), ?_, ?_⟩ <;> simp only [zw, swN, ElOk, HlOk, Nat.reduceEqDiff, Nat.reduceBEq, Nat.reduceLT, Nat.reduceLeDiff, reduceIte, reduceCtorEq, H0, AObj.cells.injEq]
        | succ s =>
          have k1 : decide ((0 : Int) < ((s + 1 : Nat) : Int)) = true := dec_t (by omega)
          have k2 : IntKind.i64.wrap (((s + 1 : Nat) : Int) - 1) = (s : Int) := by rw [wrap64] <;> omega
          have k3 : decide (s < m + 1) = true := dec_t (by omega)
          obtain ⟨u, v, hu, hv, hn⟩ := hst.out s (by omega)
          rw [hx] at hv
          obtain rfl := Option.some.inj hv
          have hNx := hNd.out u x
          rw [hn] at hNx
          repeat' (first
            | (simp -implicitDefEqProofs only [*, List.getElem?_map, Option.map_some, frStrs, zr, Nat.reduceAdd, Nat.reduceSub, Nat.reduceMul, Nat.reduceLT, Nat.reduceLeDiff, Nat.reduceEqDiff, Nat.reduceBEq, reduceIte, reduceCtorEq, Int.reduceLE, Int.reduceLT, Int.reduceToNat, Int.reduceEq, Int.reduceNe])
            | ((first | apply condS_splitN | apply condS_split | apply guardS_splitTN | apply guardS_splitFN | apply guardD_splitTN | apply guardD_splitFN | apply guardS_splitT | apply guardS_splitF | apply guardD_splitT | apply guardD_splitF) <;> intro hc)
            | (refine callP0 rfl ?_)
            | (refine callD0 rfl ?_)
            | (refine cP (hCx) ?_)
            | (refine cD (hCx) ?_)
            | (refine cF (hCx) ?_)
            | (refine cP (hNx) ?_)
            | (refine cD (hNx) ?_)
            | (refine cF (hNx) ?_)
            | fail)
          refine ⟨s + 1 + 1, by omega, by omega, ?_⟩
          refine ⟨rfl, (by first | exact small_0 | exact small_mk rfl | (repeat (first | exact small_0 | exact small_mk rfl | refine small_upd rfl ?_ | refine small_sw rfl rfl ?_))), rfl, rfl, (by rfl), ?_, ?_⟩ <;> simp only [zw, swN, ElOk, HlOk, Nat.reduceEqDiff, Nat.reduceBEq, Nat.reduceLT, Nat.reduceLeDiff, reduceIte, reduceCtorEq, H0, AObj.cells.injEq]
      · obtain rfl : s = m + 1 := by omega
        have g2 := lt_f hge
        clear d1 d2
        rcases Nat.eq_zero_or_pos m with h1 | h1
        · subst h1
          have k1 : decide (((0 + 1 : Nat) : Int) = 1) = true := rfl
          repeat' (first
            | (simp -implicitDefEqProofs only [*, zr, Nat.reduceAdd, Nat.reduceSub, Nat.reduceMul, Nat.reduceLT, Nat.reduceLeDiff, Nat.reduceEqDiff, Nat.reduceBEq, reduceIte, reduceCtorEq, Int.reduceLE, Int.reduceLT, Int.reduceToNat, Int.reduceEq, Int.reduceNe])
            | ((first | apply condS_splitN | apply condS_split | apply guardS_splitTN | apply guardS_splitFN | apply guardD_splitTN | apply guardD_splitFN | apply guardS_splitT | apply guardS_splitF | apply guardD_splitT | apply guardD_splitF) <;> intro hc)
            | (refine callP0 rfl ?_)
            | (refine callD0 rfl ?_)
            | (refine cP (hA) ?_)
            | (refine cD (hA) ?_)
            | (refine cF (hA) ?_)
            | fail)
          exact ret_ve rfl
        · have k1 : decide (((m + 1 : Nat) : Int) = 1) = false := dec_f (by omega)
          have k2 : IntKind.i64.wrap (((m + 1 : Nat) : Int) - 2) = (m : Int) - 1 := by rw [wrap64] <;> omega
          have k3 : decide ((1000 : Int) < (m : Int) - 1) = false := dec_f (by omega)
          obtain ⟨r1, r2⟩ := hend.out h1
          have hNx := hNe.out ((m : Int) - 1)
          have hCx := hC2.out b h1
          rw [r1, if_pos rfl] at hNx
          rw [r2] at hCx
          replace h1 := hide h1
          generalize (m : Int) - 1 = m1 at *
          repeat' (first
            | (simp -implicitDefEqProofs only [*, zr, Nat.reduceAdd, Nat.reduceSub, Nat.reduceMul, Nat.reduceLT, Nat.reduceLeDiff, Nat.reduceEqDiff, Nat.reduceBEq, reduceIte, reduceCtorEq, Int.reduceLE, Int.reduceLT, Int.reduceToNat, Int.reduceEq, Int.reduceNe])
            | ((first | apply condS_splitN | apply condS_split | apply guardS_splitTN | apply guardS_splitFN | apply guardD_splitTN | apply guardD_splitFN | apply guardS_splitT | apply guardS_splitF | apply guardD_splitT | apply guardD_splitF) <;> intro hc)
            | (refine callP0 rfl ?_)
            | (refine callD0 rfl ?_)
            | fail)
          refine ax_weakA [] (nw := []) (n := 126) (el := [(0, .f (frNodes g)), (1, .f (.str a)), (2, .f (.str b)), (106, .f (frNodes g)), (108, .f (frStrs [a])), (111, .f (.int .i64 m1))]) (hl := []) rfl ?_ ?_
          · refine ⟨rfl, (by repeat (first | exact small_0 | exact small_mk rfl | refine small_upd rfl ?_)), rfl, rfl, rfl, ?_, trivial⟩
            repeat (first | exact trivial | refine And.intro (by decide) ?_ | refine And.intro (so_one rfl rfl) ?_ | refine And.intro (Or.inl rfl) ?_)
          repeat' (first
            | (simp -implicitDefEqProofs only [*, zr, Nat.reduceAdd, Nat.reduceSub, Nat.reduceMul, Nat.reduceLT, Nat.reduceLeDiff, Nat.reduceEqDiff, Nat.reduceBEq, reduceIte, reduceCtorEq, Int.reduceLE, Int.reduceLT, Int.reduceToNat, Int.reduceEq, Int.reduceNe])
            | ((first | apply condS_splitN | apply condS_split | apply guardS_splitTN | apply guardS_splitFN | apply guardD_splitTN | apply guardD_splitFN | apply guardS_splitT | apply guardS_splitF | apply guardD_splitT | apply guardD_splitF) <;> intro hc)
            | (refine callP0 rfl ?_)
            | (refine callD0 rfl ?_)
            | (refine cP (hNx) ?_)
            | (refine cD (hNx) ?_)
            | (refine cF (hNx) ?_)
            | (refine cP (hCx) ?_)
            | (refine cD (hCx) ?_)
            | (refine cF (hCx) ?_)
            | (refine cP (hA) ?_)
            | (refine cD (hA) ?_)
            | (refine cF (hA) ?_)
            | fail)
          exact ret_ve rfl
  · rw [if_neg h0, if_neg h0] at hW
    have hd := dec_f h0
    generalize twoErr g a b = e at *
    repeat' (first
      | (simp -implicitDefEqProofs only [*, zr, Nat.reduceAdd, Nat.reduceSub, Nat.reduceMul, Nat.reduceLT, Nat.reduceLeDiff, Nat.reduceEqDiff, Nat.reduceBEq, reduceIte, reduceCtorEq, Int.reduceLE, Int.reduceLT, Int.reduceToNat, Int.reduceEq, Int.reduceNe])
      | ((first | apply condS_splitN | apply condS_split | apply guardS_splitTN | apply guardS_splitFN | apply guardD_splitTN | apply guardD_splitFN | apply guardS_splitT | apply guardS_splitF | apply guardD_splitT | apply guardD_splitF) <;> intro hc)
      | (refine callP0 rfl ?_)
      | (refine callD0 rfl ?_)
      | (refine cP (hW) ?_)
      | (refine cD (hW) ?_)
      | (refine cF (hW) ?_)
      | (refine cP (hA) ?_)
      | (refine cD (hA) ?_)
      | (refine cF (hA) ?_)
      | fail)
    exact ret_ve rfl
theorem ways_any (A : Option Addr) (n c : Nat) (g : Graph) (a b : ByteArray) (W : World) (h : rSl 6 112 rNode W W.heap.size g [.slice A n c]) (ha : a.size ≤ 140737488355328) (hb : b.size ≤ 140737488355328) :
    Calls Tryd.prog 7 #[.slice A n c, .string a, .string b] W fun e w' => e = .returned (.bool true) ∧ Below W.heap.size W w' := by
  refine FRet.calls (xs := [frNodes g, .str a, .str b]) (ways_f g (graph_bound h) a b) rfl fun j x v hx hv => ?_
  rcases j with _ | _ | _ | j
  · obtain rfl := Option.some.inj hx; obtain rfl := Option.some.inj hv; exact fz_nodes.one h
  · obtain rfl := Option.some.inj hx; obtain rfl := Option.some.inj hv; exact .str _
  · obtain rfl := Option.some.inj hx; obtain rfl := Option.some.inj hv; exact .str _
  · simp at hx
end Go.Proofs.YtaiajaibcpkceaaDoor
