/-
  Graphs on the machine: ways. No statement of the seat is proved here; no conditions.
-/
import Derived.Test.YtaiajaibcpkceaaDoorGrT
namespace Go.Proofs.YtaiajaibcpkceaaDoor
open Go.RowKit Go.Shelf
set_option linter.unusedVariables false
set_option linter.unusedSimpArgs false
set_option maxRecDepth 100000

def isNext (F : List Int) (a k : Nat) : Bool := decide (0 ≤ F.getD k 0) && decide (F.getD k 0 = F.getD a 0 - 1)
def nextV (F : List Int) (row : List Nat) (a : Nat) : Nat := (row.find? fun k => isNext F a k).getD a
def wayGo (D : List (List Nat)) (F : List Int) : Nat → Nat → List Nat
  | 0, _ => []
  | m + 1, a => nextV F (D.getD a []) a :: wayGo D F m (nextV F (D.getD a []) a)
def wayV (D : List (List Nat)) (F : List Int) (a : Nat) : List Nat := a :: wayGo D F (F.getD a 0).toNat a
theorem next_hit {F : List Int} {row : List Nat} {a j k : Nat} (h : ∀ (m : Nat) y, m < j → row[m]? = some y → isNext F a y = false) (hk : row[j]? = some k) (hc : isNext F a k = true) : nextV F row a = k := by
  have : row.find? (fun k => isNext F a k) = some k := by
    rw [List.find?_eq_some_iff_getElem]
    obtain ⟨h1, h2⟩ := List.getElem?_eq_some_iff.1 hk
    refine ⟨hc, j, h1, h2, fun m hm => ?_⟩
    rw [h m _ hm (List.getElem?_eq_getElem (by omega))]; rfl
  rw [nextV, this]; rfl
/-- Users are those that need. -/
def Mutual (n : Nat) (D U : List (List Nat)) : Prop := ∀ u x, u < n → x < n → x ∈ U.getD u [] → u ∈ D.getD x []
theorem next_is {n : Nat} {D U : List (List Nat)} {F : List Int} {b a : Nat} (hm : Mutual n D U) (hs : StepsSpec U [b] n F) (ha : a < n) (h0 : 0 ≤ F.getD a 0) (hab : a ≠ b) : ∃ k ∈ D.getD a [], isNext F a k = true := by
  rcases hs.pred a ha h0 with ⟨h1, _⟩ | ⟨i, hi, h1, h2, h3⟩
  · exact absurd (List.mem_singleton.1 h1) hab
  · exact ⟨i, hm i a hi ha h1, by unfold isNext; rw [Bool.and_eq_true, decide_eq_true_eq, decide_eq_true_eq]; omega⟩
theorem next_mem {F : List Int} {row : List Nat} {a : Nat} (h : ∃ k ∈ row, isNext F a k = true) : nextV F row a ∈ row ∧ isNext F a (nextV F row a) = true := by
  unfold nextV
  cases e : row.find? fun k => isNext F a k with
  | none =>
    obtain ⟨k, h1, h2⟩ := h
    rw [List.find?_eq_none] at e
    exact absurd h2 (e k h1)
  | some k => exact ⟨List.mem_of_find?_eq_some e, List.find?_some e⟩
theorem way_f (g : Graph) (D U : List (List Nat)) (a b : Nat) (hN : NetOk g.length D U) (hm : Mutual g.length D U) (ha : a < g.length) (hb : b < g.length) (h0 : 0 ≤ (stepsV U g.length [b]).getD a 0) :
    FRet Tryd.prog 39 [.f (fNet g D U), .f (fN a), .f (fN b)] [.c (.v (frN (wayV D (stepsV U g.length [b]) a)))] := by
  have hSt := steps_f U [b] g.length hN.ul hN.nl (fun r hr => hN.ur r hr) (fun k hk => by rw [List.mem_singleton.1 hk]; exact hb) (by simp)
  have hsp : StepsSpec U [b] g.length (stepsV U g.length [b]) := steps_spec (fun i k hk => by
    rw [List.getD_eq_getElem?_getD] at hk
    cases e : U[i]? with
    | none => rw [e] at hk; cases hk
    | some r => rw [e] at hk; exact (hN.ur r (List.mem_of_getElem? e)).2 k hk) (fun k hk => by rw [List.mem_singleton.1 hk]; exact hb)
  generalize stepsV U g.length [b] = F at *
  refine FCall.of_ax low_graph_net_way ?_
  dsimp only [l_graph_net_way, fNet, fN]
  refine srun_sound 300 _ _ _ _ ?_
  have hnl := hN.nl
  have hdl := hN.dl
  have hul := hN.ul
  replace hN := hide hN
  replace hm := hide hm
  replace hsp := hide hsp
  repeat' (first
    | (simp -implicitDefEqProofs only [*, zr, Nat.reduceAdd, Nat.reduceSub, Nat.reduceMul, Nat.reduceLT, Nat.reduceLeDiff, Nat.reduceEqDiff, Nat.reduceBEq, reduceIte, reduceCtorEq, Int.reduceLE, Int.reduceLT, Int.reduceToNat, Int.reduceEq, Int.reduceNe])
    | ((first | apply condS_splitN | apply condS_split | apply guardS_splitTN | apply guardS_splitFN | apply guardD_splitTN | apply guardD_splitFN | apply guardS_splitT | apply guardS_splitF | apply guardD_splitT | apply guardD_splitF) <;> intro hc)
    | (refine callP0 rfl ?_)
    | (refine callD0 rfl ?_)
    | fail)
  refine ax_weakA [] (nw := []) (n := 59) (el := [(0, .f (.fp [frNodes g, frRows D, frRows U])), (1, .f (.int .i64 a)), (2, .f (.int .i64 b)), (14, .f (frRows U)), (16, .f (frN [b]))]) (hl := []) rfl ?_ ?_
  · refine ⟨rfl, small_upd rfl small_0, rfl, rfl, rfl, ⟨by decide, .inl rfl, by decide, .inl rfl, by decide, .inl rfl, by decide, .inl rfl, by decide, ?_, trivial⟩, trivial⟩
    rw [frN_eq]
    exact so_cells1 (l := [b].map fN) rfl rfl rfl
  repeat' (first
    | (simp -implicitDefEqProofs only [*, zr, Nat.reduceAdd, Nat.reduceSub, Nat.reduceMul, Nat.reduceLT, Nat.reduceLeDiff, Nat.reduceEqDiff, Nat.reduceBEq, reduceIte, reduceCtorEq, Int.reduceLE, Int.reduceLT, Int.reduceToNat, Int.reduceEq, Int.reduceNe])
    | ((first | apply condS_splitN | apply condS_split | apply guardS_splitTN | apply guardS_splitFN | apply guardD_splitTN | apply guardD_splitFN | apply guardS_splitT | apply guardS_splitF | apply guardD_splitT | apply guardD_splitF) <;> intro hc)
    | (refine callP0 rfl ?_)
    | (refine callD0 rfl ?_)
    | (refine cP (hSt) ?_)
    | (refine cD (hSt) ?_)
    | (refine cF (hSt) ?_)
    | fail)
  have hb0 : F.getD b 0 = 0 := hsp.out.src b (List.mem_singleton.2 rfl)
  have hFl := hsp.out.len
  have hFlo := hsp.out.lo
  refine ax_loopU (S := Nat × List Nat) 59 [0, 2, 7] [] (fun s => [(1, .f (.int .i64 s.1)), (8, .sl 19 1 1 0 s.2.length)]) (fun s => [(19, 1, .cells ((s.2.map fN).map .f))]) (fun s => s.1 < g.length ∧ 0 ≤ F.getD s.1 0 ∧ s.2 ++ wayGo D F (F.getD s.1 0).toNat s.1 = wayV D F a ∧ s.2.length + (F.getD s.1 0).toNat ≤ 1001) (fun s => (F.getD s.1 0).toNat) (a, [a]) [] ?_ ?_ fun s hs => ?_
  · refine ⟨ha, h0, rfl, ?_⟩
    have := (hFlo a ha).2
    simp only [List.length_cons, List.length_nil]; omega
  · refine ⟨rfl, (by first | exact small_0 | exact small_mk rfl | (repeat (first | exact small_0 | exact small_mk rfl | refine small_upd rfl ?_ | refine small_sw rfl rfl ?_))), rfl, rfl, (by rfl), ?_, ?_⟩ <;> simp only [List.map_cons, List.map_nil, fN, zw, swN, ElOk, HlOk, Nat.reduceEqDiff, Nat.reduceBEq, Nat.reduceLT, Nat.reduceLeDiff, reduceIte, reduceCtorEq, H0, AObj.cells.injEq]
  obtain ⟨x, out⟩ := s
  obtain ⟨hx, hx0, hgo, hol⟩ := hs
  dsimp only at hx hx0 hgo hol ⊢
  by_cases hxb : x = b
  · subst hxb
    rw [hb0] at hgo
    have hgo' : out = wayV D F a := by rw [← hgo]; simp [wayGo]
    rw [← hgo']
    refine ax_weak (nw := []) (n := 59) (el := [(1, .f (.int .i64 x)), (2, .f (.int .i64 x)), (8, .f (frN out))]) (hl := []) ?_ ?_
    · refine ⟨rfl, small_mk rfl, rfl, rfl, rfl, ⟨by decide, .inl rfl, by decide, .inl rfl, by decide, ?_, trivial⟩, trivial⟩
      have hso : SlotOk (mkH [(19, 1, .cells ((out.map fN).map .f))]) (mkH []) [] (.sl 19 1 1 0 out.length) (.f (frN out)) := by
        rw [frN_eq]; exact so_cells1 (l := out.map fN) rfl rfl (List.length_map _)
      exact hso
    refine srun_sound 300 _ _ _ _ ?_
    have d1 : decide ((x : Int) = (x : Int)) = true := dec_t rfl
    repeat' (first
      | (simp -implicitDefEqProofs only [*, zr, Nat.reduceAdd, Nat.reduceSub, Nat.reduceMul, Nat.reduceLT, Nat.reduceLeDiff, Nat.reduceEqDiff, Nat.reduceBEq, reduceIte, reduceCtorEq, Int.reduceLE, Int.reduceLT, Int.reduceToNat, Int.reduceEq, Int.reduceNe])
      | ((first | apply condS_splitN | apply condS_split | apply guardS_splitTN | apply guardS_splitFN | apply guardD_splitTN | apply guardD_splitFN | apply guardS_splitT | apply guardS_splitF | apply guardD_splitT | apply guardD_splitF) <;> intro hc)
      | (refine callP0 rfl ?_)
      | (refine callD0 rfl ?_)
      | fail)
    exact ret_ve rfl
  · have hex := next_is hm.out hsp.out hx hx0 hxb
    obtain ⟨row, hrow⟩ := get_some (l := D) (i := x) (by omega)
    have hDx : D.getD x [] = row := getD_some hrow
    rw [hDx] at hex
    obtain ⟨hrl, hrn⟩ := hN.out.dr row (List.mem_of_getElem? hrow)
    have d1 : decide ((x : Int) = (b : Int)) = false := dec_f (by omega)
    have d2 : decide (x = b) = false := dec_f hxb
    have d3 := lt_t hx
    replace hgo := hide hgo
    replace hFlo := hide hFlo
    refine srun_sound 300 _ _ _ _ ?_
    repeat' (first
      | (simp -implicitDefEqProofs only [*, List.getElem?_map, Option.map_some, frN, frRows, zr, Nat.reduceAdd, Nat.reduceSub, Nat.reduceMul, Nat.reduceLT, Nat.reduceLeDiff, Nat.reduceEqDiff, Nat.reduceBEq, reduceIte, reduceCtorEq, Int.reduceLE, Int.reduceLT, Int.reduceToNat, Int.reduceEq, Int.reduceNe])
      | ((first | apply condS_splitN | apply condS_split | apply guardS_splitTN | apply guardS_splitFN | apply guardD_splitTN | apply guardD_splitFN | apply guardS_splitT | apply guardS_splitF | apply guardD_splitT | apply guardD_splitF) <;> intro hc)
      | (refine callP0 rfl ?_)
      | (refine callD0 rfl ?_)
      | fail)
    refine ax_loopU (S := Nat) 59 [0, 2, 7, 8, 29, 30] [] (fun s => [(1, .f (.int .i64 x)), (31, .f (.int .i64 s))]) (fun s => [(19, 1, .cells ((out.map fN).map .f))]) (fun s => s ≤ row.length ∧ ∀ (m : Nat) y, m < s → row[m]? = some y → isNext F x y = false) (fun s => row.length - s) (0) [] ?_ ?_ fun s hs => ?_
    · exact ⟨Nat.zero_le _, fun m y h => absurd h (Nat.not_lt_zero _)⟩
    · refine ⟨rfl, (by first | exact small_0 | exact small_mk rfl | (repeat (first | exact small_0 | exact small_mk rfl | refine small_upd rfl ?_ | refine small_sw rfl rfl ?_))), rfl, rfl, (by rfl), ?_, ?_⟩ <;> simp only [zw, swN, ElOk, HlOk, Nat.reduceEqDiff, Nat.reduceBEq, Nat.reduceLT, Nat.reduceLeDiff, reduceIte, reduceCtorEq, H0, AObj.cells.injEq]
    obtain ⟨hj, hall⟩ := hs
    rcases Nat.lt_or_ge s row.length with hlt | hge
    · obtain ⟨k, hk⟩ := get_some hlt
      have hkn := hrn k (List.mem_of_getElem? hk)
      obtain ⟨z, hz⟩ := get_some (l := F) (i := k) (by omega)
      obtain ⟨zx, hzx⟩ := get_some (l := F) (i := x) (by omega)
      have hnV : isNext F x k = (decide (0 ≤ z) && decide (z = zx - 1)) := by unfold isNext; rw [getD_some hz, getD_some hzx]
      have hx0' : 0 ≤ zx := by rw [getD_some hzx] at hx0; exact hx0
      have hxn : zx ≤ g.length := by have := (hFlo.out x hx).2; rw [getD_some hzx] at this; exact this
      have hw : IntKind.i64.wrap (zx - 1) = zx - 1 := by rw [wrap64] <;> omega
      have g4 := inc64 hlt (by omega)
      have g2 := lt_t hlt
      have hk4 : decide (k < g.length) = true := dec_t hkn
      have hfk : fN k = FV.int .i64 k := rfl
      have hfz : fI z = FV.int .i64 z := rfl
      have hfx : fI zx = FV.int .i64 zx := rfl
      have hk8 := nle_t (show (out.length + 1) * 8 ≤ 140737488355328 by omega)
      have hst : ∀ (h : isNext F x k = false), ∀ (m : Nat) y, m < s + 1 → row[m]? = some y → isNext F x y = false := fun h m y hm e1 => by
        rcases Nat.lt_or_ge m s with h3 | h3
        · exact hall m y h3 e1
        · obtain rfl : m = s := by omega
          rw [hk] at e1; obtain rfl := Option.some.inj e1; exact h
      refine srun_sound 300 _ _ _ _ ?_
      cases hq : decide (0 ≤ z)
      · have hst' := hst (by rw [hnV, hq]; rfl)
        replace hst := hide hst
        replace hst' := hide hst'
        replace hall := hide hall
        repeat' (first
          | (simp -implicitDefEqProofs only [*, List.getElem?_map, Option.map_some, frI, zr, Nat.reduceAdd, Nat.reduceSub, Nat.reduceMul, Nat.reduceLT, Nat.reduceLeDiff, Nat.reduceEqDiff, Nat.reduceBEq, reduceIte, reduceCtorEq, Int.reduceLE, Int.reduceLT, Int.reduceToNat, Int.reduceEq, Int.reduceNe])
          | ((first | apply condS_splitN | apply condS_split | apply guardS_splitTN | apply guardS_splitFN | apply guardD_splitTN | apply guardD_splitFN | apply guardS_splitT | apply guardS_splitF | apply guardD_splitT | apply guardD_splitF) <;> intro hc)
          | (refine callP0 rfl ?_)
          | (refine callD0 rfl ?_)
          | fail)
        refine ⟨s + 1, ⟨hlt, hst'.out⟩, by omega, ?_⟩
        refine ⟨rfl, (by first | exact small_0 | exact small_mk rfl | (repeat (first | exact small_0 | exact small_mk rfl | refine small_upd rfl ?_ | refine small_sw rfl rfl ?_))), rfl, rfl, (by rfl), ?_, ?_⟩ <;> simp only [zw, swN, ElOk, HlOk, Nat.reduceEqDiff, Nat.reduceBEq, Nat.reduceLT, Nat.reduceLeDiff, reduceIte, reduceCtorEq, H0, AObj.cells.injEq]
      · cases hq2 : decide (z = zx - 1)
        · have hst' := hst (by rw [hnV, hq, hq2]; rfl)
          replace hst := hide hst
          replace hst' := hide hst'
          replace hall := hide hall
          repeat' (first
            | (simp -implicitDefEqProofs only [*, List.getElem?_map, Option.map_some, frI, zr, Nat.reduceAdd, Nat.reduceSub, Nat.reduceMul, Nat.reduceLT, Nat.reduceLeDiff, Nat.reduceEqDiff, Nat.reduceBEq, reduceIte, reduceCtorEq, Int.reduceLE, Int.reduceLT, Int.reduceToNat, Int.reduceEq, Int.reduceNe])
            | ((first | apply condS_splitN | apply condS_split | apply guardS_splitTN | apply guardS_splitFN | apply guardD_splitTN | apply guardD_splitFN | apply guardS_splitT | apply guardS_splitF | apply guardD_splitT | apply guardD_splitF) <;> intro hc)
            | (refine callP0 rfl ?_)
            | (refine callD0 rfl ?_)
            | fail)
          refine ⟨s + 1, ⟨hlt, hst'.out⟩, by omega, ?_⟩
          refine ⟨rfl, (by first | exact small_0 | exact small_mk rfl | (repeat (first | exact small_0 | exact small_mk rfl | refine small_upd rfl ?_ | refine small_sw rfl rfl ?_))), rfl, rfl, (by rfl), ?_, ?_⟩ <;> simp only [zw, swN, ElOk, HlOk, Nat.reduceEqDiff, Nat.reduceBEq, Nat.reduceLT, Nat.reduceLeDiff, reduceIte, reduceCtorEq, H0, AObj.cells.injEq]
        · have hc : isNext F x k = true := by rw [hnV, hq, hq2]; rfl
          have hnx := next_hit hall hk hc
          have hzz : z = zx - 1 := of_decide_eq_true hq2
          have hz0 : 0 ≤ z := of_decide_eq_true hq
          have hO1 : (out.map fN).map AV.f ++ [AV.f (FV.int .i64 k)] = ((out ++ [k]).map fN).map AV.f := by simp [fN]
          have hlen : (out ++ [k]).length = out.length + 1 := by simp
          have hgo2 : out ++ [k] ++ wayGo D F (F.getD k 0).toNat k = wayV D F a := by
            have h1 := hgo.out
            rw [getD_some hzx, show zx.toNat = z.toNat + 1 by omega, wayGo, hDx, hnx] at h1
            rw [getD_some hz, ← h1]; simp
          rw [getD_some hzx] at hol
          replace hst := hide hst
          replace hall := hide hall
          replace hgo2 := hide hgo2
          replace hzz := hide hzz
          replace hz0 := hide hz0
          repeat' (first
            | (simp -implicitDefEqProofs only [*, List.getElem?_map, Option.map_some, frI, zr, Nat.reduceAdd, Nat.reduceSub, Nat.reduceMul, Nat.reduceLT, Nat.reduceLeDiff, Nat.reduceEqDiff, Nat.reduceBEq, reduceIte, reduceCtorEq, Int.reduceLE, Int.reduceLT, Int.reduceToNat, Int.reduceEq, Int.reduceNe])
            | ((first | apply condS_splitN | apply condS_split | apply guardS_splitTN | apply guardS_splitFN | apply guardD_splitTN | apply guardD_splitFN | apply guardS_splitT | apply guardS_splitF | apply guardD_splitT | apply guardD_splitF) <;> intro hc)
            | (refine callP0 rfl ?_)
            | (refine callD0 rfl ?_)
            | fail)
          refine ⟨(k, out ++ [k]), ⟨hkn, by dsimp only; rw [getD_some hz]; exact hz0.out, hgo2.out, ?_⟩, ?_, ?_⟩
          · have := hzz.out; have := hz0.out; dsimp only; rw [getD_some hz, hlen]; omega
          · have := hzz.out; have := hz0.out; dsimp only; rw [getD_some hz, getD_some hzx]; omega
          · dsimp only
            rw [hlen]
            refine ⟨rfl, (by first | exact small_0 | exact small_mk rfl | (repeat (first | exact small_0 | exact small_mk rfl | refine small_upd rfl ?_ | refine small_sw rfl rfl ?_))), rfl, rfl, (by rfl), ?_, ?_⟩ <;> simp only [hO1, zw, swN, ElOk, HlOk, Nat.reduceEqDiff, Nat.reduceBEq, Nat.reduceLT, Nat.reduceLeDiff, reduceIte, reduceCtorEq, H0, AObj.cells.injEq]
    · obtain ⟨k, hk1, hk2⟩ := hex
      obtain ⟨m, hm1⟩ := List.mem_iff_getElem?.1 hk1
      have := hall m k (by have := (List.getElem?_eq_some_iff.1 hm1).1; omega) hm1
      rw [hk2] at this; cases this
end Go.Proofs.YtaiajaibcpkceaaDoor
