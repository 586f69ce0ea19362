/-
  Graphs on the machine: Affected. No statement of the seat is proved here; no conditions.
-/
import Derived.Test.YtaiajaibcpkceaaDoorGrQ
import Derived.Test.YtaiajaibcpkceaaDoorSet
import Derived.Test.YtaiajaibcpkceaaDoorLowC
namespace Go.Proofs.YtaiajaibcpkceaaDoor
open Go.RowKit Go.Shelf
set_option linter.unusedVariables false
set_option linter.unusedSimpArgs false
set_option maxRecDepth 100000

theorem ixf_strs (l : List ByteArray) (fn : FuncId) (caps : List AV) (p : ByteArray → Bool) (hl : l.length ≤ 1000000) (hp : ∀ x ∈ l, FRet Tryd.prog fn ([.f (FV.str x)] ++ caps) [.c (.v (.bool (p x)))]) (hcp : caps.all AV.pure = true) :
    FRet Tryd.prog 51 [.f (.fr 1 (l.map fun x => [FV.str x])), .clo (.func fn) caps] [.c (.v (.int .i64 (ixV p l)))] := by
  refine FCall.of_ax low_slices_IndexFunc_string_string ?_
  dsimp only [l_slices_IndexFunc_string_string]
  refine srun_sound 300 _ _ _ _ ?_
  repeat' (first
    | (simp -implicitDefEqProofs only [*, zr, Nat.reduceAdd, Nat.reduceSub, Nat.reduceMul, Nat.reduceLT, Nat.reduceLeDiff, Nat.reduceEqDiff, Nat.reduceBEq, reduceIte, reduceCtorEq, Int.reduceLE, Int.reduceLT, Int.reduceToNat, Int.reduceEq, Int.reduceNe])
    | ((first | apply condS_splitN | apply condS_split | apply guardS_splitTN | apply guardS_splitFN | apply guardD_splitTN | apply guardD_splitFN | apply guardS_splitT | apply guardS_splitF | apply guardD_splitT | apply guardD_splitF) <;> intro hc)
    | (refine callP0 rfl ?_)
    | (refine callD0 rfl ?_)
    | fail)
  refine ax_loopU (S := Nat) 19 [0, 1, 7] [] (fun s => [(8, .f (.int .i64 s))]) (fun s => []) (fun s => s ≤ l.length ∧ ∀ k x, k < s → l[k]? = some x → p x = false) (fun s => l.length - s) (0) [] ?_ ?_ fun s hs => ?_
  · exact ⟨Nat.zero_le _, fun k x h => absurd h (by omega)⟩
  · refine ⟨rfl, (by first | exact small_0 | exact small_mk rfl | (repeat (first | exact small_0 | exact small_mk rfl | refine small_upd rfl ?_ | refine small_sw rfl rfl ?_))), rfl, rfl, (by rfl), ?_, ?_⟩ <;> simp only [hcp, so_clo, zw, swN, ElOk, HlOk, Nat.reduceEqDiff, Nat.reduceBEq, Nat.reduceLT, Nat.reduceLeDiff, reduceIte, reduceCtorEq, H0, AObj.cells.injEq]
  obtain ⟨hi, hall⟩ := hs
  refine srun_sound 300 _ _ _ _ ?_
  have hA := hide hall
  clear hall
  rcases Nat.lt_or_ge s l.length with hlt | hge
  · obtain ⟨x, hx⟩ := get_some hlt
    have h4 := inc64 hlt (by omega)
    have h2 := lt_t hlt
    have hm := List.mem_of_getElem? hx
    cases hpx : p x
    · repeat' (first
        | (simp -implicitDefEqProofs only [*, List.getElem?_map, Option.map_some, zr, Nat.reduceAdd, Nat.reduceSub, Nat.reduceMul, Nat.reduceLT, Nat.reduceLeDiff, Nat.reduceEqDiff, Nat.reduceBEq, reduceIte, reduceCtorEq, Int.reduceLE, Int.reduceLT, Int.reduceToNat, Int.reduceEq, Int.reduceNe])
        | ((first | apply condS_splitN | apply condS_split | apply guardS_splitTN | apply guardS_splitFN | apply guardD_splitTN | apply guardD_splitFN | apply guardS_splitT | apply guardS_splitF | apply guardD_splitT | apply guardD_splitF) <;> intro hc)
        | (refine callP0 rfl ?_)
        | (refine callD0 rfl ?_)
        | (refine cC (hp x hm) ?_)
        | fail)
      refine ⟨s + 1, ⟨hlt, fun k y hk hy => ?_⟩, by omega, ?_⟩
      · rcases Nat.lt_succ_iff_lt_or_eq.1 hk with h1 | rfl
        · exact hA.out k y h1 hy
        · rw [hx] at hy; obtain rfl := Option.some.inj hy; exact hpx
      · refine ⟨rfl, (by first | exact small_0 | exact small_mk rfl | (repeat (first | exact small_0 | exact small_mk rfl | refine small_upd rfl ?_ | refine small_sw rfl rfl ?_))), rfl, rfl, (by rfl), ?_, ?_⟩ <;> simp only [hcp, so_clo, zw, swN, ElOk, HlOk, Nat.reduceEqDiff, Nat.reduceBEq, Nat.reduceLT, Nat.reduceLeDiff, reduceIte, reduceCtorEq, H0, AObj.cells.injEq]
    · have he := ix_hit hA.out hx hpx
      repeat' (first
        | (simp -implicitDefEqProofs only [*, List.getElem?_map, Option.map_some, zr, Nat.reduceAdd, Nat.reduceSub, Nat.reduceMul, Nat.reduceLT, Nat.reduceLeDiff, Nat.reduceEqDiff, Nat.reduceBEq, reduceIte, reduceCtorEq, Int.reduceLE, Int.reduceLT, Int.reduceToNat, Int.reduceEq, Int.reduceNe])
        | ((first | apply condS_splitN | apply condS_split | apply guardS_splitTN | apply guardS_splitFN | apply guardD_splitTN | apply guardD_splitFN | apply guardS_splitT | apply guardS_splitF | apply guardD_splitT | apply guardD_splitF) <;> intro hc)
        | (refine callP0 rfl ?_)
        | (refine callD0 rfl ?_)
        | (refine cC (hp x hm) ?_)
        | fail)
      exact ret_ve rfl
  · obtain rfl : s = l.length := by omega
    have h2 := lt_f hge
    have he := ix_none hA.out
    repeat' (first
      | (simp -implicitDefEqProofs only [*, zr, Nat.reduceAdd, Nat.reduceSub, Nat.reduceMul, Nat.reduceLT, Nat.reduceLeDiff, Nat.reduceEqDiff, Nat.reduceBEq, reduceIte, reduceCtorEq, Int.reduceLE, Int.reduceLT, Int.reduceToNat, Int.reduceEq, Int.reduceNe])
      | ((first | apply condS_splitN | apply condS_split | apply guardS_splitTN | apply guardS_splitFN | apply guardD_splitTN | apply guardD_splitFN | apply guardS_splitT | apply guardS_splitF | apply guardD_splitT | apply guardD_splitF) <;> intro hc)
      | (refine callP0 rfl ?_)
      | (refine callD0 rfl ?_)
      | fail)
    exact ret_ve rfl
theorem cf_strs (l : List ByteArray) (fn : FuncId) (caps : List AV) (p : ByteArray → Bool) (hl : l.length ≤ 1000000) (hp : ∀ x ∈ l, FRet Tryd.prog fn ([.f (FV.str x)] ++ caps) [.c (.v (.bool (p x)))]) (hcp : caps.all AV.pure = true) :
    FRet Tryd.prog 33 [.f (.fr 1 (l.map fun x => [FV.str x])), .clo (.func fn) caps] [.c (.v (.bool (l.any p)))] := by
  have hI := ixf_strs l fn caps p hl hp hcp
  have he := ix_any p l
  refine FCall.of_ax low_slices_ContainsFunc_string_string ?_
  dsimp only [l_slices_ContainsFunc_string_string]
  refine srun_sound 300 _ _ _ _ ?_
  replace hp := hide hp
  generalize ixV p l = i at *
  generalize l.any p = q at *
  repeat' (first
    | (simp -implicitDefEqProofs only [*, zr, Nat.reduceAdd, Nat.reduceSub, Nat.reduceMul, Nat.reduceLT, Nat.reduceLeDiff, Nat.reduceEqDiff, Nat.reduceBEq, reduceIte, reduceCtorEq, Int.reduceLE, Int.reduceLT, Int.reduceToNat, Int.reduceEq, Int.reduceNe])
    | ((first | apply condS_splitN | apply condS_split | apply guardS_splitTN | apply guardS_splitFN | apply guardD_splitTN | apply guardD_splitFN | apply guardS_splitT | apply guardS_splitF | apply guardD_splitT | apply guardD_splitF) <;> intro hc)
    | (refine callP0 rfl ?_)
    | (refine callD0 rfl ?_)
    | fail)
  refine cP hI ?_ (hp := by simpa [AV.pure, AV.pureL_all] using hcp)
  repeat' (first
    | (simp -implicitDefEqProofs only [*, zr, Nat.reduceAdd, Nat.reduceSub, Nat.reduceMul, Nat.reduceLT, Nat.reduceLeDiff, Nat.reduceEqDiff, Nat.reduceBEq, reduceIte, reduceCtorEq, Int.reduceLE, Int.reduceLT, Int.reduceToNat, Int.reduceEq, Int.reduceNe])
    | ((first | apply condS_splitN | apply condS_split | apply guardS_splitTN | apply guardS_splitFN | apply guardD_splitTN | apply guardD_splitFN | apply guardS_splitT | apply guardS_splitF | apply guardD_splitT | apply guardD_splitF) <;> intro hc)
    | (refine callP0 rfl ?_)
    | (refine callD0 rfl ?_)
    | fail)
  exact ret_ve rfl

theorem affC_f (s : ByteArray) (l : List ByteArray) : FRet Tryd.prog 34 ([.f (.str s)] ++ [.f (.fp [.fm (setL l)])]) [.c (.v (.bool (hasS s l)))] := by
  refine FCall.of_ax low_graph_Affected_c1 ?_
  dsimp only [l_graph_Affected_c1]
  refine srun_sound 300 _ _ _ _ ?_
  cases hh : hasS s l
  · have h := mGet_f hh
    repeat' (first
      | (simp -implicitDefEqProofs only [*, zr, Nat.reduceAdd, Nat.reduceSub, Nat.reduceMul, Nat.reduceLT, Nat.reduceLeDiff, Nat.reduceEqDiff, Nat.reduceBEq, reduceIte, reduceCtorEq, Int.reduceLE, Int.reduceLT, Int.reduceToNat, Int.reduceEq, Int.reduceNe])
      | ((first | apply condS_splitN | apply condS_split | apply guardS_splitTN | apply guardS_splitFN | apply guardD_splitTN | apply guardD_splitFN | apply guardS_splitT | apply guardS_splitF | apply guardD_splitT | apply guardD_splitF) <;> intro hc)
      | (refine callP0 rfl ?_)
      | (refine callD0 rfl ?_)
      | fail)
    exact ret_ve rfl
  · have h := mGet_t hh
    repeat' (first
      | (simp -implicitDefEqProofs only [*, zr, Nat.reduceAdd, Nat.reduceSub, Nat.reduceMul, Nat.reduceLT, Nat.reduceLeDiff, Nat.reduceEqDiff, Nat.reduceBEq, reduceIte, reduceCtorEq, Int.reduceLE, Int.reduceLT, Int.reduceToNat, Int.reduceEq, Int.reduceNe])
      | ((first | apply condS_splitN | apply condS_split | apply guardS_splitTN | apply guardS_splitFN | apply guardD_splitTN | apply guardD_splitFN | apply guardS_splitT | apply guardS_splitF | apply guardD_splitT | apply guardD_splitF) <;> intro hc)
      | (refine callP0 rfl ?_)
      | (refine callD0 rfl ?_)
      | fail)
    exact ret_ve rfl
theorem ck_files {n : Node} (h : ckNode n = 0) : n.2.2.2.1.length ≤ 1000 ∧ 0 ≤ n.2.2.2.2.2 ∧ n.2.2.2.2.2 ≤ 1000000 := by
  unfold ckNode at h
  split at h
  · cases h
  · split at h
    · cases h
    · split at h
      · cases h
      · split at h
        · rename_i h1; exact absurd h h1
        · split at h
          · cases h
          · rename_i h1
            refine ⟨by omega, ?_⟩
            split at h
            · rename_i h2; exact absurd h h2
            · split at h
              · cases h
              · split at h
                · rename_i h2; exact absurd h h2
                · split at h
                  · cases h
                  · rename_i h3
                    simp only [Bool.or_eq_true, decide_eq_true_eq] at h3
                    omega
def afP (g : Graph) (fs : List ByteArray) (i : Nat) : Bool := match g[i]? with
  | some x => x.2.2.2.1.any fun p => hasS p fs
  | none => false
theorem afP_of {g : Graph} {fs : List ByteArray} {i : Nat} {x : Node} (h : g[i]? = some x) : afP g fs i = x.2.2.2.1.any fun p => hasS p fs := by unfold afP; rw [h]
def fromV (g : Graph) (fs : List ByteArray) : List Nat := (List.range g.length).filter (afP g fs)
theorem from_lt {g : Graph} {fs : List ByteArray} : (fromV g fs).length ≤ g.length ∧ ∀ k ∈ fromV g fs, k < g.length := by
  refine ⟨?_, fun k hk => List.mem_range.1 (List.mem_filter.1 hk).1⟩
  have := List.length_filter_le (afP g fs) (List.range g.length)
  rwa [List.length_range] at this
def afErr (g : Graph) (fs : List ByteArray) : Int := if treeErr g ≠ 0 then treeErr g else if 1000 < fs.length then 2 else if fs.all isPathV = true then 0 else 3
def afV (g : Graph) (fs : List ByteArray) : List Nat := withinV (usersOf g) g.length (fromV g fs) (-1)
theorem Affected_f (g : Graph) (hb : GBound g) (fs : List ByteArray) (hfl : (fs.length : Int) ≤ 9223372036854775807) : FRet Tryd.prog 16 [.f (frNodes g), .f (frStrs fs)]
    [.c (.v (if afErr g fs = 0 then frStrs ((afV g fs).map (labN g)) else .nil)), .c (.v (.int .i64 (afErr g fs)))] := by
  have hT := tree_f g hb
  refine FCall.of_ax low_graph_Affected ?_
  dsimp only [l_graph_Affected]
  refine srun_sound 300 _ _ _ _ ?_
  by_cases h0 : treeErr g = 0
  · obtain ⟨hG, o, ho⟩ := tree_ok h0
    have hN := net_ok hG
    have hgl := hG.len
    rw [h0, if_pos rfl, if_pos rfl, ho] at hT
    dsimp only [ordR] at hT
    have e0 : afErr g fs = if 1000 < fs.length then 2 else if fs.all isPathV = true then 0 else 3 := by unfold afErr; rw [if_neg (by rw [h0]; exact fun h => h rfl)]
    by_cases h1 : 1000 < fs.length
    · rw [if_pos h1] at e0
      rw [e0, if_neg (by decide)]
      have d1 : decide ((1000 : Int) < (fs.length : Int)) = true := dec_t (by omega)
      replace e0 := hide e0
      replace hN := hide hN
      replace hG := hide hG
      replace ho := hide ho
      repeat' (first
        | (simp -implicitDefEqProofs only [*, frStrs, zr, Nat.reduceAdd, Nat.reduceSub, Nat.reduceMul, Nat.reduceLT, Nat.reduceLeDiff, Nat.reduceEqDiff, Nat.reduceBEq, reduceIte, reduceCtorEq, Int.reduceLE, Int.reduceLT, Int.reduceToNat, Int.reduceEq, Int.reduceNe])
        | ((first | apply condS_splitN | apply condS_split | apply guardS_splitTN | apply guardS_splitFN | apply guardD_splitTN | apply guardD_splitFN | apply guardS_splitT | apply guardS_splitF | apply guardD_splitT | apply guardD_splitF) <;> intro hc)
        | (refine callP0 rfl ?_)
        | (refine callD0 rfl ?_)
        | (refine cP (hT) ?_)
        | (refine cD (hT) ?_)
        | (refine cF (hT) ?_)
        | fail)
      exact ret_vve rfl rfl
    · rw [if_neg h1] at e0
      have d1 : decide ((1000 : Int) < (fs.length : Int)) = false := dec_f (by omega)
      replace e0 := hide e0
      replace hN := hide hN
      replace hG := hide hG
      replace ho := hide ho
      repeat' (first
        | (simp -implicitDefEqProofs only [*, frStrs, zr, Nat.reduceAdd, Nat.reduceSub, Nat.reduceMul, Nat.reduceLT, Nat.reduceLeDiff, Nat.reduceEqDiff, Nat.reduceBEq, reduceIte, reduceCtorEq, Int.reduceLE, Int.reduceLT, Int.reduceToNat, Int.reduceEq, Int.reduceNe])
        | ((first | apply condS_splitN | apply condS_split | apply guardS_splitTN | apply guardS_splitFN | apply guardD_splitTN | apply guardD_splitFN | apply guardS_splitT | apply guardS_splitF | apply guardD_splitT | apply guardD_splitF) <;> intro hc)
        | (refine callP0 rfl ?_)
        | (refine callD0 rfl ?_)
        | (refine cP (hT) ?_)
        | (refine cD (hT) ?_)
        | (refine cF (hT) ?_)
        | fail)
      refine ax_loopU (S := Nat) 64 [0, 6, 9, 28, 29] [9] (fun s => [(30, .f (.int .i64 s))]) (fun s => [(27, 1, AObj.map (setL (fs.take s)))]) (fun s => s ≤ fs.length ∧ ∀ (m : Nat) x, m < s → fs[m]? = some x → isPathV x = true) (fun s => fs.length - s) (0) [] ?_ ?_ fun s hs => ?_
      · exact ⟨Nat.zero_le _, fun m x h => absurd h (Nat.not_lt_zero _)⟩
      · refine ⟨rfl, (by first | exact small_0 | exact small_mk rfl | (repeat (first | exact small_0 | exact small_mk rfl | refine small_upd rfl ?_ | refine small_sw rfl rfl ?_))), rfl, rfl, (by rfl), ?_, ?_⟩ <;> simp only [List.take_zero, zw, swN, ElOk, HlOk, Nat.reduceEqDiff, Nat.reduceBEq, Nat.reduceLT, Nat.reduceLeDiff, reduceIte, reduceCtorEq, H0, AObj.cells.injEq]
        rfl
      obtain ⟨hi, hall⟩ := hs
      rcases Nat.lt_or_ge s fs.length with hlt | hge
      · refine srun_sound 300 _ _ _ _ ?_
        obtain ⟨x, hx⟩ := get_some hlt
        have h4 := inc64 hlt (by omega)
        have h2 := lt_t hlt
        have hP := isPath_f x
        cases hc : isPathV x
        · have e9 : afErr g fs = 3 := by
            rw [e0.out, if_neg]
            intro h
            rw [List.all_eq_true] at h
            rw [h x (List.mem_of_getElem? hx)] at hc; cases hc
          rw [hc] at hP
          rw [e9, if_neg (by decide)]
          replace hall := hide hall
          repeat' (first
            | (simp -implicitDefEqProofs only [*, List.getElem?_map, Option.map_some, zr, Nat.reduceAdd, Nat.reduceSub, Nat.reduceMul, Nat.reduceLT, Nat.reduceLeDiff, Nat.reduceEqDiff, Nat.reduceBEq, reduceIte, reduceCtorEq, Int.reduceLE, Int.reduceLT, Int.reduceToNat, Int.reduceEq, Int.reduceNe])
            | ((first | apply condS_splitN | apply condS_split | apply guardS_splitTN | apply guardS_splitFN | apply guardD_splitTN | apply guardD_splitFN | apply guardS_splitT | apply guardS_splitF | apply guardD_splitT | apply guardD_splitF) <;> intro hc)
            | (refine callP0 rfl ?_)
            | (refine callD0 rfl ?_)
            | (refine cP (hP) ?_)
            | (refine cD (hP) ?_)
            | (refine cF (hP) ?_)
            | fail)
          exact ret_vve rfl rfl
        · rw [hc] at hP
          have hst2 : ∀ (m : Nat) y, m < s + 1 → fs[m]? = some y → isPathV y = true := fun m y hm hy => by
            rcases Nat.lt_or_ge m s with h3 | h3
            · exact hall m y h3 hy
            · obtain rfl : m = s := by omega
              rw [hx] at hy; obtain rfl := Option.some.inj hy; exact hc
          replace hst2 := hide hst2
          replace hall := hide hall
          have hs2 : setL (fs.take (s + 1)) = mSet x (.bool true) (setL (fs.take s)) := by rw [List.take_add_one, hx, setL_snoc]; rfl
          repeat' (first
            | (simp -implicitDefEqProofs only [*, List.getElem?_map, Option.map_some, zr, Nat.reduceAdd, Nat.reduceSub, Nat.reduceMul, Nat.reduceLT, Nat.reduceLeDiff, Nat.reduceEqDiff, Nat.reduceBEq, reduceIte, reduceCtorEq, Int.reduceLE, Int.reduceLT, Int.reduceToNat, Int.reduceEq, Int.reduceNe])
            | ((first | apply condS_splitN | apply condS_split | apply guardS_splitTN | apply guardS_splitFN | apply guardD_splitTN | apply guardD_splitFN | apply guardS_splitT | apply guardS_splitF | apply guardD_splitT | apply guardD_splitF) <;> intro hc)
            | (refine callP0 rfl ?_)
            | (refine callD0 rfl ?_)
            | (refine cP (hP) ?_)
            | (refine cD (hP) ?_)
            | (refine cF (hP) ?_)
            | fail)
          refine ⟨s + 1, ⟨hlt, hst2.out⟩, by omega, ?_⟩
          rw [hs2]
          refine ⟨rfl, (by first | exact small_0 | exact small_mk rfl | (repeat (first | exact small_0 | exact small_mk rfl | refine small_upd rfl ?_ | refine small_sw rfl rfl ?_))), rfl, rfl, (by rfl), ?_, ?_⟩ <;> simp only [zw, swN, ElOk, HlOk, Nat.reduceEqDiff, Nat.reduceBEq, Nat.reduceLT, Nat.reduceLeDiff, reduceIte, reduceCtorEq, H0, AObj.cells.injEq]
      obtain rfl : s = fs.length := by omega
      have h2 := lt_f hge
      have ez : afErr g fs = 0 := by
        rw [e0.out, if_pos]
        rw [List.all_eq_true]
        intro x hx
        obtain ⟨m, hm⟩ := List.mem_iff_getElem?.1 hx
        exact hall m x (List.getElem?_eq_some_iff.1 hm).1 hm
      rw [ez, if_pos rfl]
      rw [List.take_length]
      replace hall := hide hall
      have hW := within_f (usersOf g) (fromV g fs) g.length (-1) hN.out.ul hgl hN.out.ur from_lt.2 (by have := (from_lt (g := g) (fs := fs)).1; omega)
      have hL := labels_f g (allDeps g) (usersOf g) (afV g fs) (by have := (within_lt (E := usersOf g) (n := g.length) (from_ := fromV g fs) (most := -1)).1; unfold afV; omega) (within_lt).2
      change FRet Tryd.prog _ _ [.c (.v (frN (afV g fs)))] at hW
      refine ax_weak (nw := []) (n := 64) (el := [(0, .f (frNodes g)), (6, .f (fNet g (allDeps g) (usersOf g))), (9, .ptr 9 1 0), (29, .f (.int .i64 fs.length)), (30, .f (.int .i64 fs.length))]) (hl := [(9, 1, .cells [.f (.fm (setL fs))])]) ?_ ?_
      · refine ⟨rfl, (by first | exact small_0 | exact small_mk rfl | (repeat (first | exact small_0 | exact small_mk rfl | refine small_upd rfl ?_ | refine small_sw rfl rfl ?_))), rfl, rfl, (by rfl), ?_, ?_⟩ <;> simp only [so_mf, mapOfH_some, so_ptf, so_cc, so_ff', cellsOf_some, List.drop_zero, List.take_succ_cons, List.take_zero, Nat.zero_add, zw, swN, ElOk, HlOk, Nat.reduceEqDiff, Nat.reduceBEq, Nat.reduceLT, Nat.reduceLeDiff, reduceIte, reduceCtorEq, H0, AObj.cells.injEq]
        exact .inl rfl
      refine ax_weak (nw := []) (n := 64) (el := [(0, .f (frNodes g)), (6, .f (fNet g (allDeps g) (usersOf g))), (9, .f (.fp [.fm (setL fs)])), (29, .f (.int .i64 fs.length)), (30, .f (.int .i64 fs.length))]) (hl := []) ?_ ?_
      · refine ⟨rfl, (by first | exact small_0 | exact small_mk rfl | (repeat (first | exact small_0 | exact small_mk rfl | refine small_upd rfl ?_ | refine small_sw rfl rfl ?_))), rfl, rfl, (by rfl), ?_, ?_⟩ <;> simp only [so_mf, mapOfH_some, so_ptf, so_cc, so_ff', cellsOf_some, List.drop_zero, List.take_succ_cons, List.take_zero, Nat.zero_add, zw, swN, ElOk, HlOk, Nat.reduceEqDiff, Nat.reduceBEq, Nat.reduceLT, Nat.reduceLeDiff, reduceIte, reduceCtorEq, H0, AObj.cells.injEq]
      refine srun_sound 300 _ _ _ _ ?_
      repeat' (first
        | (simp -implicitDefEqProofs only [*, frNodes, zr, Nat.reduceAdd, Nat.reduceSub, Nat.reduceMul, Nat.reduceLT, Nat.reduceLeDiff, Nat.reduceEqDiff, Nat.reduceBEq, reduceIte, reduceCtorEq, Int.reduceLE, Int.reduceLT, Int.reduceToNat, Int.reduceEq, Int.reduceNe])
        | ((first | apply condS_splitN | apply condS_split | apply guardS_splitTN | apply guardS_splitFN | apply guardD_splitTN | apply guardD_splitFN | apply guardS_splitT | apply guardS_splitF | apply guardD_splitT | apply guardD_splitF) <;> intro hc)
        | (refine callP0 rfl ?_)
        | (refine callD0 rfl ?_)
        | fail)
      have hlim : ∀ s, s ≤ g.length → ((List.range s).filter (afP g fs)).length ≤ s := fun s hs => by
        have := List.length_filter_le (afP g fs) (List.range s)
        rwa [List.length_range] at this
      have hcf := fun l h => cf_strs l 34 [.f (.fp [.fm (setL fs)])] (fun p => hasS p fs) h (fun x _ => affC_f x fs) rfl
      have hck := fun n hn => ck_files (hG.out.nodes n hn)
      replace hlim := hide hlim
      replace hcf := hide hcf
      replace hck := hide hck
      refine ax_loopU (S := Nat) 64 [6, 9, 40, 41] [] (fun s => [(12, .sl 54 1 1 0 ((List.range s).filter (afP g fs)).length), (42, .f (.int .i64 s))]) (fun s => [(54, 1, .cells ((((List.range s).filter (afP g fs)).map fN).map .f))]) (fun s => s ≤ g.length) (fun s => g.length - s) (0) [54] ?_ ?_ fun s hs => ?_
      · exact Nat.zero_le _
      · refine ⟨rfl, (by first | exact small_0 | exact small_mk rfl | (repeat (first | exact small_0 | exact small_mk rfl | refine small_upd rfl ?_ | refine small_sw rfl rfl ?_))), rfl, rfl, (by rfl), ?_, ?_⟩ <;> simp only [List.range_zero, List.filter_nil, zw, swN, ElOk, HlOk, Nat.reduceEqDiff, Nat.reduceBEq, Nat.reduceLT, Nat.reduceLeDiff, reduceIte, reduceCtorEq, H0, AObj.cells.injEq]
      rcases Nat.lt_or_ge s g.length with hlt | hge
      · refine srun_sound 300 _ _ _ _ ?_
        obtain ⟨x, hx⟩ := get_some hlt
        have h4 := inc64 hlt (by omega)
        have h2 := lt_t hlt
        have hL := hlim.out s hs
        have hnx : (List.range (s + 1)).filter (afP g fs) = (List.range s).filter (afP g fs) ++ (if afP g fs s = true then [s] else []) := by
          rw [List.range_succ, List.filter_append, List.filter_cons, List.filter_nil]
        rw [afP_of hx] at hnx
        have hst : (((List.range s).filter (afP g fs)).map fN).map AV.f ++ [.f (.int .i64 s)] = ((((List.range s).filter (afP g fs)) ++ [s]).map fN).map AV.f := by simp [fN]
        have hlen : (((List.range s).filter (afP g fs)) ++ [s]).length = ((List.range s).filter (afP g fs)).length + 1 := by simp
        have hC := hcf.out x.2.2.2.1 (by have := (hck.out x (List.mem_of_getElem? hx)).1; omega)
        generalize (List.range s).filter (afP g fs) = L at *
        generalize (x.2.2.2.1.any fun p => hasS p fs) = q at *
        have hk8 := nle_t (show (L.length + 1) * 8 ≤ 140737488355328 by omega)
        cases q
        · rw [if_neg (by decide), List.append_nil] at hnx
          replace hnx := hide hnx
          repeat' (first
            | (simp -implicitDefEqProofs only [*, List.getElem?_map, Option.map_some, fNode, frStrs, zr, Nat.reduceAdd, Nat.reduceSub, Nat.reduceMul, Nat.reduceLT, Nat.reduceLeDiff, Nat.reduceEqDiff, Nat.reduceBEq, reduceIte, reduceCtorEq, Int.reduceLE, Int.reduceLT, Int.reduceToNat, Int.reduceEq, Int.reduceNe])
            | ((first | apply condS_splitN | apply condS_split | apply guardS_splitTN | apply guardS_splitFN | apply guardD_splitTN | apply guardD_splitFN | apply guardS_splitT | apply guardS_splitF | apply guardD_splitT | apply guardD_splitF) <;> intro hc)
            | (refine callP0 rfl ?_)
            | (refine callD0 rfl ?_)
            | (refine cP (hC) ?_)
            | (refine cD (hC) ?_)
            | (refine cF (hC) ?_)
            | fail)
          refine ⟨s + 1, hlt, by omega, ?_⟩
          rw [hnx.out]
          refine ⟨rfl, (by first | exact small_0 | exact small_mk rfl | (repeat (first | exact small_0 | exact small_mk rfl | refine small_upd rfl ?_ | refine small_sw rfl rfl ?_))), rfl, rfl, (by rfl), ?_, ?_⟩ <;> simp only [zw, swN, ElOk, HlOk, Nat.reduceEqDiff, Nat.reduceBEq, Nat.reduceLT, Nat.reduceLeDiff, reduceIte, reduceCtorEq, H0, AObj.cells.injEq]
        · rw [if_pos rfl] at hnx
          replace hnx := hide hnx
          repeat' (first
            | (simp -implicitDefEqProofs only [*, List.getElem?_map, Option.map_some, fNode, frStrs, zr, Nat.reduceAdd, Nat.reduceSub, Nat.reduceMul, Nat.reduceLT, Nat.reduceLeDiff, Nat.reduceEqDiff, Nat.reduceBEq, reduceIte, reduceCtorEq, Int.reduceLE, Int.reduceLT, Int.reduceToNat, Int.reduceEq, Int.reduceNe])
            | ((first | apply condS_splitN | apply condS_split | apply guardS_splitTN | apply guardS_splitFN | apply guardD_splitTN | apply guardD_splitFN | apply guardS_splitT | apply guardS_splitF | apply guardD_splitT | apply guardD_splitF) <;> intro hc)
            | (refine callP0 rfl ?_)
            | (refine callD0 rfl ?_)
            | (refine cP (hC) ?_)
            | (refine cD (hC) ?_)
            | (refine cF (hC) ?_)
            | fail)
          refine ⟨s + 1, hlt, by omega, ?_⟩
          rw [hnx.out, hlen]
          refine ⟨rfl, (by first | exact small_0 | exact small_mk rfl | (repeat (first | exact small_0 | exact small_mk rfl | refine small_upd rfl ?_ | refine small_sw rfl rfl ?_))), rfl, rfl, (by rfl), ?_, ?_⟩ <;> simp only [hst, zw, swN, ElOk, HlOk, Nat.reduceEqDiff, Nat.reduceBEq, Nat.reduceLT, Nat.reduceLeDiff, reduceIte, reduceCtorEq, H0, AObj.cells.injEq]
      obtain rfl : s = g.length := by omega
      have g2 := lt_f hge
      refine ax_weak (nw := []) (n := 64) (el := [(6, .f (fNet g (allDeps g) (usersOf g))), (12, .f (frN (fromV g fs))), (41, .f (.int .i64 g.length)), (42, .f (.int .i64 g.length))]) (hl := []) ?_ ?_
      · refine ⟨rfl, small_mk rfl, rfl, rfl, rfl, ⟨by decide, .inl rfl, by decide, ?_, by decide, .inl rfl, by decide, .inl rfl, trivial⟩, trivial⟩
        have hso : ∀ L : List Nat, SlotOk (mkH [(54, 1, .cells ((L.map fN).map .f))]) (mkH []) [] (.sl 54 1 1 0 L.length) (.f (frN L)) := fun L => by
          rw [frN_eq]; exact so_cells1 (l := L.map fN) rfl rfl (List.length_map _)
        exact hso _
      refine srun_sound 300 _ _ _ _ ?_
      generalize afV g fs = W at *
      generalize fromV g fs = V at *
      unfold fNet at *
      repeat' (first
        | (simp -implicitDefEqProofs only [*, zr, Nat.reduceAdd, Nat.reduceSub, Nat.reduceMul, Nat.reduceLT, Nat.reduceLeDiff, Nat.reduceEqDiff, Nat.reduceBEq, reduceIte, reduceCtorEq, Int.reduceLE, Int.reduceLT, Int.reduceToNat, Int.reduceEq, Int.reduceNe])
        | ((first | apply condS_splitN | apply condS_split | apply guardS_splitTN | apply guardS_splitFN | apply guardD_splitTN | apply guardD_splitFN | apply guardS_splitT | apply guardS_splitF | apply guardD_splitT | apply guardD_splitF) <;> intro hc)
        | (refine callP0 rfl ?_)
        | (refine callD0 rfl ?_)
        | (refine cP (hW) ?_)
        | (refine cD (hW) ?_)
        | (refine cF (hW) ?_)
        | (refine cP (hL) ?_)
        | (refine cD (hL) ?_)
        | (refine cF (hL) ?_)
        | fail)
      exact ret_vve rfl rfl
  · have e0 : afErr g fs = treeErr g := by unfold afErr; rw [if_pos h0]
    rw [e0, if_neg h0]
    rw [if_neg h0, if_neg h0] at hT
    have hd := dec_f h0
    generalize treeErr g = e at *
    repeat' (first
      | (simp -implicitDefEqProofs only [*, zr, Nat.reduceAdd, Nat.reduceSub, Nat.reduceMul, Nat.reduceLT, Nat.reduceLeDiff, Nat.reduceEqDiff, Nat.reduceBEq, reduceIte, reduceCtorEq, Int.reduceLE, Int.reduceLT, Int.reduceToNat, Int.reduceEq, Int.reduceNe])
      | ((first | apply condS_splitN | apply condS_split | apply guardS_splitTN | apply guardS_splitFN | apply guardD_splitTN | apply guardD_splitFN | apply guardS_splitT | apply guardS_splitF | apply guardD_splitT | apply guardD_splitF) <;> intro hc)
      | (refine callP0 rfl ?_)
      | (refine callD0 rfl ?_)
      | (refine cP (hT) ?_)
      | (refine cD (hT) ?_)
      | (refine cF (hT) ?_)
      | fail)
    exact ret_vve rfl rfl
end Go.Proofs.YtaiajaibcpkceaaDoor
