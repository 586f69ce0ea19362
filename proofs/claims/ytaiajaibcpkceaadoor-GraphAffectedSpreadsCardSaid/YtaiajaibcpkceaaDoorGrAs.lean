/-
  The law AffectedSpreads, walked. No statement of the seat is proved here; no conditions.
-/
import Derived.Test.YtaiajaibcpkceaaDoorGrAf
import Derived.Test.YtaiajaibcpkceaaDoorGrNt
namespace Go.Proofs.YtaiajaibcpkceaaDoor
open Go.RowKit Go.Shelf
set_option linter.unusedVariables false
set_option linter.unusedSimpArgs false
set_option maxRecDepth 100000

theorem afErr_ok {g : Graph} {fs : List ByteArray} (h : afErr g fs = 0) : GOk g ∧ treeErr g = 0 ∧ fs.length ≤ 1000 ∧ fs.all isPathV = true := by
  unfold afErr at h
  split at h
  · rename_i h1; exact absurd h h1
  · rename_i h1
    have h0 : treeErr g = 0 := by simpa using h1
    split at h
    · cases h
    · split at h
      · rename_i h2 h3; exact ⟨(tree_ok h0).1, h0, by omega, h3⟩
      · cases h
theorem afErr_one {g : Graph} {fs : List ByteArray} (h : afErr g fs = 0) {f : ByteArray} (hf : f ∈ fs) : afErr g [f] = 0 := by
  obtain ⟨_, h0, _, h3⟩ := afErr_ok h
  unfold afErr
  rw [if_neg (by rw [h0]; exact fun h => h rfl), if_neg (by simp), if_pos (by simp [List.all_eq_true.1 h3 f hf])]
theorem af_mem {g : Graph} (hG : GOk g) {fs : List ByteArray} {k : Nat} : k ∈ afV g fs ↔ k < g.length ∧ ∃ a, a ∈ fromV g fs ∧ ∃ j, Walk (usersOf g) j a k := by
  have hN := net_ok hG
  rw [afV, withinV, List.mem_filter, List.mem_range]
  refine and_congr_right fun hk => ?_
  rw [inM_iff (rowU_lt hN) from_lt.2 hk]
  exact ⟨fun ⟨a, h1, j, _, h2⟩ => ⟨a, h1, j, h2⟩, fun ⟨a, h1, j, h2⟩ => ⟨a, h1, j, .inl (by decide), h2⟩⟩
theorem from_mem {g : Graph} {fs : List ByteArray} {a : Nat} : a ∈ fromV g fs ↔ ∃ x, g[a]? = some x ∧ ∃ p ∈ x.2.2.2.1, p ∈ fs := by
  rw [fromV, List.mem_filter, List.mem_range]
  constructor
  · rintro ⟨h1, h2⟩
    have hx := List.getElem?_eq_getElem h1
    rw [afP_of hx, List.any_eq_true] at h2
    obtain ⟨p, h3, h4⟩ := h2
    exact ⟨_, hx, p, h3, hasS_iff.1 h4⟩
  · rintro ⟨x, hx, p, h3, h4⟩
    refine ⟨(List.getElem?_eq_some_iff.1 hx).1, ?_⟩
    rw [afP_of hx, List.any_eq_true]
    exact ⟨p, h3, hasS_iff.2 h4⟩
theorem af_sub {g : Graph} (hG : GOk g) {fs : List ByteArray} {f : ByteArray} (hf : f ∈ fs) {k : Nat} (h : k ∈ afV g [f]) : k ∈ afV g fs := by
  rw [af_mem hG] at h ⊢
  obtain ⟨hk, a, h1, j, h2⟩ := h
  refine ⟨hk, a, ?_, j, h2⟩
  rw [from_mem] at h1 ⊢
  obtain ⟨x, hx, p, h3, h4⟩ := h1
  exact ⟨x, hx, p, h3, by rw [List.mem_singleton.1 h4]; exact hf⟩
theorem af_one {g : Graph} (hG : GOk g) {fs : List ByteArray} {k : Nat} (h : k ∈ afV g fs) : ∃ f ∈ fs, k ∈ afV g [f] := by
  rw [af_mem hG] at h
  obtain ⟨hk, a, h1, j, h2⟩ := h
  rw [from_mem] at h1
  obtain ⟨x, hx, p, h3, h4⟩ := h1
  refine ⟨p, h4, ?_⟩
  rw [af_mem hG]
  exact ⟨hk, a, from_mem.2 ⟨x, hx, p, h3, List.mem_singleton.2 rfl⟩, j, h2⟩
theorem count_any {α : Type} (P : Nat → Bool) (Q : α → Nat → Bool) (fs : List α) : ∀ l : List Nat, (∀ k ∈ l, P k = true → ∃ f ∈ fs, Q f k = true) → (l.filter P).length ≤ (fs.map fun f => (l.filter (Q f)).length).sum
  | [], _ => by simp
  | k :: l, h => by
    have ih := count_any P Q fs l fun k' hk' => h k' (List.mem_cons_of_mem _ hk')
    have hadd : ∀ fs : List α, (fs.map fun f => ((k :: l).filter (Q f)).length).sum = (fs.map fun f => (l.filter (Q f)).length).sum + (fs.countP fun f => Q f k) := fun fs => by
      induction fs with
      | nil => rfl
      | cons f fs ih =>
        rw [List.map_cons, List.sum_cons, ih, List.map_cons, List.sum_cons, List.countP_cons, List.filter_cons]
        split
        · rw [List.length_cons]; omega
        · omega
    rw [hadd, List.filter_cons]
    split
    · rename_i hp
      obtain ⟨f, hf, hq⟩ := h k (List.mem_cons_self ..) hp
      have : 0 < fs.countP fun f => Q f k := List.countP_pos_iff.2 ⟨f, hf, hq⟩
      rw [List.length_cons]; omega
    · omega
theorem af_len {g : Graph} (hG : GOk g) (fs : List ByteArray) : (afV g fs).length ≤ (fs.map fun f => (afV g [f]).length).sum := by
  refine count_any _ (fun f => inM (stepsV (usersOf g) g.length (fromV g [f])) (-1)) fs (List.range g.length) fun k hk hp => ?_
  obtain ⟨f, hf, h⟩ := af_one hG (List.mem_filter.2 ⟨hk, hp⟩)
  exact ⟨f, hf, (List.mem_filter.1 h).2⟩
theorem af_lt {g : Graph} {fs : List ByteArray} : (afV g fs).length ≤ g.length ∧ ∀ k ∈ afV g fs, k < g.length := within_lt
/-- What needs an affected one is affected. -/
theorem af_up {g : Graph} (hG : GOk g) {fs : List ByteArray} {i : Nat} {x : Node} {t : ByteArray} (hx : g[i]? = some x) (ht : t ∈ x.2.2.1) (h : decide (0 ≤ ixS ((afV g fs).map (labN g)) t) = true) : decide (0 ≤ ixS ((afV g fs).map (labN g)) x.1) = true := by
  rw [ix_mem, decide_eq_true_eq] at h ⊢
  obtain ⟨k, hk, rfl⟩ := List.mem_map.1 h
  have hkl := af_lt.2 k hk
  have hil := (List.getElem?_eq_some_iff.1 hx).1
  have hd := (dep_lab hG hx).2 ⟨hkl, ht⟩
  have hu := net_mutual' hG k i hkl hil hd
  refine List.mem_map.2 ⟨i, ?_, labN_of hx⟩
  rw [af_mem hG] at hk ⊢
  obtain ⟨_, a, h1, j, h2⟩ := hk
  exact ⟨hil, a, h1, j + 1, k, h2, hu⟩
def manyTo (g : Graph) (fs : List ByteArray) (s : Nat) : Nat := ((fs.take s).map fun f => (afV g [f]).length).sum
theorem many_step {g : Graph} {fs : List ByteArray} {s : Nat} {f : ByteArray} (h : fs[s]? = some f) : manyTo g fs (s + 1) = manyTo g fs s + (afV g [f]).length := by
  rw [manyTo, manyTo, List.take_add_one, h, List.map_append, List.sum_append]; simp
theorem many_le {g : Graph} {fs : List ByteArray} : ∀ s : Nat, s ≤ fs.length → manyTo g fs s ≤ s * g.length
  | 0, _ => by simp [manyTo]
  | s + 1, h => by
    rw [many_step (List.getElem?_eq_getElem (show s < fs.length by omega)), Nat.add_mul]
    have := many_le (g := g) (fs := fs) s (by omega)
    have := (af_lt (g := g) (fs := [fs[s]])).1
    omega
theorem affSpread_f (g : Graph) (hb : GBound g) (fs : List ByteArray) (hfl : (fs.length : Int) ≤ 9223372036854775807) : FRet Tryd.prog 5 [.f (frNodes g), .f (frStrs fs)] [.c (.v (.bool true))] := by
  have hF := Affected_f g hb fs hfl
  have hF1 := fun f => Affected_f g hb [f] (by simp)
  have hA := awake_f
  refine FCall.of_ax low_law4_GraphAffectedSpreads ?_
  dsimp only [l_law4_GraphAffectedSpreads]
  refine srun_sound 300 _ _ _ _ ?_
  by_cases h0 : afErr g fs = 0
  · obtain ⟨hG, ht, hf1, hfp⟩ := afErr_ok h0
    have hgl := hG.len
    rw [h0, if_pos rfl] at hF
    have hone := fun f (hf : f ∈ fs) => afErr_one h0 hf
    have hXl : ((afV g fs).map (labN g)).length ≤ 1000 := by rw [List.length_map]; have := (af_lt (g := g) (fs := fs)).1; omega
    have hlen := af_len hG fs
    have hml := fun s h => many_le (g := g) (fs := fs) s h
    have hup := fun i x t h1 h2 => af_up hG (fs := fs) (i := i) (x := x) (t := t) h1 h2
    have hsub := fun f (hf : f ∈ fs) k (h : k ∈ afV g [f]) => af_sub hG hf h
    have hck := fun n hn => ck_deps (hG.nodes n hn)
    have hmem : ∀ k ∈ afV g fs, decide (0 ≤ ixS ((afV g fs).map (labN g)) (labN g k)) = true := fun k hk => by rw [ix_mem, decide_eq_true_eq]; exact List.mem_map.2 ⟨k, hk, rfl⟩
    have hll : ((afV g fs).map (labN g)).length = (afV g fs).length := List.length_map _
    have hC := fun t => contains_fS ((afV g fs).map (labN g)) t (by omega)
    rw [← hll] at hlen
    generalize (afV g fs).map (labN g) = X at *
    clear hll
    replace hF1 := hide hF1
    replace hone := hide hone
    replace hml := hide hml
    replace hup := hide hup
    replace hsub := hide hsub
    replace hck := hide hck
    replace hmem := hide hmem
    replace hC := hide hC
    replace hG := hide hG
    have hmt : manyTo g fs fs.length = (fs.map fun f => (afV g [f]).length).sum := by rw [manyTo, List.take_length]
    rw [← hmt] at hlen
    replace hlen := hide hlen
    clear hmt hfp
    dsimp only [frStrs, frNodes] at *
    repeat' (first
      | (simp -implicitDefEqProofs only [*, zr, Nat.reduceAdd, Nat.reduceSub, Nat.reduceMul, Nat.reduceLT, Nat.reduceLeDiff, Nat.reduceEqDiff, Nat.reduceBEq, reduceIte, reduceCtorEq, Int.reduceLE, Int.reduceLT, Int.reduceToNat, Int.reduceEq, Int.reduceNe])
      | ((first | apply condS_splitN | apply condS_split | apply guardS_splitTN | apply guardS_splitFN | apply guardD_splitTN | apply guardD_splitFN | apply guardS_splitT | apply guardS_splitF | apply guardD_splitT | apply guardD_splitF) <;> intro hc)
      | (refine callP0 rfl ?_)
      | (refine callD0 rfl ?_)
      | (refine cP (hF) ?_)
      | (refine cD (hF) ?_)
      | (refine cF (hF) ?_)
      | fail)
    refine ax_loopU (S := Nat) 106 [0, 1, 5] [] (fun s => [(7, .f (.int .i64 (manyTo g fs s))), (8, .f (.int .i64 s))]) (fun s => []) (fun s => s ≤ fs.length) (fun s => fs.length - s) (0) [] ?_ ?_ fun s hs => ?_
    · exact Nat.zero_le _
    · refine ⟨rfl, (by first | exact small_0 | exact small_mk rfl | (repeat (first | exact small_0 | exact small_mk rfl | refine small_upd rfl ?_ | refine small_sw rfl rfl ?_))), rfl, rfl, (by rfl), ?_, ?_⟩ <;> simp only [manyTo, List.take_zero, List.map_nil, List.sum_nil, zw, swN, ElOk, HlOk, Nat.reduceEqDiff, Nat.reduceBEq, Nat.reduceLT, Nat.reduceLeDiff, reduceIte, reduceCtorEq, H0, AObj.cells.injEq]
      all_goals rfl
    refine srun_sound 300 _ _ _ _ ?_
    rcases Nat.lt_or_ge s fs.length with hlt | hge
    · obtain ⟨f, hf⟩ := get_some hlt
      have h4 := inc64 hlt (by omega)
      have h2 := lt_t hlt
      have hfm := List.mem_of_getElem? hf
      have hY := hF1.out f
      rw [hone.out f hfm, if_pos rfl] at hY
      have hst := many_step (g := g) hf
      have hmb := hml.out (s + 1) hlt
      have e1 : ((s : Int) ≤ ((s + 1 : Nat) : Int)) = True := by rw [eq_iff_iff, iff_true]; omega
      have e2 : (((s + 1 : Nat) : Int) ≤ (fs.length : Int)) = True := by rw [eq_iff_iff, iff_true]; omega
      have e3 : List.drop s (List.take (s + 1) (fs.map fun s => [FV.str s])) = [[FV.str f]] := by
        rw [List.take_add_one, List.getElem?_map, hf, List.drop_append, List.length_take, List.length_map]
        rw [show s - min s fs.length = 0 by omega, List.drop_eq_nil_of_le (by rw [List.length_take, List.length_map]; omega)]; rfl
      have hYm := fun k hk => hmem.out k (hsub.out f hfm k hk)
      have hYl : (afV g [f]).length ≤ 1000 := by have := (af_lt (g := g) (fs := [f])).1; omega
      have hmg : manyTo g fs (s + 1) ≤ 1000000 := by
        have := Nat.mul_le_mul (show s + 1 ≤ 1000 by omega) hgl
        omega
      have hw : IntKind.i64.wrap ((manyTo g fs s : Int) + ((afV g [f]).length : Int)) = ((manyTo g fs s + (afV g [f]).length : Nat) : Int) := by rw [wrap64] <;> omega
      have hYe : List.map (fun s => [FV.str s]) [f] = [[FV.str f]] := rfl
      rw [hYe] at hY
      rw [hst] at hmg
      generalize afV g [f] = Y at *
      generalize manyTo g fs s = m0 at *
      replace hYm := hide hYm
      replace hst := hide hst
      replace hmb := hide hmb
      clear hYe
      repeat' (first
        | (simp -implicitDefEqProofs only [*, zr, Nat.reduceAdd, Nat.reduceSub, Nat.reduceMul, Nat.reduceLT, Nat.reduceLeDiff, Nat.reduceEqDiff, Nat.reduceBEq, reduceIte, reduceCtorEq, Int.reduceLE, Int.reduceLT, Int.reduceToNat, Int.reduceEq, Int.reduceNe])
        | ((first | apply condS_splitN | apply condS_split | apply guardS_splitTN | apply guardS_splitFN | apply guardD_splitTN | apply guardD_splitFN | apply guardS_splitT | apply guardS_splitF | apply guardD_splitT | apply guardD_splitF) <;> intro hc)
        | (refine callP0 rfl ?_)
        | (refine callD0 rfl ?_)
        | (refine cP (hY) ?_)
        | (refine cD (hY) ?_)
        | (refine cF (hY) ?_)
        | fail)
      clear e3 hF
      obtain ⟨i, rfl⟩ : ∃ i, i = s := ⟨_, rfl⟩
      refine ax_loopU (S := Nat) 106 [0, 1, 5, 7, 8, 9] [] (fun s => [(11, .f (.int .i64 s))]) (fun s => []) (fun s => s ≤ Y.length) (fun s => Y.length - s) (0) [] ?_ ?_ fun s hs => ?_
      · exact Nat.zero_le _
      · refine ⟨rfl, (by first | exact small_0 | exact small_mk rfl | (repeat (first | exact small_0 | exact small_mk rfl | refine small_upd rfl ?_ | refine small_sw rfl rfl ?_))), rfl, rfl, (by rfl), ?_, ?_⟩ <;> simp only [zw, swN, ElOk, HlOk, Nat.reduceEqDiff, Nat.reduceBEq, Nat.reduceLT, Nat.reduceLeDiff, reduceIte, reduceCtorEq, H0, AObj.cells.injEq]
      refine srun_sound 300 _ _ _ _ ?_
      rcases Nat.lt_or_ge s Y.length with hlt2 | hge2
      · obtain ⟨k, hk⟩ := get_some hlt2
        have g4 := inc64 hlt2 (by omega)
        have g2 := lt_t hlt2
        have hCk := hC.out (labN g k)
        rw [hYm.out k (List.mem_of_getElem? hk)] at hCk
        clear h2
        repeat' (first
          | (simp -implicitDefEqProofs only [*, List.getElem?_map, Option.map_some, zr, Nat.reduceAdd, Nat.reduceSub, Nat.reduceMul, Nat.reduceLT, Nat.reduceLeDiff, Nat.reduceEqDiff, Nat.reduceBEq, reduceIte, reduceCtorEq, Int.reduceLE, Int.reduceLT, Int.reduceToNat, Int.reduceEq, Int.reduceNe])
          | ((first | apply condS_splitN | apply condS_split | apply guardS_splitTN | apply guardS_splitFN | apply guardD_splitTN | apply guardD_splitFN | apply guardS_splitT | apply guardS_splitF | apply guardD_splitT | apply guardD_splitF) <;> intro hc)
          | (refine callP0 rfl ?_)
          | (refine callD0 rfl ?_)
          | (refine cP (hCk) ?_)
          | (refine cD (hCk) ?_)
          | (refine cF (hCk) ?_)
          | fail)
        refine ⟨s + 1, hlt2, by omega, ?_⟩
        refine ⟨rfl, (by first | exact small_0 | exact small_mk rfl | (repeat (first | exact small_0 | exact small_mk rfl | refine small_upd rfl ?_ | refine small_sw rfl rfl ?_))), rfl, rfl, (by rfl), ?_, ?_⟩ <;> simp only [zw, swN, ElOk, HlOk, Nat.reduceEqDiff, Nat.reduceBEq, Nat.reduceLT, Nat.reduceLeDiff, reduceIte, reduceCtorEq, H0, AObj.cells.injEq]
      · obtain rfl : s = Y.length := by omega
        have g2 := lt_f hge2
        clear h2
        repeat' (first
          | (simp -implicitDefEqProofs only [*, zr, Nat.reduceAdd, Nat.reduceSub, Nat.reduceMul, Nat.reduceLT, Nat.reduceLeDiff, Nat.reduceEqDiff, Nat.reduceBEq, reduceIte, reduceCtorEq, Int.reduceLE, Int.reduceLT, Int.reduceToNat, Int.reduceEq, Int.reduceNe])
          | ((first | apply condS_splitN | apply condS_split | apply guardS_splitTN | apply guardS_splitFN | apply guardD_splitTN | apply guardD_splitFN | apply guardS_splitT | apply guardS_splitF | apply guardD_splitT | apply guardD_splitF) <;> intro hc)
          | (refine callP0 rfl ?_)
          | (refine callD0 rfl ?_)
          | fail)
        refine ⟨i + 1, hlt, by omega, ?_⟩
        rw [hst.out]
        refine ⟨rfl, (by first | exact small_0 | exact small_mk rfl | (repeat (first | exact small_0 | exact small_mk rfl | refine small_upd rfl ?_ | refine small_sw rfl rfl ?_))), rfl, rfl, (by rfl), ?_, ?_⟩ <;> simp only [zw, swN, ElOk, HlOk, Nat.reduceEqDiff, Nat.reduceBEq, Nat.reduceLT, Nat.reduceLeDiff, reduceIte, reduceCtorEq, H0, AObj.cells.injEq]
    · obtain rfl : s = fs.length := by omega
      have h2 := lt_f hge
      have hmg := hml.out fs.length (Nat.le_refl _)
      have hle := hlen.out
      generalize manyTo g fs fs.length = m0 at *
      replace hmg := hide hmg
      clear hF
      repeat' (first
        | (simp -implicitDefEqProofs only [*, zr, Nat.reduceAdd, Nat.reduceSub, Nat.reduceMul, Nat.reduceLT, Nat.reduceLeDiff, Nat.reduceEqDiff, Nat.reduceBEq, reduceIte, reduceCtorEq, Int.reduceLE, Int.reduceLT, Int.reduceToNat, Int.reduceEq, Int.reduceNe])
        | ((first | apply condS_splitN | apply condS_split | apply guardS_splitTN | apply guardS_splitFN | apply guardD_splitTN | apply guardD_splitFN | apply guardS_splitT | apply guardS_splitF | apply guardD_splitT | apply guardD_splitF) <;> intro hc)
        | (refine callP0 rfl ?_)
        | (refine callD0 rfl ?_)
        | fail)
      refine ax_loopU (S := Nat) 106 [0, 5, 7] [] (fun s => [(12, .f (.int .i64 s))]) (fun s => []) (fun s => s ≤ g.length) (fun s => g.length - s) (0) [] ?_ ?_ fun s hs => ?_
      · exact Nat.zero_le _
      · refine ⟨rfl, (by first | exact small_0 | exact small_mk rfl | (repeat (first | exact small_0 | exact small_mk rfl | refine small_upd rfl ?_ | refine small_sw rfl rfl ?_))), rfl, rfl, (by rfl), ?_, ?_⟩ <;> simp only [zw, swN, ElOk, HlOk, Nat.reduceEqDiff, Nat.reduceBEq, Nat.reduceLT, Nat.reduceLeDiff, reduceIte, reduceCtorEq, H0, AObj.cells.injEq]
      refine srun_sound 300 _ _ _ _ ?_
      clear h2
      rcases Nat.lt_or_ge s g.length with hlt2 | hge2
      · obtain ⟨x, hx⟩ := get_some hlt2
        have g4 := inc64 hlt2 (by omega)
        have g2 := lt_t hlt2
        have hxl := hck.out x (List.mem_of_getElem? hx)
        repeat' (first
          | (simp -implicitDefEqProofs only [*, List.getElem?_map, Option.map_some, fNode, frStrs, zr, Nat.reduceAdd, Nat.reduceSub, Nat.reduceMul, Nat.reduceLT, Nat.reduceLeDiff, Nat.reduceEqDiff, Nat.reduceBEq, reduceIte, reduceCtorEq, Int.reduceLE, Int.reduceLT, Int.reduceToNat, Int.reduceEq, Int.reduceNe])
          | ((first | apply condS_splitN | apply condS_split | apply guardS_splitTN | apply guardS_splitFN | apply guardD_splitTN | apply guardD_splitFN | apply guardS_splitT | apply guardS_splitF | apply guardD_splitT | apply guardD_splitF) <;> intro hc)
          | (refine callP0 rfl ?_)
          | (refine callD0 rfl ?_)
          | fail)
        obtain ⟨i, rfl⟩ : ∃ i, i = s := ⟨_, rfl⟩
        refine ax_loopU (S := Nat) 106 [0, 5, 7, 12] [] (fun s => [(13, .f (.int .i64 s))]) (fun s => []) (fun s => s ≤ x.2.2.1.length) (fun s => x.2.2.1.length - s) (0) [] ?_ ?_ fun s hs => ?_
        · exact Nat.zero_le _
        · refine ⟨rfl, (by first | exact small_0 | exact small_mk rfl | (repeat (first | exact small_0 | exact small_mk rfl | refine small_upd rfl ?_ | refine small_sw rfl rfl ?_))), rfl, rfl, (by rfl), ?_, ?_⟩ <;> simp only [zw, swN, ElOk, HlOk, Nat.reduceEqDiff, Nat.reduceBEq, Nat.reduceLT, Nat.reduceLeDiff, reduceIte, reduceCtorEq, H0, AObj.cells.injEq]
        refine srun_sound 300 _ _ _ _ ?_
        rcases Nat.lt_or_ge s x.2.2.1.length with hlt3 | hge3
        · obtain ⟨t, ht⟩ := get_some hlt3
          have f4 := inc64 hlt3 (by omega)
          have f2 := lt_t hlt3
          have hCt := hC.out t
          have hCx := hC.out x.1
          have hu := hup.out i x t hx (List.mem_of_getElem? ht)
          cases q : decide (0 ≤ ixS X t)
          · rw [q] at hCt
            replace hu := hide hu
            repeat' (first
              | (simp -implicitDefEqProofs only [*, List.getElem?_map, Option.map_some, fNode, frStrs, zr, Nat.reduceAdd, Nat.reduceSub, Nat.reduceMul, Nat.reduceLT, Nat.reduceLeDiff, Nat.reduceEqDiff, Nat.reduceBEq, reduceIte, reduceCtorEq, Int.reduceLE, Int.reduceLT, Int.reduceToNat, Int.reduceEq, Int.reduceNe])
              | ((first | apply condS_splitN | apply condS_split | apply guardS_splitTN | apply guardS_splitFN | apply guardD_splitTN | apply guardD_splitFN | apply guardS_splitT | apply guardS_splitF | apply guardD_splitT | apply guardD_splitF) <;> intro hc)
              | (refine callP0 rfl ?_)
              | (refine callD0 rfl ?_)
              | (refine cP (hCt) ?_)
              | (refine cD (hCt) ?_)
              | (refine cF (hCt) ?_)
              | fail)
            refine ⟨s + 1, hlt3, by omega, ?_⟩
            refine ⟨rfl, (by first | exact small_0 | exact small_mk rfl | (repeat (first | exact small_0 | exact small_mk rfl | refine small_upd rfl ?_ | refine small_sw rfl rfl ?_))), rfl, rfl, (by rfl), ?_, ?_⟩ <;> simp only [zw, swN, ElOk, HlOk, Nat.reduceEqDiff, Nat.reduceBEq, Nat.reduceLT, Nat.reduceLeDiff, reduceIte, reduceCtorEq, H0, AObj.cells.injEq]
          · rw [q] at hCt
            rw [hu q] at hCx
            replace hu := hide hu
            repeat' (first
              | (simp -implicitDefEqProofs only [*, List.getElem?_map, Option.map_some, fNode, frStrs, zr, Nat.reduceAdd, Nat.reduceSub, Nat.reduceMul, Nat.reduceLT, Nat.reduceLeDiff, Nat.reduceEqDiff, Nat.reduceBEq, reduceIte, reduceCtorEq, Int.reduceLE, Int.reduceLT, Int.reduceToNat, Int.reduceEq, Int.reduceNe])
              | ((first | apply condS_splitN | apply condS_split | apply guardS_splitTN | apply guardS_splitFN | apply guardD_splitTN | apply guardD_splitFN | apply guardS_splitT | apply guardS_splitF | apply guardD_splitT | apply guardD_splitF) <;> intro hc)
              | (refine callP0 rfl ?_)
              | (refine callD0 rfl ?_)
              | (refine cP (hCt) ?_)
              | (refine cD (hCt) ?_)
              | (refine cF (hCt) ?_)
              | (refine cP (hCx) ?_)
              | (refine cD (hCx) ?_)
              | (refine cF (hCx) ?_)
              | fail)
            refine ⟨s + 1, hlt3, by omega, ?_⟩
            refine ⟨rfl, (by first | exact small_0 | exact small_mk rfl | (repeat (first | exact small_0 | exact small_mk rfl | refine small_upd rfl ?_ | refine small_sw rfl rfl ?_))), rfl, rfl, (by rfl), ?_, ?_⟩ <;> simp only [zw, swN, ElOk, HlOk, Nat.reduceEqDiff, Nat.reduceBEq, Nat.reduceLT, Nat.reduceLeDiff, reduceIte, reduceCtorEq, H0, AObj.cells.injEq]
        · obtain rfl : s = x.2.2.1.length := by omega
          have f2 := lt_f hge3
          repeat' (first
            | (simp -implicitDefEqProofs only [*, List.getElem?_map, Option.map_some, fNode, frStrs, zr, Nat.reduceAdd, Nat.reduceSub, Nat.reduceMul, Nat.reduceLT, Nat.reduceLeDiff, Nat.reduceEqDiff, Nat.reduceBEq, reduceIte, reduceCtorEq, Int.reduceLE, Int.reduceLT, Int.reduceToNat, Int.reduceEq, Int.reduceNe])
            | ((first | apply condS_splitN | apply condS_split | apply guardS_splitTN | apply guardS_splitFN | apply guardD_splitTN | apply guardD_splitFN | apply guardS_splitT | apply guardS_splitF | apply guardD_splitT | apply guardD_splitF) <;> intro hc)
            | (refine callP0 rfl ?_)
            | (refine callD0 rfl ?_)
            | fail)
          refine ⟨i + 1, hlt2, by omega, ?_⟩
          refine ⟨rfl, (by first | exact small_0 | exact small_mk rfl | (repeat (first | exact small_0 | exact small_mk rfl | refine small_upd rfl ?_ | refine small_sw rfl rfl ?_))), rfl, rfl, (by rfl), ?_, ?_⟩ <;> simp only [zw, swN, ElOk, HlOk, Nat.reduceEqDiff, Nat.reduceBEq, Nat.reduceLT, Nat.reduceLeDiff, reduceIte, reduceCtorEq, H0, AObj.cells.injEq]
      · obtain rfl : s = g.length := by omega
        have g2 := lt_f hge2
        have d3 : decide ((X.length : Int) ≤ (m0 : Int)) = true := dec_t (by omega)
        have d4 : decide (X.length ≤ m0) = true := dec_t (by omega)
        repeat' (first
          | (simp -implicitDefEqProofs only [*, zr, Nat.reduceAdd, Nat.reduceSub, Nat.reduceMul, Nat.reduceLT, Nat.reduceLeDiff, Nat.reduceEqDiff, Nat.reduceBEq, reduceIte, reduceCtorEq, Int.reduceLE, Int.reduceLT, Int.reduceToNat, Int.reduceEq, Int.reduceNe])
          | ((first | apply condS_splitN | apply condS_split | apply guardS_splitTN | apply guardS_splitFN | apply guardD_splitTN | apply guardD_splitFN | apply guardS_splitT | apply guardS_splitF | apply guardD_splitT | apply guardD_splitF) <;> intro hc)
          | (refine callP0 rfl ?_)
          | (refine callD0 rfl ?_)
          | (refine cP (hA) ?_)
          | (refine cD (hA) ?_)
          | (refine cF (hA) ?_)
          | fail)
        exact ret_ve rfl
  · rw [if_neg h0] at hF
    have hd := dec_f h0
    generalize afErr g fs = e at *
    replace hF1 := hide hF1
    repeat' (first
      | (simp -implicitDefEqProofs only [*, zr, Nat.reduceAdd, Nat.reduceSub, Nat.reduceMul, Nat.reduceLT, Nat.reduceLeDiff, Nat.reduceEqDiff, Nat.reduceBEq, reduceIte, reduceCtorEq, Int.reduceLE, Int.reduceLT, Int.reduceToNat, Int.reduceEq, Int.reduceNe])
      | ((first | apply condS_splitN | apply condS_split | apply guardS_splitTN | apply guardS_splitFN | apply guardD_splitTN | apply guardD_splitFN | apply guardS_splitT | apply guardS_splitF | apply guardD_splitT | apply guardD_splitF) <;> intro hc)
      | (refine callP0 rfl ?_)
      | (refine callD0 rfl ?_)
      | (refine cP (hF) ?_)
      | (refine cD (hF) ?_)
      | (refine cF (hF) ?_)
      | (refine cP (hA) ?_)
      | (refine cD (hA) ?_)
      | (refine cF (hA) ?_)
      | fail)
    exact ret_ve rfl
theorem affSpread_any (A A2 : Option Addr) (n c n2 c2 : Nat) (g : Graph) (fs : List ByteArray) (W : World) (h : rSl 6 112 rNode W W.heap.size g [.slice A n c]) (h2 : rSl 1 16 rStr W W.heap.size fs [.slice A2 n2 c2]) :
    Calls Tryd.prog 5 #[.slice A n c, .slice A2 n2 c2] W fun e w' => e = .returned (.bool true) ∧ Below W.heap.size W w' := by
  refine FRet.calls (xs := [frNodes g, frStrs fs]) (affSpread_f g (graph_bound h) fs h2.all.1) rfl fun j x v hx hv => ?_
  rcases j with _ | _ | j
  · obtain rfl := Option.some.inj hx; obtain rfl := Option.some.inj hv; exact fz_nodes.one h
  · obtain rfl := Option.some.inj hx; obtain rfl := Option.some.inj hv; exact fz_strs.one (a := frStrs) h2
  · simp at hx
end Go.Proofs.YtaiajaibcpkceaaDoor
