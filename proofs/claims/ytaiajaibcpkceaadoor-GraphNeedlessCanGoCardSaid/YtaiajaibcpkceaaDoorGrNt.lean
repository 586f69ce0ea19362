/-
  The law NeedsTurn, walked (slices are frozen by so_one). No statement of the seat is proved here; no conditions.
-/
import Derived.Test.YtaiajaibcpkceaaDoorGrQ
namespace Go.Proofs.YtaiajaibcpkceaaDoor
open Go.RowKit Go.Shelf
set_option linter.unusedVariables false
set_option linter.unusedSimpArgs false
set_option maxRecDepth 100000

theorem nIdx_lab {g : Graph} (h : GOk g) {t : ByteArray} (ht : nHas g t = true) : labN g (nIdx g t) = t := by
  obtain ⟨y, hy, e⟩ := nIdx_at h.rising ht
  rw [labN_of hy, e]
/-- A label is among those of some numbers just if its number is. -/
theorem lab_mem {g : Graph} (h : GOk g) {L : List Nat} (hL : ∀ k ∈ L, k < g.length) {t : ByteArray} (ht : nHas g t = true) : decide (0 ≤ ixS (L.map (labN g)) t) = decide (nIdx g t ∈ L) := by
  rw [ix_mem]
  refine decide_eq_decide.2 ⟨fun h1 => ?_, fun h1 => List.mem_map.2 ⟨_, h1, nIdx_lab h ht⟩⟩
  obtain ⟨k, hk, e⟩ := List.mem_map.1 h1
  have hi := nIdx_lt h.rising ht
  rw [← lab_inj h (hL k hk) hi (e.trans (nIdx_lab h ht).symm)]; exact hk
theorem mem_within {E : List (List Nat)} {n : Nat} {fr : List Nat} {m : Int} {k : Nat} (hk : k < n) : decide (k ∈ withinV E n fr m) = inM (stepsV E n fr) m k := by
  rw [Bool.eq_iff_iff, decide_eq_true_eq, withinV, List.mem_filter, List.mem_range]
  exact ⟨fun h => h.2, fun h => ⟨hk, h⟩⟩
theorem re_ok {g : Graph} {l : List ByteArray} {m : Int} (h : reErr g l m = 0) : GOk g ∧ numErr g l = 0 ∧ treeErr g = 0 := by
  unfold reErr at h
  split at h
  · rename_i h1; exact absurd h h1
  · rename_i h1
    split at h
    · rename_i h2; exact absurd h h2
    · rename_i h2
      have h0 : treeErr g = 0 := by simpa using h1
      exact ⟨(tree_ok h0).1, by simpa using h2, h0⟩
theorem num_has {g : Graph} {a : ByteArray} (h : numErr g [a] = 0) : nHas g a = true := by
  unfold numErr at h
  rw [if_neg (by simp)] at h
  split at h
  · rename_i h1; simpa using h1
  · cases h
theorem re_lt {g : Graph} {l : List ByteArray} {m : Int} {up : Bool} : (reV g l m up).length ≤ g.length ∧ ∀ k ∈ reV g l m up, k < g.length := within_lt
theorem turn_law {g : Graph} {a b : ByteArray} {m : Int} (h1 : reErr g [a] m = 0) (h2 : reErr g [b] m = 0) : decide (0 ≤ ixS ((reV g [a] m false).map (labN g)) b) = decide (0 ≤ ixS ((reV g [b] m true).map (labN g)) a) := by
  obtain ⟨hG, n1, _⟩ := re_ok h1
  obtain ⟨_, n2, _⟩ := re_ok h2
  have ha := num_has n1
  have hb := num_has n2
  rw [lab_mem hG re_lt.2 hb, lab_mem hG re_lt.2 ha]
  have hal := nIdx_lt hG.rising ha
  have hbl := nIdx_lt hG.rising hb
  rw [reV, reV, mem_within hbl, mem_within hal]
  exact turn_iff (net_ok hG) (net_mutual hG) (net_mutual' hG) hal hbl m
theorem needsTurn_f (g : Graph) (hb : GBound g) (a b : ByteArray) (m : Int) : FRet Tryd.prog 6 [.f (frNodes g), .f (.str a), .f (.str b), .f (.int .i64 m)] [.c (.v (.bool true))] := by
  have hN := Needs_f g hb [a] (by simp) m
  have hU := Users_f g hb [b] (by simp) m
  have hA := awake_f
  have hT := fun h1 h2 => turn_law (g := g) (a := a) (b := b) (m := m) h1 h2
  have hok := fun h1 => (re_ok (g := g) (l := [a]) (m := m) h1).1.len
  refine FCall.of_ax low_law4_GraphNeedsTurn ?_
  dsimp only [l_law4_GraphNeedsTurn]
  refine srun_sound 300 _ _ _ _ ?_
  have hfa : frStrs [a] = .fr 1 [[.str a]] := rfl
  have hl1 : ((reV g [a] m false).map (labN g)).length ≤ g.length := by rw [List.length_map]; exact re_lt.1
  have hl2 : ((reV g [b] m true).map (labN g)).length ≤ g.length := by rw [List.length_map]; exact re_lt.1
  replace hT := hide hT
  replace hok := hide hok
  repeat' (first
    | (simp -implicitDefEqProofs only [*, zr, Nat.reduceAdd, Nat.reduceSub, Nat.reduceMul, Nat.reduceLT, Nat.reduceLeDiff, Nat.reduceEqDiff, Nat.reduceBEq, reduceIte, reduceCtorEq, Int.reduceLE, Int.reduceLT, Int.reduceToNat, Int.reduceEq, Int.reduceNe])
    | ((first | apply condS_splitN | apply condS_split | apply guardS_splitTN | apply guardS_splitFN | apply guardD_splitTN | apply guardD_splitFN | apply guardS_splitT | apply guardS_splitF | apply guardD_splitT | apply guardD_splitF) <;> intro hc)
    | (refine callP0 rfl ?_)
    | (refine callD0 rfl ?_)
    | fail)
  refine ax_weakA [] (nw := []) (n := 64) (el := [(0, .f (frNodes g)), (1, .f (.str a)), (2, .f (.str b)), (3, .f (.int .i64 m)), (14, .f (frNodes g)), (16, .f (frStrs [a])), (17, .f (.int .i64 m))]) (hl := []) rfl ?_ ?_
  · refine ⟨rfl, (by repeat (first | exact small_0 | exact small_mk rfl | refine small_upd rfl ?_)), rfl, rfl, rfl, ?_, trivial⟩
    repeat (first | exact trivial | refine And.intro (by decide) ?_ | refine And.intro (so_one rfl rfl) ?_ | refine And.intro (Or.inl rfl) ?_)
  generalize (reV g [a] m false).map (labN g) = X at *
  generalize (reV g [b] m true).map (labN g) = Y at *
  have hcx := fun h => contains_fS X b h
  have hcy := fun h => contains_fS Y a h
  generalize he1 : reErr g [a] m = e1 at *
  generalize he2 : reErr g [b] m = e2 at *
  generalize hxx : (if e1 = 0 then frStrs X else FV.nil) = x at *
  generalize hyy : (if e2 = 0 then frStrs Y else FV.nil) = y at *
  have hlen1 : e1 = 0 ∨ x = .nil := by
    by_cases h : e1 = 0
    · exact .inl h
    · rw [if_neg h] at hxx; exact .inr hxx.symm
  have hlen2 : e2 = 0 ∨ y = .nil := by
    by_cases h : e2 = 0
    · exact .inl h
    · rw [if_neg h] at hyy; exact .inr hyy.symm
  replace hcx := hide hcx
  replace hcy := hide hcy
  replace he1 := hide he1
  replace he2 := hide he2
  replace hxx := hide hxx
  replace hyy := hide hyy
  replace hlen1 := hide hlen1
  replace hlen2 := hide hlen2
  repeat' (first
    | (simp -implicitDefEqProofs only [*, zr, Nat.reduceAdd, Nat.reduceSub, Nat.reduceMul, Nat.reduceLT, Nat.reduceLeDiff, Nat.reduceEqDiff, Nat.reduceBEq, reduceIte, reduceCtorEq, Int.reduceLE, Int.reduceLT, Int.reduceToNat, Int.reduceEq, Int.reduceNe])
    | ((first | apply condS_splitN | apply condS_split | apply guardS_splitTN | apply guardS_splitFN | apply guardD_splitTN | apply guardD_splitFN | apply guardS_splitT | apply guardS_splitF | apply guardD_splitT | apply guardD_splitF) <;> intro hc)
    | (refine callP0 rfl ?_)
    | (refine callD0 rfl ?_)
    | (refine cP (hN) ?_)
    | (refine cD (hN) ?_)
    | (refine cF (hN) ?_)
    | fail)
  refine ax_weakA [] (nw := []) (n := 64) (el := [(0, .f (frNodes g)), (1, .f (.str a)), (2, .f (.str b)), (9, .f x), (10, .f (.int .i64 e1)), (22, .f (frNodes g)), (24, .f (frStrs [b])), (25, .f (.int .i64 m))]) (hl := []) rfl ?_ ?_
  · refine ⟨rfl, (by repeat (first | exact small_0 | exact small_mk rfl | refine small_upd rfl ?_)), rfl, rfl, rfl, ?_, trivial⟩
    repeat (first | exact trivial | refine And.intro (by decide) ?_ | refine And.intro (so_one rfl rfl) ?_ | refine And.intro (Or.inl rfl) ?_)
  by_cases q1 : e1 = 0
  · by_cases q2 : e2 = 0
    · have hxe := hxx.out
      have hye := hyy.out
      rw [if_pos q1] at hxe
      rw [if_pos q2] at hye
      subst hxe hye q1 q2
      have hgl := hok.out rfl
      have hcx1 := hcx.out (by omega)
      have hcy1 := hcy.out (by omega)
      rw [hT.out rfl rfl] at hcx1
      generalize decide (0 ≤ ixS Y a) = q at *
      cases q
      all_goals skip
      repeat' (first
        | (simp -implicitDefEqProofs only [*, zr, Nat.reduceAdd, Nat.reduceSub, Nat.reduceMul, Nat.reduceLT, Nat.reduceLeDiff, Nat.reduceEqDiff, Nat.reduceBEq, reduceIte, reduceCtorEq, Int.reduceLE, Int.reduceLT, Int.reduceToNat, Int.reduceEq, Int.reduceNe])
        | ((first | apply condS_splitN | apply condS_split | apply guardS_splitTN | apply guardS_splitFN | apply guardD_splitTN | apply guardD_splitFN | apply guardS_splitT | apply guardS_splitF | apply guardD_splitT | apply guardD_splitF) <;> intro hc)
        | (refine callP0 rfl ?_)
        | (refine callD0 rfl ?_)
        | (refine cP (hU) ?_)
        | (refine cD (hU) ?_)
        | (refine cF (hU) ?_)
        | (refine cP (hcx1) ?_)
        | (refine cD (hcx1) ?_)
        | (refine cF (hcx1) ?_)
        | (refine cP (hcy1) ?_)
        | (refine cD (hcy1) ?_)
        | (refine cF (hcy1) ?_)
        | (refine cP (hA) ?_)
        | (refine cD (hA) ?_)
        | (refine cF (hA) ?_)
        | fail)
      all_goals exact ret_ve rfl
    · obtain rfl := hlen2.out.resolve_left q2
      have d2 := dec_f q2
      subst q1
      clear q2 he2
      repeat' (first
        | (simp -implicitDefEqProofs only [*, zr, Nat.reduceAdd, Nat.reduceSub, Nat.reduceMul, Nat.reduceLT, Nat.reduceLeDiff, Nat.reduceEqDiff, Nat.reduceBEq, reduceIte, reduceCtorEq, Int.reduceLE, Int.reduceLT, Int.reduceToNat, Int.reduceEq, Int.reduceNe])
        | ((first | apply condS_splitN | apply condS_split | apply guardS_splitTN | apply guardS_splitFN | apply guardD_splitTN | apply guardD_splitFN | apply guardS_splitT | apply guardS_splitF | apply guardD_splitT | apply guardD_splitF) <;> intro hc)
        | (refine callP0 rfl ?_)
        | (refine callD0 rfl ?_)
        | (refine cP (hU) ?_)
        | (refine cD (hU) ?_)
        | (refine cF (hU) ?_)
        | (refine cP (hA) ?_)
        | (refine cD (hA) ?_)
        | (refine cF (hA) ?_)
        | fail)
      all_goals exact ret_ve rfl
  · obtain rfl := hlen1.out.resolve_left q1
    have d1 := dec_f q1
    rcases hlen2.out with rfl | rfl
    · repeat' (first
        | (simp -implicitDefEqProofs only [*, zr, Nat.reduceAdd, Nat.reduceSub, Nat.reduceMul, Nat.reduceLT, Nat.reduceLeDiff, Nat.reduceEqDiff, Nat.reduceBEq, reduceIte, reduceCtorEq, Int.reduceLE, Int.reduceLT, Int.reduceToNat, Int.reduceEq, Int.reduceNe])
        | ((first | apply condS_splitN | apply condS_split | apply guardS_splitTN | apply guardS_splitFN | apply guardD_splitTN | apply guardD_splitFN | apply guardS_splitT | apply guardS_splitF | apply guardD_splitT | apply guardD_splitF) <;> intro hc)
        | (refine callP0 rfl ?_)
        | (refine callD0 rfl ?_)
        | (refine cP (hU) ?_)
        | (refine cD (hU) ?_)
        | (refine cF (hU) ?_)
        | (refine cP (hA) ?_)
        | (refine cD (hA) ?_)
        | (refine cF (hA) ?_)
        | fail)
      all_goals exact ret_ve rfl
    · cases q2 : decide (e2 = 0)
      · repeat' (first
          | (simp -implicitDefEqProofs only [*, zr, Nat.reduceAdd, Nat.reduceSub, Nat.reduceMul, Nat.reduceLT, Nat.reduceLeDiff, Nat.reduceEqDiff, Nat.reduceBEq, reduceIte, reduceCtorEq, Int.reduceLE, Int.reduceLT, Int.reduceToNat, Int.reduceEq, Int.reduceNe])
          | ((first | apply condS_splitN | apply condS_split | apply guardS_splitTN | apply guardS_splitFN | apply guardD_splitTN | apply guardD_splitFN | apply guardS_splitT | apply guardS_splitF | apply guardD_splitT | apply guardD_splitF) <;> intro hc)
          | (refine callP0 rfl ?_)
          | (refine callD0 rfl ?_)
          | (refine cP (hU) ?_)
          | (refine cD (hU) ?_)
          | (refine cF (hU) ?_)
          | (refine cP (hA) ?_)
          | (refine cD (hA) ?_)
          | (refine cF (hA) ?_)
          | fail)
        all_goals exact ret_ve rfl
      · repeat' (first
          | (simp -implicitDefEqProofs only [*, zr, Nat.reduceAdd, Nat.reduceSub, Nat.reduceMul, Nat.reduceLT, Nat.reduceLeDiff, Nat.reduceEqDiff, Nat.reduceBEq, reduceIte, reduceCtorEq, Int.reduceLE, Int.reduceLT, Int.reduceToNat, Int.reduceEq, Int.reduceNe])
          | ((first | apply condS_splitN | apply condS_split | apply guardS_splitTN | apply guardS_splitFN | apply guardD_splitTN | apply guardD_splitFN | apply guardS_splitT | apply guardS_splitF | apply guardD_splitT | apply guardD_splitF) <;> intro hc)
          | (refine callP0 rfl ?_)
          | (refine callD0 rfl ?_)
          | (refine cP (hU) ?_)
          | (refine cD (hU) ?_)
          | (refine cF (hU) ?_)
          | (refine cP (hA) ?_)
          | (refine cD (hA) ?_)
          | (refine cF (hA) ?_)
          | fail)
        all_goals exact ret_ve rfl
theorem needsTurn_any (A : Option Addr) (n c : Nat) (g : Graph) (a b : ByteArray) (m : Int) (W : World) (h : rSl 6 112 rNode W W.heap.size g [.slice A n c]) (ha : a.size ≤ 140737488355328) (hb : b.size ≤ 140737488355328) :
    Calls Tryd.prog 6 #[.slice A n c, .string a, .string b, .int .i64 m] W fun e w' => e = .returned (.bool true) ∧ Below W.heap.size W w' := by
  refine FRet.calls (xs := [frNodes g, .str a, .str b, .int .i64 m]) (needsTurn_f g (graph_bound h) a b m) rfl fun j x v hx hv => ?_
  rcases j with _ | _ | _ | _ | j
  · obtain rfl := Option.some.inj hx; obtain rfl := Option.some.inj hv; exact fz_nodes.one h
  · obtain rfl := Option.some.inj hx; obtain rfl := Option.some.inj hv; exact .str _
  · obtain rfl := Option.some.inj hx; obtain rfl := Option.some.inj hv; exact .str _
  · obtain rfl := Option.some.inj hx; obtain rfl := Option.some.inj hv; exact .int _ _
  · simp at hx
end Go.Proofs.YtaiajaibcpkceaaDoor
