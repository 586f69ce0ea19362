/-
  The law TopCriticalIsAhead on the machine, but for critical itself. No statement of the seat is proved here; no conditions.
-/
import Derived.Test.YtbnmclcoekehbaaDoorWkQ
import Derived.Test.YtbnmclcoekehbaaDoorDig
import Derived.Test.YtbnmclcoekehbaaDoorFrz2
namespace Go.Proofs.YtbnmclcoekehbaaDoor
open Go.RowKit Go.Shelf
set_option linter.unusedVariables false
set_option linter.unusedSimpArgs false
set_option maxRecDepth 100000

theorem lives_f : FRet Tryd.prog 5 [] [.c (.v (.bool true))] := by
  have hd : decide (digV [97] = ⟨#[97, 102, 54, 51, 100, 99, 52, 99, 56, 54, 48, 49, 101, 99, 56, 99]⟩) = true := by decide +kernel
  have hD := Digest_f [97] (by decide)
  generalize digV [97] = d at *
  replace hD := hide hD
  refine FCall.of_ax low_top_lives ?_
  dsimp only [l_top_lives]
  refine srun_sound 300 _ _ _ _ ?_
  repeat' (first
    | (simp -implicitDefEqProofs only [*, frB, encU, zr, Nat.reduceAdd, Nat.reduceSub, Nat.reduceMul, Nat.reduceLT, Nat.reduceLeDiff, Nat.reduceEqDiff, Nat.reduceBEq, reduceIte, reduceCtorEq, Int.reduceLE, Int.reduceLT, Int.reduceToNat, Int.reduceEq, Int.reduceNe])
    | ((first | apply zk0 | apply zk1 | apply zk2 | apply zk3 | apply zk4 | apply zk5 | apply zk6 | apply zk7 | apply zk8 | apply zk9) <;> intro hc)
    | (refine callP0 rfl ?_)
    | (refine callD0 rfl ?_)
    | (refine cP (hD.out) ?_)
    | (refine cD (hD.out) ?_)
    | (refine cF (hD.out) ?_)
    | fail)
  exact ret_v
theorem equalSame_f (l : List Int) (hl : (l.length : Int) ≤ 9223372036854775807) : FRet Tryd.prog 7 [.f (frI l), .f (frI l)] [.c (.v (.bool true))] := by
  refine FCall.of_ax low_slices_Equal_int_int ?_
  dsimp only [l_slices_Equal_int_int, frI]
  refine srun_sound 300 _ _ _ _ ?_
  have hc' : decide ((l.length : Int) = l.length) = true := by simp
  repeat' (first
    | (simp -implicitDefEqProofs only [*, zr, Nat.reduceAdd, Nat.reduceSub, Nat.reduceMul, Nat.reduceLT, Nat.reduceLeDiff, Nat.reduceEqDiff, Nat.reduceBEq, reduceIte, reduceCtorEq, Int.reduceLE, Int.reduceLT, Int.reduceToNat, Int.reduceEq, Int.reduceNe])
    | ((first | apply zk0 | apply zk1 | apply zk2 | apply zk3 | apply zk4 | apply zk5 | apply zk6 | apply zk7 | apply zk8 | apply zk9) <;> intro hc)
    | (refine callP0 rfl ?_)
    | (refine callD0 rfl ?_)
    | fail)
  refine ax_loopU (S := Nat) 26 [0, 1, 12] [] (fun s => [(13, .f (.int .i64 s))]) (fun s => []) (fun s => s ≤ l.length) (fun s => l.length - s) (0) [] ?_ ?_ fun s hs => ?_
  · exact Nat.zero_le _
  · refine wk_i ?_ ?_ <;> simp only [zw, Nat.reduceEqDiff, Nat.reduceBEq, Nat.reduceLT, Nat.reduceLeDiff, reduceIte, reduceCtorEq]
  refine srun_sound 300 _ _ _ _ ?_
  clear hc'
  rcases Nat.lt_or_ge s l.length with hlt | hge
  · obtain ⟨x, hx⟩ := get_some hlt
    have h4 := inc64 hlt hl
    have h2 := lt_t hlt
    have he : decide (x = x) = true := by simp
    repeat' (first
      | (simp -implicitDefEqProofs only [*, List.getElem?_map, Option.map_some, fI, zr, Nat.reduceAdd, Nat.reduceSub, Nat.reduceMul, Nat.reduceLT, Nat.reduceLeDiff, Nat.reduceEqDiff, Nat.reduceBEq, reduceIte, reduceCtorEq, Int.reduceLE, Int.reduceLT, Int.reduceToNat, Int.reduceEq, Int.reduceNe])
      | ((first | apply zk0 | apply zk1 | apply zk2 | apply zk3 | apply zk4 | apply zk5 | apply zk6 | apply zk7 | apply zk8 | apply zk9) <;> intro hc)
      | (refine callP0 rfl ?_)
      | (refine callD0 rfl ?_)
      | fail)
    refine ⟨s + 1, hlt, by omega, ?_⟩
    refine wk_i ?_ ?_ <;> simp only [zw, Nat.reduceEqDiff, Nat.reduceBEq, Nat.reduceLT, Nat.reduceLeDiff, reduceIte, reduceCtorEq]
  · obtain rfl : s = l.length := by omega
    have h2 := lt_f hge
    repeat' (first
      | (simp -implicitDefEqProofs only [*, List.length_map, zr, Nat.reduceAdd, Nat.reduceSub, Nat.reduceMul, Nat.reduceLT, Nat.reduceLeDiff, Nat.reduceEqDiff, Nat.reduceBEq, reduceIte, reduceCtorEq, Int.reduceLE, Int.reduceLT, Int.reduceToNat, Int.reduceEq, Int.reduceNe])
      | ((first | apply zk0 | apply zk1 | apply zk2 | apply zk3 | apply zk4 | apply zk5 | apply zk6 | apply zk7 | apply zk8 | apply zk9) <;> intro hc)
      | (refine callP0 rfl ?_)
      | (refine callD0 rfl ?_)
      | fail)
    exact ret_v
theorem WOk.bound {l : List Work} (h : WOk l) : GBound (gOf l) := by
  refine ⟨by have := h.len; rw [gOf_len]; omega, fun n hn => ?_⟩
  obtain ⟨x, hx, rfl⟩ := List.mem_map.1 hn
  obtain ⟨h1, h2, h3⟩ := ckWork_parts (h.works x hx)
  obtain ⟨h4, h5⟩ := aft_words h3
  have h6 := aft_len h.rising h5 (fun d hd => List.all_eq_true.1 (List.all_eq_true.1 h.aft x hx) d hd)
  have h7 := h.len
  have hs : ∀ {t : ByteArray}, isWordV t = true → ((labW t).size : Int) ≤ 140737488355328 := fun {t} ht => by
    obtain ⟨_, k2, _⟩ := word_parts ht
    have : (labW t).size = t.size + 3 := by rw [size_list, labW_list, size_list t]; simp
    omega
  refine ⟨hs h1, by show ((x.2.2.2.map labW).length : Int) ≤ _; rw [List.length_map]; omega, fun d hd => ?_, by show ((0 : Nat) : Int) ≤ _; omega, by show ((0 : Nat) : Int) ≤ _; omega, fun d hd => by cases hd⟩
  obtain ⟨t, ht, rfl⟩ := List.mem_map.1 hd
  exact hs (h4 t ht)
def CritF : Prop := ∀ l : List Work, WOk l → FRet Tryd.prog 9 [.f (frWorks l)] [.c (.v (frI (critV l)))]
theorem Critical_f (hC : CritF) (l : List Work) (hb : WBound l) : FRet Tryd.prog 4 [.f (frWorks l)] [.c (.v (if ckWorks l = 0 then frI (critV l) else .nil)), .c (.v (.int .i64 (ckWorks l)))] := by
  have k1 := CheckWorks_f l hb
  by_cases h : ckWorks l = 0
  · have k2 := hC l (wok_of h)
    rw [h] at k1 ⊢
    rw [if_pos rfl]
    generalize frI (critV l) = F at *
    generalize frWorks l = L at *
    clear h hb
    replace k1 := hide k1
    replace k2 := hide k2
    refine FCall.of_ax low_workers_Critical ?_
    dsimp only [l_workers_Critical]
    refine srun_sound 300 _ _ _ _ ?_
    have dz : decide ((0 : Int) = 0) = true := rfl
    repeat' (first
      | (simp -implicitDefEqProofs only [*, zr, Nat.reduceAdd, Nat.reduceSub, Nat.reduceMul, Nat.reduceLT, Nat.reduceLeDiff, Nat.reduceEqDiff, Nat.reduceBEq, reduceIte, reduceCtorEq, Int.reduceLE, Int.reduceLT, Int.reduceToNat, Int.reduceEq, Int.reduceNe])
      | ((first | apply zk0 | apply zk1 | apply zk2 | apply zk3 | apply zk4 | apply zk5 | apply zk6 | apply zk7 | apply zk8 | apply zk9) <;> intro hc)
      | (refine callP0 rfl ?_)
      | (refine callD0 rfl ?_)
      | (refine cP (k1.out) ?_)
      | (refine cD (k1.out) ?_)
      | (refine cF (k1.out) ?_)
      | (refine cP (k2.out) ?_)
      | (refine cD (k2.out) ?_)
      | (refine cF (k2.out) ?_)
      | fail)
    exact ret_vv
  · rw [if_neg h]
    have d0 := dcF h
    generalize ckWorks l = q at *
    replace k1 := hide k1
    replace h := hide h
    clear hb
    refine FCall.of_ax low_workers_Critical ?_
    dsimp only [l_workers_Critical]
    refine srun_sound 300 _ _ _ _ ?_
    repeat' (first
      | (simp -implicitDefEqProofs only [*, zr, Nat.reduceAdd, Nat.reduceSub, Nat.reduceMul, Nat.reduceLT, Nat.reduceLeDiff, Nat.reduceEqDiff, Nat.reduceBEq, reduceIte, reduceCtorEq, Int.reduceLE, Int.reduceLT, Int.reduceToNat, Int.reduceEq, Int.reduceNe])
      | ((first | apply zk0 | apply zk1 | apply zk2 | apply zk3 | apply zk4 | apply zk5 | apply zk6 | apply zk7 | apply zk8 | apply zk9) <;> intro hc)
      | (refine callP0 rfl ?_)
      | (refine callD0 rfl ?_)
      | (refine cP (k1.out) ?_)
      | (refine cD (k1.out) ?_)
      | (refine cF (k1.out) ?_)
      | fail)
    exact ret_vv
theorem so_strsW {H H' : Heap} {nw : List Nat} {id ver n : Nat} {l : List ByteArray} (hd : (H' id).2 = none) (hc : cellsOf ver (H id) = some ((l.map FV.str).map .f)) (hn : n = l.length) : SlotOk H H' nw (.sl id ver 1 0 n) (.f (frStrs l)) := by subst hn; exact so_strs hd hc
theorem labs_snoc {A : List ByteArray} {s : Nat} {d : ByteArray} (h : A[s]? = some d) : (A.take (s + 1)).map labW = (A.take s).map labW ++ [labW d] := by
  rw [List.take_add_one, h, List.map_append]; rfl
theorem gOf_snoc {l : List Work} {s : Nat} {x : Work} (h : l[s]? = some x) : gOf (l.take (s + 1)) = gOf (l.take s) ++ [nodeOf x] := by
  unfold gOf; rw [List.take_add_one, h, List.map_append]; rfl
set_option maxHeartbeats 8000000 in
theorem crit_law (hC : CritF) (l : List Work) (hb : WBound l) : FRet Tryd.prog 3 [.f (frWorks l)] [.c (.v (.bool true))] := by
  have k1 := Critical_f hC l hb
  by_cases h : ckWorks l = 0
  case neg =>
    rw [if_neg h] at k1
    have d0 := dcF h
    generalize ckWorks l = q at *
    replace k1 := hide k1
    replace h := hide h
    clear hb
    have dz : decide (((0 : Nat) : Int) = 0) = true := rfl
    refine FCall.of_ax low_top_TopCriticalIsAhead ?_
    dsimp only [l_top_TopCriticalIsAhead]
    refine srun_sound 300 _ _ _ _ ?_
    repeat' (first
      | (simp -implicitDefEqProofs only [*, zr, Nat.reduceAdd, Nat.reduceSub, Nat.reduceMul, Nat.reduceLT, Nat.reduceLeDiff, Nat.reduceEqDiff, Nat.reduceBEq, reduceIte, reduceCtorEq, Int.reduceLE, Int.reduceLT, Int.reduceToNat, Int.reduceEq, Int.reduceNe])
      | ((first | apply zk0 | apply zk1 | apply zk2 | apply zk3 | apply zk4 | apply zk5 | apply zk6 | apply zk7 | apply zk8 | apply zk9) <;> intro hc)
      | (refine callP0 rfl ?_)
      | (refine callD0 rfl ?_)
      | (refine cP (k1.out) ?_)
      | (refine cD (k1.out) ?_)
      | (refine cF (k1.out) ?_)
      | (refine cP (lives_f) ?_)
      | (refine cD (lives_f) ?_)
      | (refine cF (lives_f) ?_)
      | fail)
    exact ret_v
  have hW := wok_of h
  rw [h, if_pos rfl, crit_ahead hW] at k1
  have k2 := Ahead_f (gOf l) hW.bound
  rw [hW.tree, if_pos rfl] at k2
  have hAl : ((aheadV (gOf l)).length : Int) ≤ 9223372036854775807 := by
    have : (aheadV (gOf l)).length = l.length := by unfold aheadV sumsV; rw [sums_len, List.length_replicate, gOf_len]
    have := hW.len
    omega
  have k3 := equalSame_f (aheadV (gOf l)) hAl
  have hl := hW.len
  have hwd : ∀ x ∈ l, x.1.size ≤ 40 ∧ x.2.2.2.length ≤ 200 ∧ ∀ d ∈ x.2.2.2, d.size ≤ 40 := fun x hx => by
    obtain ⟨h1, h2, h3⟩ := ckWork_parts (hW.works x hx)
    obtain ⟨h4, h5⟩ := aft_words h3
    have h6 := aft_len hW.rising h5 (fun d hd => List.all_eq_true.1 (List.all_eq_true.1 hW.aft x hx) d hd)
    exact ⟨(word_parts h1).2.1, by omega, fun d hd => (word_parts (h4 d hd)).2.1⟩
  clear h hW hAl hb
  generalize aheadV (gOf l) = A at *
  have hlt0 := hide hwd
  replace k1 := hide k1
  replace k2 := hide k2
  replace k3 := hide k3
  clear hwd
  have dz : decide ((0 : Int) = 0) = true := rfl
  refine FCall.of_ax low_top_TopCriticalIsAhead ?_
  dsimp only [l_top_TopCriticalIsAhead, frWorks] at k1 ⊢
  refine srun_sound 300 _ _ _ _ ?_
  repeat' (first
    | (simp -implicitDefEqProofs only [*, zr, Nat.reduceAdd, Nat.reduceSub, Nat.reduceMul, Nat.reduceLT, Nat.reduceLeDiff, Nat.reduceEqDiff, Nat.reduceBEq, reduceIte, reduceCtorEq, Int.reduceLE, Int.reduceLT, Int.reduceToNat, Int.reduceEq, Int.reduceNe])
    | ((first | apply zk0 | apply zk1 | apply zk2 | apply zk3 | apply zk4 | apply zk5 | apply zk6 | apply zk7 | apply zk8 | apply zk9) <;> intro hc)
    | (refine callP0 rfl ?_)
    | (refine callD0 rfl ?_)
    | (refine cP (k1.out) ?_)
    | (refine cD (k1.out) ?_)
    | (refine cF (k1.out) ?_)
    | fail)
  clear k1
  refine ax_loopU (S := Nat) 84 [0, 3] [] (fun s => [(6, .f (.int .i64 s)), (5, .sl 68 1 6 0 s)]) (fun s => [(68, 1, .cells ((rowF fNode (gOf (l.take s))).map .f))]) (fun s => s ≤ l.length) (fun s => l.length - s) (0) [68] ?_ ?_ fun s hs => ?_
  · exact Nat.zero_le _
  · refine wk_i ?_ ?_ <;> simp only [List.take_zero, show gOf [] = [] from rfl, row_nil, List.map_nil, zw, Nat.reduceEqDiff, Nat.reduceBEq, Nat.reduceLT, Nat.reduceLeDiff, reduceIte, reduceCtorEq]
    all_goals rfl
  rcases Nat.lt_or_ge s l.length with hlt | hge
  · refine srun_sound 300 _ _ _ _ ?_
    obtain ⟨x, hx⟩ := get_some hlt
    obtain ⟨b1, b2, b3⟩ := hlt0.out x (List.mem_of_getElem? hx)
    have h4 := inc64 hlt (by omega)
    have h2 := lt_t hlt
    have hs2 := gOf_snoc hx
    have hgl : (gOf (l.take s)).length = s := by rw [gOf_len, List.length_take]; omega
    generalize gOf (l.take s) = G at *
    replace hs2 := hide hs2
    obtain ⟨xi, xn, xs, xa⟩ := x
    dsimp only at b1 b2 b3
    have z3 : (⟨#[47, 47, 58]⟩ : ByteArray).size = 3 := rfl
    have hc1 : (3 + xi.size ≤ 9223372036854775807) = True := by rw [eq_iff_iff, iff_true]; omega
    have hLi : (⟨#[47, 47, 58]⟩ : ByteArray) ++ xi = labW xi := rfl
    have hB3 := hide b3
    clear b3
    repeat' (first
      | (simp -implicitDefEqProofs only [*, List.getElem?_map, Option.map_some, fWork, frStrs, hLi, addFp_wr, zr, Nat.reduceAdd, Nat.reduceSub, Nat.reduceMul, Nat.reduceLT, Nat.reduceLeDiff, Nat.reduceEqDiff, Nat.reduceBEq, reduceIte, reduceCtorEq, Int.reduceLE, Int.reduceLT, Int.reduceToNat, Int.reduceEq, Int.reduceNe])
      | ((first | apply zk0 | apply zk1 | apply zk2 | apply zk3 | apply zk4 | apply zk5 | apply zk6 | apply zk7 | apply zk8 | apply zk9) <;> intro hc)
      | (refine callP0 rfl ?_)
      | (refine callD0 rfl ?_)
      | fail)
    obtain ⟨i, hi⟩ : ∃ i, i = s := ⟨s, rfl⟩
    subst hi
    refine ax_loopU (S := Nat) 84 [0, 3, 5, 6, 7] [68] (fun s => [(8, .f (.int .i64 s))]) (fun s => [(7, 1, .cells [.f (.str (labW xi)), .f (.str workB), .sl 63 1 1 0 s, .f .nil, .f .nil, .f (.int .i64 xs)]), (63, 1, .cells ((((xa.take s).map labW).map FV.str).map .f))]) (fun s => s ≤ xa.length) (fun s => xa.length - s) (0) [63] ?_ ?_ fun s hs => ?_
    · exact Nat.zero_le _
    · refine wk_i ?_ ?_ <;> simp only [List.take_zero, List.map_nil, zw, Nat.reduceEqDiff, Nat.reduceBEq, Nat.reduceLT, Nat.reduceLeDiff, reduceIte, reduceCtorEq]
      all_goals rfl
    rcases Nat.lt_or_ge s xa.length with hlt2 | hge2
    · refine srun_sound 300 _ _ _ _ ?_
      obtain ⟨d, hd⟩ := get_some hlt2
      have hds := hB3.out d (List.mem_of_getElem? hd)
      have g4 := inc64 hlt2 (by omega)
      have g2 := lt_t hlt2
      have hs3 := labs_snoc hd
      have hc2 : (3 + d.size ≤ 9223372036854775807) = True := by rw [eq_iff_iff, iff_true]; omega
      have hLd : (⟨#[47, 47, 58]⟩ : ByteArray) ++ d = labW d := rfl
      have h8 : ((s + 1) * 16 ≤ 140737488355328) = True := by rw [eq_iff_iff, iff_true]; omega
      have hll : ((xa.take s).map labW).length = s := by rw [List.length_map, List.length_take]; omega
      generalize (xa.take s).map labW = T at *
      replace hs3 := hide hs3
      clear hds h4
      repeat' (first
        | (simp -implicitDefEqProofs only [*, List.getElem?_map, Option.map_some, fWork, frStrs, hLd, addFp_wr, zr, Nat.reduceAdd, Nat.reduceSub, Nat.reduceMul, Nat.reduceLT, Nat.reduceLeDiff, Nat.reduceEqDiff, Nat.reduceBEq, reduceIte, reduceCtorEq, Int.reduceLE, Int.reduceLT, Int.reduceToNat, Int.reduceEq, Int.reduceNe])
        | ((first | apply zk0 | apply zk1 | apply zk2 | apply zk3 | apply zk4 | apply zk5 | apply zk6 | apply zk7 | apply zk8 | apply zk9) <;> intro hc)
        | (refine callP0 rfl ?_)
        | (refine callD0 rfl ?_)
        | fail)
      refine ⟨s + 1, hlt2, by omega, ?_⟩
      rw [hs3.out]
      refine wk_i ?_ ?_ <;> simp only [List.length_append, zw, Nat.reduceEqDiff, Nat.reduceBEq, Nat.reduceLT, Nat.reduceLeDiff, reduceIte, reduceCtorEq]
      all_goals first | exact SlotsOk.of_eq (by simp) | rfl | omega
    obtain rfl : s = xa.length := by omega
    have g2 := lt_f hge2
    rw [List.take_length]
    refine ax_weak (nw := []) (n := 84) (el := [(0, .f (.fr 4 (l.map fWork))), (3, .f (frI A)), (5, .sl 68 1 6 0 i), (6, .f (.int .i64 i)), (7, .ptr 7 1 0), (8, .f (.int .i64 xa.length))]) (hl := [(7, 1, .cells [.f (.str (labW xi)), .f (.str workB), .f (frStrs (xa.map labW)), .f (frStrs []), .f (frStrs []), .f (.int .i64 xs)]), (68, 1, .cells ((rowF fNode G).map .f))]) ?_ ?_
    · refine wk_i ?_ ?_ <;> simp only [so_mf, mapOfH_some, so_ptf, so_cc, so_ff', cellsOf_some, List.drop_zero, List.take_succ_cons, List.take_zero, Nat.zero_add, zw, Nat.reduceEqDiff, Nat.reduceBEq, Nat.reduceLT, Nat.reduceLeDiff, reduceIte, reduceCtorEq]
      all_goals exact ⟨so_strsW (by rfl) (by rfl) (List.length_map _).symm, .inr ⟨1, rfl⟩⟩
    refine srun_sound 300 _ _ _ _ ?_
    have h112 : ((i + 1) * 112 ≤ 140737488355328) = True := by rw [eq_iff_iff, iff_true]; omega
    have hrl : (rowF fNode G).length = i * 6 := by rw [row_len (sz := 6) (fun _ => rfl), hgl]
    have hrs : rowF fNode (G ++ [nodeOf (xi, xn, xs, xa)]) = rowF fNode G ++ fNode (nodeOf (xi, xn, xs, xa)) := row_snoc
    generalize rowF fNode G = R at *
    replace hrs := hide hrs
    clear hgl
    repeat' (first
      | (simp -implicitDefEqProofs only [*, List.getElem?_map, Option.map_some, fWork, frStrs, List.length_map, addFp_wr, zr, Nat.reduceAdd, Nat.reduceSub, Nat.reduceMul, Nat.reduceLT, Nat.reduceLeDiff, Nat.reduceEqDiff, Nat.reduceBEq, reduceIte, reduceCtorEq, Int.reduceLE, Int.reduceLT, Int.reduceToNat, Int.reduceEq, Int.reduceNe])
      | ((first | apply zk0 | apply zk1 | apply zk2 | apply zk3 | apply zk4 | apply zk5 | apply zk6 | apply zk7 | apply zk8 | apply zk9) <;> intro hc)
      | (refine callP0 rfl ?_)
      | (refine callD0 rfl ?_)
      | fail)
    refine ⟨i + 1, hlt, by omega, ?_⟩
    rw [hs2.out, hrs.out]
    refine wk_i ?_ ?_ <;> simp only [List.length_append, zw, Nat.reduceEqDiff, Nat.reduceBEq, Nat.reduceLT, Nat.reduceLeDiff, reduceIte, reduceCtorEq]
    all_goals first | exact SlotsOk.of_eq (by simp [fNode, nodeOf, frStrs]) | rfl | omega
  obtain rfl : s = l.length := by omega
  have h2 := lt_f hge
  rw [List.take_length]
  refine ax_weak (nw := []) (n := 84) (el := [(0, .f (.fr 4 (l.map fWork))), (3, .f (frI A)), (5, .f (frNodes (gOf l))), (6, .f (.int .i64 l.length))]) (hl := []) ?_ ?_
  · refine wk_i ?_ ?_ <;> simp only [so_mf, mapOfH_some, so_ptf, so_cc, so_ff', cellsOf_some, List.drop_zero, List.take_succ_cons, List.take_zero, Nat.zero_add, zw, Nat.reduceEqDiff, Nat.reduceBEq, Nat.reduceLT, Nat.reduceLeDiff, reduceIte, reduceCtorEq]
    all_goals exact so_row0 (enc := fNode) (fun _ => rfl) rfl rfl (gOf_len l).symm
  refine srun_sound 300 _ _ _ _ ?_
  clear hge hs
  repeat' (first
    | (simp -implicitDefEqProofs only [*, List.length_map, addFp_wr, zr, Nat.reduceAdd, Nat.reduceSub, Nat.reduceMul, Nat.reduceLT, Nat.reduceLeDiff, Nat.reduceEqDiff, Nat.reduceBEq, reduceIte, reduceCtorEq, Int.reduceLE, Int.reduceLT, Int.reduceToNat, Int.reduceEq, Int.reduceNe])
    | ((first | apply zk0 | apply zk1 | apply zk2 | apply zk3 | apply zk4 | apply zk5 | apply zk6 | apply zk7 | apply zk8 | apply zk9) <;> intro hc)
    | (refine callP0 rfl ?_)
    | (refine callD0 rfl ?_)
    | (refine cP (k2.out) ?_)
    | (refine cD (k2.out) ?_)
    | (refine cF (k2.out) ?_)
    | (refine cP (k3.out) ?_)
    | (refine cD (k3.out) ?_)
    | (refine cF (k3.out) ?_)
    | (refine cP (lives_f) ?_)
    | (refine cD (lives_f) ?_)
    | (refine cF (lives_f) ?_)
    | fail)
  exact ret_v
end Go.Proofs.YtbnmclcoekehbaaDoor
