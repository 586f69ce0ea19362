/-
  Graphs on the machine: graph.open. No statement of the seat is proved here; no conditions.
-/
import Derived.Test.YtagkdifaldikgaaGreatDoorGrE
namespace Go.Proofs.YtagkdifaldikgaaGreatDoor
open Go.RowKit Go.Shelf
set_option linter.unusedVariables false
set_option linter.unusedSimpArgs false
set_option maxRecDepth 100000

set_option maxHeartbeats 4000000 in
theorem open_f (g : Graph) (hb : GBound g) : FRet Tryz.prog 35 [.f (frNodes g)] [.c (.v (if opErr g = 0 then netOf g else nilP)),.c (.v (.int .i64 (opErr g)))] := by
 refine FCall.of_ax low_graph_open ?_
 dsimp only [l_graph_open,frNodes]
 refine srun_sound 300 _ _ _ _ ?_
 unfold opErr
 by_cases h1 : (1000 : Int) < g.length
 ·have d1 := dec_t h1
  rw [if_pos h1,if_neg (by decide)]
  clear h1
  repeat' (first
   | (simp -implicitDefEqProofs only [*,zr,Nat.reduceAdd,Nat.reduceSub,Nat.reduceMul,Nat.reduceLT,Nat.reduceLeDiff,Nat.reduceEqDiff,Nat.reduceBEq,reduceIte,reduceCtorEq,Int.reduceLE,Int.reduceLT,Int.reduceToNat,Int.reduceEq,Int.reduceNe])
   | ((first|apply zk0|apply zk1|apply zk2|apply zk3|apply zk4|apply zk5|apply zk6|apply zk7|apply zk8|apply zk9) <;> intro hc)
   |(refine callP0 rfl ?_)
   |(refine callD0 rfl ?_)
   | fail)
  exact ret_vve rfl rfl
 have d1 := dec_f h1
 rw [if_neg h1]
 have hl : g.length ≤ 1000 := by omega
 obtain ⟨hb1,hb2⟩ := hb
 clear h1
 repeat' (first
  | (simp -implicitDefEqProofs only [*,zr,Nat.reduceAdd,Nat.reduceSub,Nat.reduceMul,Nat.reduceLT,Nat.reduceLeDiff,Nat.reduceEqDiff,Nat.reduceBEq,reduceIte,reduceCtorEq,Int.reduceLE,Int.reduceLT,Int.reduceToNat,Int.reduceEq,Int.reduceNe])
  | ((first|apply zk0|apply zk1|apply zk2|apply zk3|apply zk4|apply zk5|apply zk6|apply zk7|apply zk8|apply zk9) <;> intro hc)
  |(refine callP0 rfl ?_)
  |(refine callD0 rfl ?_)
  | fail)
 refine ax_loopU (S := Nat) 105 [0,16,17] [] (fun s => [(18,.f (.int .i64 s))]) (fun s => []) (fun s => s ≤ g.length ∧ ∀ m,m < s → grErr g m = 0) (fun s => g.length - s) (0) [] ?_ ?_ fun s hs => ?_
 ·exact ⟨Nat.zero_le _,fe_0⟩
 ·refine wk_i ?_ ?_ <;> simp only [zw,Nat.reduceEqDiff,Nat.reduceBEq,Nat.reduceLT,Nat.reduceLeDiff,reduceIte,reduceCtorEq]
 obtain ⟨hi,hall⟩ := hs
 refine srun_sound 300 _ _ _ _ ?_
 rcases Nat.lt_or_ge s g.length with hlt | hge
 ·obtain ⟨x,hx⟩ := get_some hlt
  have h4 := inc64 hlt hb1
  have hE := grErr_of hx
  have h2 := lt_t hlt
  have h6 := dec64' hlt hb1
  obtain ⟨y,hy,hfy⟩ := prev_of hx
  rw [hfy] at hE
  clear hfy
  unfold leS at hE
  have hF := checkNode_f x (hb2 x (List.mem_of_getElem? hx))
  have hEs : ∀ er : Int,grErr g s = er → er ≠ 0 → (if firstErr (grErr g) 0 g.length ≠ 0 then firstErr (grErr g) 0 g.length else if depsOk g = true then 0 else 9) = er := fun er h1 h2 => by
   rw [fe_hit hall hlt (by rw [h1];exact h2),h1,if_pos h2]
  generalize ckNode x = c at hF hE
  replace hF := hide hF
  replace hb2 := hide hb2
  by_cases hc0 : c = 0
  ·subst hc0
   rw [if_neg (by simp)] at hE
   cases hle : decide ((0 : Int) < (s : Int))
   ·rw [hle] at hE
    simp only [Bool.false_eq_true,if_false] at hE
    replace hEs := hide hEs
    repeat' (first
     | (simp -implicitDefEqProofs only [*,List.getElem?_map,Option.map_some,fNode,zr,Nat.reduceAdd,Nat.reduceSub,Nat.reduceMul,Nat.reduceLT,Nat.reduceLeDiff,Nat.reduceEqDiff,Nat.reduceBEq,reduceIte,reduceCtorEq,Int.reduceLE,Int.reduceLT,Int.reduceToNat,Int.reduceEq,Int.reduceNe])
     | ((first|apply zk0|apply zk1|apply zk2|apply zk3|apply zk4|apply zk5|apply zk6|apply zk7|apply zk8|apply zk9) <;> intro hc)
     |(refine callP0 rfl ?_)
     |(refine callD0 rfl ?_)
     |(refine cP (hF.out) ?_)
     |(refine cD (hF.out) ?_)
     |(refine cF (hF.out) ?_)
     | fail)
    refine ⟨s + 1,⟨hlt,fe_step hall hE⟩,by omega,?_⟩
    refine wk_i ?_ ?_ <;> simp only [zw,Nat.reduceEqDiff,Nat.reduceBEq,Nat.reduceLT,Nat.reduceLeDiff,reduceIte,reduceCtorEq]
   ·have hy2 := hy hle
    have h62 := h6 hle
    rw [hle] at hE
    simp only [if_true] at hE
    clear hy h6
    cases hq : (strLt x.1 y.1 || decide (x.1 = y.1))
    ·rw [hq] at hE
     simp only [Bool.false_eq_true,if_false] at hE
     replace hEs := hide hEs
     repeat' (first
      | (simp -implicitDefEqProofs only [*,List.getElem?_map,Option.map_some,fNode,zr,Nat.reduceAdd,Nat.reduceSub,Nat.reduceMul,Nat.reduceLT,Nat.reduceLeDiff,Nat.reduceEqDiff,Nat.reduceBEq,reduceIte,reduceCtorEq,Int.reduceLE,Int.reduceLT,Int.reduceToNat,Int.reduceEq,Int.reduceNe])
      | ((first|apply zk0|apply zk1|apply zk2|apply zk3|apply zk4|apply zk5|apply zk6|apply zk7|apply zk8|apply zk9) <;> intro hc)
      |(refine callP0 rfl ?_)
      |(refine callD0 rfl ?_)
      |(refine cP (hF.out) ?_)
      |(refine cD (hF.out) ?_)
      |(refine cF (hF.out) ?_)
      | fail)
     refine ⟨s + 1,⟨hlt,fe_step hall hE⟩,by omega,?_⟩
     refine wk_i ?_ ?_ <;> simp only [zw,Nat.reduceEqDiff,Nat.reduceBEq,Nat.reduceLT,Nat.reduceLeDiff,reduceIte,reduceCtorEq]
    ·rw [hq] at hE
     simp only [if_true] at hE
     rw [hEs 8 hE (by decide),if_neg (by decide)]
     clear hEs hall
     repeat' (first
      | (simp -implicitDefEqProofs only [*,List.getElem?_map,Option.map_some,fNode,zr,Nat.reduceAdd,Nat.reduceSub,Nat.reduceMul,Nat.reduceLT,Nat.reduceLeDiff,Nat.reduceEqDiff,Nat.reduceBEq,reduceIte,reduceCtorEq,Int.reduceLE,Int.reduceLT,Int.reduceToNat,Int.reduceEq,Int.reduceNe])
      | ((first|apply zk0|apply zk1|apply zk2|apply zk3|apply zk4|apply zk5|apply zk6|apply zk7|apply zk8|apply zk9) <;> intro hc)
      |(refine callP0 rfl ?_)
      |(refine callD0 rfl ?_)
      |(refine cP (hF.out) ?_)
      |(refine cD (hF.out) ?_)
      |(refine cF (hF.out) ?_)
      | fail)
     exact ret_vve rfl rfl
  ·rw [if_pos hc0] at hE
   rw [hEs c hE hc0,if_neg hc0]
   have d2 := dec_f hc0
   clear hEs hall hc0 hy
   repeat' (first
    | (simp -implicitDefEqProofs only [*,List.getElem?_map,Option.map_some,fNode,zr,Nat.reduceAdd,Nat.reduceSub,Nat.reduceMul,Nat.reduceLT,Nat.reduceLeDiff,Nat.reduceEqDiff,Nat.reduceBEq,reduceIte,reduceCtorEq,Int.reduceLE,Int.reduceLT,Int.reduceToNat,Int.reduceEq,Int.reduceNe])
    | ((first|apply zk0|apply zk1|apply zk2|apply zk3|apply zk4|apply zk5|apply zk6|apply zk7|apply zk8|apply zk9) <;> intro hc)
    |(refine callP0 rfl ?_)
    |(refine callD0 rfl ?_)
    |(refine cP (hF.out) ?_)
    |(refine cD (hF.out) ?_)
    |(refine cF (hF.out) ?_)
    | fail)
   exact ret_vve rfl rfl
 obtain rfl : s = g.length := by omega
 have h2 := lt_f hge
 have hR := nodes_rising hall
 have hok := nodes_ok hall
 have hV : (if firstErr (grErr g) 0 g.length ≠ 0 then firstErr (grErr g) 0 g.length else if depsOk g = true then 0 else 9) = (if depsOk g = true then (0 : Int) else 9) := by rw [fe_none hall];simp
 rw [hV]
 clear hge hi hall hV
 have k0 := le_tt (show (0 : Int) ≤ (g.length : Int) by omega)
 have k1 := le_tt (show ((g.length : Int) * ((24 : Nat) : Int)) ≤ 140737488355328 by omega)
 have k2 := le_tt (show (g.length : Int) ≤ 9223372036854775807 by omega)
 replace hR := hide hR
 replace hok := hide hok
 replace hb2 := hide hb2
 repeat' (first
  | (simp -implicitDefEqProofs only [*,Int.le_refl,zr,Nat.reduceAdd,Nat.reduceSub,Nat.reduceMul,Nat.reduceLT,Nat.reduceLeDiff,Nat.reduceEqDiff,Nat.reduceBEq,reduceIte,reduceCtorEq,Int.reduceLE,Int.reduceLT,Int.reduceToNat,Int.reduceEq,Int.reduceNe])
  | ((first|apply zk0|apply zk1|apply zk2|apply zk3|apply zk4|apply zk5|apply zk6|apply zk7|apply zk8|apply zk9) <;> intro hc)
  |(refine callP0 rfl ?_)
  |(refine callD0 rfl ?_)
  | fail)
 have q45 : ∀ D U r,lookH 45 (fam2 45 48 D U r) = (1,some (.cells (famC 20000 D))) := fun D U r => l2_i
 have q48 : ∀ D U r,lookH 48 (fam2 45 48 D U r) = (1,some (.cells (famC 30000 U))) := fun D U r => l2_j (by simp)
 have q50 : ∀ D U r,lookH 50 (fam2 45 48 D U r) = lookH 50 r := fun D U r => l2_lit (by simp) (by simp) (by decide)
 have q83 : ∀ D U r,lookH 83 (fam2 45 48 D U r) = lookH 83 r := fun D U r => l2_lit (by simp) (by simp) (by decide)
 have q99 : ∀ D U r,lookH 99 (fam2 45 48 D U r) = lookH 99 r := fun D U r => l2_lit (by simp) (by simp) (by decide)
 have q9 : ∀ D U r,lookH 9 (fam2 45 48 D U r) = lookH 9 r := fun D U r => l2_lit (by simp) (by simp) (by decide)
 refine ax_loopU (S := Nat) 105 [0,7,51,52] [] (fun s => [(53,.f (.int .i64 s))]) (fun s => fam2 45 48 (RF (dTo (allDeps g) g.length s)) (RF (usTo (allDeps g) g.length s)) [(50,1,.cells [.f (.fr 6 (g.map fNode)),.sl 45 1 1 0 g.length,.sl 48 1 1 0 g.length])]) (fun s => s ≤ g.length ∧ ∀ (m : Nat) x,m < s → g[m]? = some x → x.2.2.1.all (nHas g) = true) (fun s => g.length - s) 0 (famI 20000 g.length ++ famI 30000 g.length) ?_ ?_ fun s hs => ?_
 ·exact ⟨Nat.zero_le _,fun m x h => absurd h (Nat.not_lt_zero _)⟩
 ·have e1 : RF (dTo (allDeps g) g.length 0) = List.replicate g.length [] := by simp [RF,dTo]
  have e2 : RF (usTo (allDeps g) g.length 0) = List.replicate g.length [] := by simp [RF,usTo]
  simp only [List.map_nil,List.append_nil]
  rw [e1,e2]
  have m45 : (45 ∈ famI 20000 g.length ++ famI 30000 g.length) = False := famI_nm (by decide)
  have m48 : (48 ∈ famI 20000 g.length ++ famI 30000 g.length) = False := famI_nm (by decide)
  have m50 : (50 ∈ famI 20000 g.length ++ famI 30000 g.length) = False := famI_nm (by decide)
  refine wk_born2 rfl (by repeat (first|exact small_mk rfl | refine small_upd rfl ?_)) (by decide) (by decide) (by simp) hl rfl ⟨rfl,rfl,rfl,rfl,rfl⟩ rfl rfl ?_ ?_
  ·simp only [q45,q48,q50,m45,m48,m50,zw,Nat.reduceEqDiff,Nat.reduceBEq,Nat.reduceLT,Nat.reduceLeDiff,reduceIte,reduceCtorEq]
  ·have c50 := famI_no (N := g.length) (show 50 < 20000 by decide)
   simp only [q45,q48,q50,m45,m48,m50,c50,zw,Nat.reduceEqDiff,Nat.reduceBEq,Nat.reduceLT,Nat.reduceLeDiff,reduceIte,reduceCtorEq]
 obtain ⟨hi,hall⟩ := hs
 simp only [List.map_nil,List.append_nil]
 rcases Nat.lt_or_ge s g.length with hlt | hge
 ·refine srun_sound 300 _ _ _ _ ?_
  obtain ⟨x,hx⟩ := get_some hlt
  have h4 := inc64 hlt hb1
  have h2 := lt_t hlt
  repeat' (first
   | (simp -implicitDefEqProofs only [*,List.getElem?_map,Option.map_some,fNode,frStrs,zr,Nat.reduceAdd,Nat.reduceSub,Nat.reduceMul,Nat.reduceLT,Nat.reduceLeDiff,Nat.reduceEqDiff,Nat.reduceBEq,reduceIte,reduceCtorEq,Int.reduceLE,Int.reduceLT,Int.reduceToNat,Int.reduceEq,Int.reduceNe])
   | ((first|apply zk0|apply zk1|apply zk2|apply zk3|apply zk4|apply zk5|apply zk6|apply zk7|apply zk8|apply zk9) <;> intro hc)
   |(refine callP0 rfl ?_)
   |(refine callD0 rfl ?_)
   | fail)
  have hDl : (allDeps g).length = g.length := by simp [allDeps]
  have hDs : (allDeps g)[s]? = some (depsOf g x) := by rw [allDeps,List.getElem?_map,hx];rfl
  have hll := ck_deps (hok.out x (List.mem_of_getElem? hx))
  refine ax_loopU (S := Nat) 105 [0,7,8,51,52,53,59,60] [] (fun j => [(61,.f (.int .i64 j))]) (fun j => fam2 45 48 (RF (dIn (allDeps g) g.length s j)) (RF (uIn (allDeps g) g.length s j)) [(50,1,.cells [.f (.fr 6 (g.map fNode)),.sl 45 1 1 0 g.length,.sl 48 1 1 0 g.length])]) (fun j => j ≤ x.2.2.1.length ∧ ∀ (m : Nat) t,m < j → x.2.2.1[m]? = some t → nHas g t = true) (fun j => x.2.2.1.length - j) 0 [] ?_ ?_ fun j hj => ?_
  ·exact ⟨Nat.zero_le _,fun m x h => absurd h (Nat.not_lt_zero _)⟩
  ·simp only [List.map_nil,List.append_nil]
   rw [dIn_0 hDl hlt,uIn_0]
   have z1 : (RF (dTo (allDeps g) g.length s)).length ≤ 1000 := by rw [rf_len,dTo_len hDl hi];exact hl
   have z2 : (RF (usTo (allDeps g) g.length s)).length ≤ 1000 := by rw [rf_len,usTo_len];exact hl
   refine wk_stay2 rfl (by repeat (first|exact small_fam2 (by decide) (by decide) (by omega) (by omega) rfl | refine small_upd rfl ?_)) (by decide) (by decide) (by simp) z1 z2 rfl ?_ ?_ ?_ (fun k y hy => ?_) (fun k y hy => ?_) ?_ ?_
   ·exact ptEq_of fun q hq => by (repeat rw [upd_ne _ _ _ _ (by omega)]);rw [mkH_at,mkH_at,l2_big (by decide) (by decide) (by omega) (by omega) hq];(try rfl)
   ·simp only [upd_get,Nat.reduceEqDiff,reduceIte,mkH_at];rw [q45]
   ·simp only [upd_get,Nat.reduceEqDiff,reduceIte,mkH_at];rw [q48]
   ·simp only [upd_get,Nat.reduceEqDiff,reduceIte,mkH_at];rw [l2_d (by decide) (by decide) hy]
   ·simp only [upd_get,Nat.reduceEqDiff,reduceIte,mkH_at];rw [l2_u (by decide) (by decide) (by omega) hy]
   ·simp only [q45,q48,q50,zw,Nat.reduceEqDiff,Nat.reduceBEq,Nat.reduceLT,Nat.reduceLeDiff,reduceIte,reduceCtorEq]
   ·simp only [q45,q48,q50,zw,Nat.reduceEqDiff,Nat.reduceBEq,Nat.reduceLT,Nat.reduceLeDiff,reduceIte,reduceCtorEq]
  obtain ⟨hj1,hj2⟩ := hj
  simp only [List.map_nil,List.append_nil]
  refine srun_sound 300 _ _ _ _ ?_
  rcases Nat.lt_or_ge j x.2.2.1.length with hlt2 | hge2
  ·obtain ⟨t,ht⟩ := get_some hlt2
   have hA := at_f g t (by omega) hR.out
   have g4 := inc64 hlt2 (by omega)
   have g2 := lt_t hlt2
   unfold atV at hA
   cases hh : nHas g t
   ·rw [hh] at hA
    have hz : depsOk g = false := by
     rw [← Bool.not_eq_true]
     intro h
     have := List.all_eq_true.1 (List.all_eq_true.1 h x (List.mem_of_getElem? hx)) t (List.mem_of_getElem? ht)
     rw [hh] at this;cases this
    rw [if_neg (by simp)] at hA
    rw [hz,if_neg (by decide),if_neg (by decide)]
    replace hA := hide hA
    clear hok hall hj2 h4 g4 hb2
    repeat' (first
     | (simp -implicitDefEqProofs only [*,List.getElem?_map,Option.map_some,zr,Nat.reduceAdd,Nat.reduceSub,Nat.reduceMul,Nat.reduceLT,Nat.reduceLeDiff,Nat.reduceEqDiff,Nat.reduceBEq,reduceIte,reduceCtorEq,Int.reduceLE,Int.reduceLT,Int.reduceToNat,Int.reduceEq,Int.reduceNe])
     | ((first|apply zk0|apply zk1|apply zk2|apply zk3|apply zk4|apply zk5|apply zk6|apply zk7|apply zk8|apply zk9) <;> intro hc)
     |(refine callP0 rfl ?_)
     |(refine callD0 rfl ?_)
     |(refine cP (hA.out) ?_)
     |(refine cD (hA.out) ?_)
     |(refine cF (hA.out) ?_)
     | fail)
    exact ret_vve rfl rfl
   ·rw [hh,if_pos rfl] at hA
    have hk := nIdx_lt hR.out hh
    have hks : (depsOf g x)[j]? = some (nIdx g t) := by rw [depsOf,List.getElem?_map,ht];rfl
    generalize nIdx g t = k at hA hk hks
    obtain ⟨ys,hys⟩ := get_some (l := uIn (allDeps g) g.length s j) (i := k) (by rw [uIn_len];exact hk)
    have hxs := dIn_at (j := j) hDl hlt hDs
    have e1 := dIn_step (n := g.length) hDs hks
    have e2 := uIn_step hDs hks hys
    have hyl : ys.length ≤ 300 * s + 300 := uIn_rows (fun r hr => by
     obtain ⟨n,hn,rfl⟩ := List.mem_map.1 hr
     rw [depsOf,List.length_map];exact ck_deps (hok.out n hn)) ys (List.mem_of_getElem? hys)
    have w1 := rf_at hxs
    have w2 := rf_at hys
    have w3 : (RF (dIn (allDeps g) g.length s j)).length = g.length := by rw [rf_len,dIn_len hDl hlt]
    have w4 : (RF (uIn (allDeps g) g.length s j)).length = g.length := by rw [rf_len,uIn_len]
    replace e1 := congrArg RF e1
    replace e2 := congrArg RF e2
    rw [rf_set,List.map_append] at e1 e2
    have hxl : (((depsOf g x).take j).map fN).length ≤ 300 := by rw [List.length_map,List.length_take,depsOf,List.length_map];omega
    replace hyl : (ys.map fN).length ≤ 300 * s + 300 := by rw [List.length_map];exact hyl
    generalize ((depsOf g x).take j).map fN = xs at *
    generalize ys.map fN = ys at *
    generalize RF (dIn (allDeps g) g.length s j) = DD at *
    generalize RF (uIn (allDeps g) g.length s j) = UU at *
    have fd := famC_get 20000 _ s _ w1
    have fu := famC_get 30000 _ k _ w2
    have fdl : (famC 20000 DD).length = g.length := by rw [famC_len,w3]
    have ful : (famC 30000 UU).length = g.length := by rw [famC_len,w4]
    have rD : ∀ r,lookH (s + 20000) (fam2 45 48 DD UU r) = (1,some (.cells (xs.map .f))) := fun r => l2_d (by decide) (by decide) w1
    have rU : ∀ r,lookH (k + 30000) (fam2 45 48 DD UU r) = (1,some (.cells (ys.map .f))) := fun r => l2_u (by decide) (by decide) (by omega) w2
    have hk' : decide (k < g.length) = true := dec_t hk
    have hk0 : decide ((k : Int) < 0) = false := dec_f (by omega)
    replace hall := hide hall
    replace hj2 := hide hj2
    clear hks hys hxs hb2 hok
    have kx := nle_t (show (xs.length + 1) * 8 ≤ 140737488355328 by omega)
    have ky := nle_t (show (ys.length + 1) * 8 ≤ 140737488355328 by omega)
    have kx' := nle_t (show s + 1 ≤ g.length by omega)
    have ky' := nle_t (show k + 1 ≤ g.length by omega)
    have c1 : (k + 30000 == s + 20000) = false := by rw [beq_eq_false_iff_ne];omega
    have c2 : (s + 20000 == k + 30000) = false := by rw [beq_eq_false_iff_ne];omega
    have c3 : (k + 10000 = s) = False := by rw [eq_iff_iff,iff_false];omega
    have c4 : (s = k + 10000) = False := by rw [eq_iff_iff,iff_false];omega
    repeat' (first
     | (simp -implicitDefEqProofs only [*,List.getElem?_map,Option.map_some,fam_b1,fam_b2,zr,Nat.reduceAdd,Nat.reduceSub,Nat.reduceMul,Nat.reduceLT,Nat.reduceLeDiff,Nat.reduceEqDiff,Nat.reduceBEq,reduceIte,reduceCtorEq,Int.reduceLE,Int.reduceLT,Int.reduceToNat,Int.reduceEq,Int.reduceNe])
     | ((first|apply zk0|apply zk1|apply zk2|apply zk3|apply zk4|apply zk5|apply zk6|apply zk7|apply zk8|apply zk9) <;> intro hc)
     |(refine callP0 rfl ?_)
     |(refine callD0 rfl ?_)
     |(refine cP (hA) ?_)
     |(refine cD (hA) ?_)
     |(refine cF (hA) ?_)
     | fail)
    refine ⟨j + 1,⟨hlt2,fun m u hm hu => ?_⟩,by omega,?_⟩
    ·rcases Nat.lt_or_ge m j with h | h
     ·exact hj2.out m u h hu
     ·obtain rfl : m = j := by omega
      rw [ht] at hu;obtain rfl := Option.some.inj hu;exact hh
    ·rw [e1,e2]
     have hok1 : okId (s + 20000) = true := by simp [okId];omega
     have hok2 : okId (k + 30000) = true := by simp [okId];omega
     have hd1 : DD.length ≤ 10000 := by omega
     have hu1 : UU.length ≤ 10000 := by omega
     refine wk_push2 (u := fN k) (v := fN s) rfl (by refine small_upd rfl (small_upd hok2 (small_upd rfl (small_upd rfl (small_upd hok1 (small_upd rfl (small_fam2 (by decide) (by decide) hd1 hu1 rfl))))))) (by decide) (by decide) (by simp) (by omega) (by omega) rfl ?_ w1 w2 ?_ ?_ (fun m y hm hy => ?_) (fun m y hm hy => ?_) ?_ ?_ ?_ ?_
     ·exact ptEq_of fun q hq => by (repeat rw [upd_ne _ _ _ _ (by omega)]);rw [mkH_at,mkH_at,l2_big (by decide) (by decide) hd1 hu1 hq];(try rfl)
     ·simp only [upd_get,Nat.reduceEqDiff,reduceIte,mkH_at]
     ·simp only [upd_get,Nat.reduceEqDiff,reduceIte,mkH_at]
     ·simp only [upd_get,Nat.reduceEqDiff,reduceIte,mkH_at];have hm2 := (List.getElem?_eq_some_iff.1 hy).1;rw [w3] at hm2;rw [if_neg (by omega),if_neg (by omega),l2_d (by decide) (by decide) hy]
     ·simp only [upd_get,Nat.reduceEqDiff,reduceIte,mkH_at];rw [if_neg (by omega),if_neg (by omega),l2_u (by decide) (by decide) hd1 hy]
     ·simp only [upd_get,Nat.reduceEqDiff,reduceIte,mkH_at,c1,c2,c3,c4];rfl
     ·simp only [upd_get,Nat.reduceEqDiff,reduceIte,mkH_at,c1,c2,c3,c4];rfl
     ·simp only [q45,q48,q50,zw,Nat.reduceEqDiff,Nat.reduceBEq,Nat.reduceLT,Nat.reduceLeDiff,reduceIte,reduceCtorEq]
     ·simp only [q45,q48,q50,zw,Nat.reduceEqDiff,Nat.reduceBEq,Nat.reduceLT,Nat.reduceLeDiff,reduceIte,reduceCtorEq]
  obtain rfl : j = x.2.2.1.length := by omega
  have g2 := lt_f hge2
  have hdl : (depsOf g x).length ≤ x.2.2.1.length := by rw [depsOf,List.length_map];exact Nat.le_refl _
  rw [dIn_all hDl hlt hDs hdl,uIn_all hDs hdl]
  have z1 : (RF (dTo (allDeps g) g.length (s + 1))).length ≤ 1000 := by rw [rf_len,dTo_len hDl hlt];exact hl
  have z2 : (RF (usTo (allDeps g) g.length (s + 1))).length ≤ 1000 := by rw [rf_len,usTo_len];exact hl
  replace hall := hide hall
  replace hj2 := hide hj2
  repeat' (first
   | (simp -implicitDefEqProofs only [*,zr,Nat.reduceAdd,Nat.reduceSub,Nat.reduceMul,Nat.reduceLT,Nat.reduceLeDiff,Nat.reduceEqDiff,Nat.reduceBEq,reduceIte,reduceCtorEq,Int.reduceLE,Int.reduceLT,Int.reduceToNat,Int.reduceEq,Int.reduceNe])
   | ((first|apply zk0|apply zk1|apply zk2|apply zk3|apply zk4|apply zk5|apply zk6|apply zk7|apply zk8|apply zk9) <;> intro hc)
   |(refine callP0 rfl ?_)
   |(refine callD0 rfl ?_)
   | fail)
  refine ⟨s + 1,⟨hlt,fun m y hm hy => ?_⟩,by omega,?_⟩
  ·rcases Nat.lt_or_ge m s with h | h
   ·exact hall.out m y h hy
   ·obtain rfl : m = s := by omega
    rw [hx] at hy;obtain rfl := Option.some.inj hy
    rw [List.all_eq_true];intro t ht
    obtain ⟨q,hq⟩ := List.mem_iff_getElem?.1 ht
    exact hj2.out q t (List.getElem?_eq_some_iff.1 hq).1 hq
  ·refine wk_stay2 rfl (small_fam2 (by decide) (by decide) (by omega) (by omega) rfl) (by decide) (by decide) (by simp) z1 z2 rfl ?_ ?_ ?_ (fun k y hy => ?_) (fun k y hy => ?_) ?_ ?_
   ·exact ptEq_of fun q hq => by rw [mkH_at,mkH_at,l2_big (by decide) (by decide) (by omega) (by omega) hq];(try rfl)
   ·rw [mkH_at,q45]
   ·rw [mkH_at,q48]
   ·rw [mkH_at,l2_d (by decide) (by decide) hy]
   ·rw [mkH_at,l2_u (by decide) (by decide) (by omega) hy]
   ·simp only [q45,q48,q50,zw,Nat.reduceEqDiff,Nat.reduceBEq,Nat.reduceLT,Nat.reduceLeDiff,reduceIte,reduceCtorEq]
   ·simp only [q45,q48,q50,zw,Nat.reduceEqDiff,Nat.reduceBEq,Nat.reduceLT,Nat.reduceLeDiff,reduceIte,reduceCtorEq]
 obtain rfl : s = g.length := by omega
 have h2 := lt_f hge
 have hDl : (allDeps g).length = g.length := by simp [allDeps]
 have hok2 : depsOk g = true := List.all_eq_true.2 fun n hn => by
  obtain ⟨m,hm⟩ := List.mem_iff_getElem?.1 hn
  exact hall m n (List.getElem?_eq_some_iff.1 hm).1 hm
 rw [hok2,if_pos rfl,if_pos rfl,dTo_full hDl]
 have hUl : (usTo (allDeps g) g.length g.length).length = g.length := usTo_len _ _ _
 unfold netOf
 generalize usTo (allDeps g) g.length g.length = U at *
 generalize allDeps g = D at *
 clear hall hR hok hb2 hok2
 have z1 : (RF D).length ≤ 10000 := by rw [rf_len,hDl];omega
 have z2 : (RF U).length ≤ 10000 := by rw [rf_len,hUl];omega
 refine ax_weak (nw := []) (n := 105) (el := [(53,.f (.int .i64 g.length)),(0,.f (.fr 6 (g.map fNode))),(7,.ptr 50 1 0),(51,.f (.fr 6 (g.map fNode))),(52,.f (.int .i64 g.length))]) (hl := [(45,1,.cells ((D.map frN).map .f)),(48,1,.cells ((U.map frN).map .f)),(50,1,.cells [.f (.fr 6 (g.map fNode)),.sl 45 1 1 0 g.length,.sl 48 1 1 0 g.length])]) ?_ ?_
 ·refine ⟨rfl,small_fam2 (by decide) (by decide) z1 z2 rfl,rfl,rfl,?_,?_,⟨?_,?_,?_,trivial⟩⟩
  ·exact ptEq_of fun q hq => by rw [mkH_at,mkH_at,l2_big (by decide) (by decide) z1 z2 hq,lookH_cons,if_neg (by omega),lookH_cons,if_neg (by omega),lookH_cons,if_neg (by omega),lookH_cons,if_neg (by omega)]
  ·simp only [q45,q48,q50,zw,Nat.reduceEqDiff,Nat.reduceBEq,Nat.reduceLT,Nat.reduceLeDiff,reduceIte,reduceCtorEq]
  ·rw [if_neg (by simp)]
   refine ⟨_,by rw [mkH_at,q45],?_⟩
   rw [← rf_fr D]
   exact fam_frozen (fun k r hr => by rw [mkH_at,l2_d (by decide) (by decide) hr]) fun k r hr => by simp only [mkH_at,lookH_cons,lookH_nil,Nat.reduceEqDiff,reduceIte]
  ·rw [if_neg (by simp)]
   refine ⟨_,by rw [mkH_at,q48],?_⟩
   rw [← rf_fr U]
   exact fam_frozen (fun k r hr => by rw [mkH_at,l2_u (by decide) (by decide) z1 hr]) fun k r hr => by simp only [mkH_at,lookH_cons,lookH_nil,Nat.reduceEqDiff,reduceIte]
  ·simp only [q45,q48,q50,zw,Nat.reduceEqDiff,Nat.reduceBEq,Nat.reduceLT,Nat.reduceLeDiff,reduceIte,reduceCtorEq]
 refine ax_weak (nw := []) (n := 105) (el := [(53,.f (.int .i64 g.length)),(0,.f (.fr 6 (g.map fNode))),(7,.ptr 50 1 0),(51,.f (.fr 6 (g.map fNode))),(52,.f (.int .i64 g.length))]) (hl := [(50,1,.cells [.f (.fr 6 (g.map fNode)),.f (frRows D),.f (frRows U)])]) ?_ ?_
 ·have s1 : SlotOk (mkH [(45,1,.cells ((D.map frN).map .f)),(48,1,.cells ((U.map frN).map .f)),(50,1,.cells [.f (.fr 6 (g.map fNode)),.sl 45 1 1 0 g.length,.sl 48 1 1 0 g.length])]) (mkH [(50,1,.cells [.f (.fr 6 (g.map fNode)),.f (frRows D),.f (frRows U)])]) [] (.sl 45 1 1 0 g.length) (.f (frRows D)) := by rw [frRows_eq D];exact so_cells1 (l := D.map frN) rfl rfl (by rw [List.length_map];exact hDl)
  have s2 : SlotOk (mkH [(45,1,.cells ((D.map frN).map .f)),(48,1,.cells ((U.map frN).map .f)),(50,1,.cells [.f (.fr 6 (g.map fNode)),.sl 45 1 1 0 g.length,.sl 48 1 1 0 g.length])]) (mkH [(50,1,.cells [.f (.fr 6 (g.map fNode)),.f (frRows D),.f (frRows U)])]) [] (.sl 48 1 1 0 g.length) (.f (frRows U)) := by rw [frRows_eq U];exact so_cells1 (l := U.map frN) rfl rfl (by rw [List.length_map];exact hUl)
  refine ⟨rfl,small_mk rfl,rfl,rfl,⟨rfl,rfl,rfl,rfl,rfl⟩,?_,⟨?_,trivial⟩⟩
  ·simp only [zw,Nat.reduceEqDiff,Nat.reduceBEq,Nat.reduceLT,Nat.reduceLeDiff,reduceIte,reduceCtorEq]
  ·rw [if_neg (by simp)]
   exact ⟨_,rfl,.inl rfl,s1,s2,rfl⟩
 refine ax_weak (nw := []) (n := 105) (el := [(53,.f (.int .i64 g.length)),(0,.f (.fr 6 (g.map fNode))),(7,.f (.fp [.fr 6 (g.map fNode),frRows D,frRows U])),(51,.f (.fr 6 (g.map fNode))),(52,.f (.int .i64 g.length))]) (hl := []) ?_ ?_
 ·refine ⟨rfl,small_mk rfl,rfl,rfl,⟨rfl,rfl,rfl,rfl,rfl⟩,⟨by decide,.inl rfl,by decide,.inl rfl,by decide,?_,by decide,.inl rfl,by decide,.inl rfl,trivial⟩,trivial⟩
  exact ⟨rfl,_,rfl,Nat.le_refl _,rfl⟩
 refine srun_sound 300 _ _ _ _ ?_
 repeat' (first
  | (simp -implicitDefEqProofs only [*,zr,Nat.reduceAdd,Nat.reduceSub,Nat.reduceMul,Nat.reduceLT,Nat.reduceLeDiff,Nat.reduceEqDiff,Nat.reduceBEq,reduceIte,reduceCtorEq,Int.reduceLE,Int.reduceLT,Int.reduceToNat,Int.reduceEq,Int.reduceNe])
  | ((first|apply zk0|apply zk1|apply zk2|apply zk3|apply zk4|apply zk5|apply zk6|apply zk7|apply zk8|apply zk9) <;> intro hc)
  |(refine callP0 rfl ?_)
  |(refine callD0 rfl ?_)
  | fail)
 exact ret_vve rfl rfl
end Go.Proofs.YtagkdifaldikgaaGreatDoor
