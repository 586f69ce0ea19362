/-
  Graphs on the machine: what is within a distance, what lies between. No statement of the seat is proved here; no conditions.
-/
import Derived.Test.YticefeanlicapaaDoorGrT
namespace Go.Proofs.YticefeanlicapaaDoor
open Go.RowKit Go.Shelf
set_option linter.unusedVariables false
set_option linter.unusedSimpArgs false
set_option maxRecDepth 100000

theorem rowD_lt {n : Nat} {D U : List (List Nat)} (hN : NetOk n D U) (a : Nat) : ∀ k ∈ D.getD a [],k < n := fun k hk => by
 rw [List.getD_eq_getElem?_getD] at hk
 cases e : D[a]? with
 | none => rw [e] at hk;cases hk
 | some r => rw [e] at hk;exact (hN.dr r (List.mem_of_getElem? e)).2 k hk
theorem rowU_lt {n : Nat} {D U : List (List Nat)} (hN : NetOk n D U) (a : Nat) : ∀ k ∈ U.getD a [],k < n := fun k hk => by
 rw [List.getD_eq_getElem?_getD] at hk
 cases e : U[a]? with
 | none => rw [e] at hk;cases hk
 | some r => rw [e] at hk;exact (hN.ur r (List.mem_of_getElem? e)).2 k hk
def inM (F : List Int) (most : Int) (i : Nat) : Bool := decide (0 ≤ F.getD i 0) && (decide (most < 0) || decide (F.getD i 0 ≤ most))
def withinV (E : List (List Nat)) (n : Nat) (from_ : List Nat) (most : Int) : List Nat := (List.range n).filter (inM (stepsV E n from_) most)
theorem within_f (E : List (List Nat)) (from_ : List Nat) (n : Nat) (most : Int) (hE : E.length = n) (hn : n ≤ 1000) (hEr : ∀ r ∈ E,r.length ≤ 300000 ∧ ∀ k ∈ r,k < n) (hf : ∀ k ∈ from_,k < n) (hfl : from_.length ≤ 1000000) :
  FRet Tryd.prog 22 [.f (frRows E),.f (frN from_),.f (.int .i64 most)] [.c (.v (frN (withinV E n from_ most)))] := by
 have hSt := steps_f E from_ n hE hn hEr hf hfl
 have hsl : (stepsV E n from_).length = n := (steps_spec (fun i k hk => by
   rw [List.getD_eq_getElem?_getD] at hk
   cases e : E[i]? with
   | none => rw [e] at hk;cases hk
   | some r => rw [e] at hk;exact (hEr r (List.mem_of_getElem? e)).2 k hk) hf).len
 unfold withinV
 generalize stepsV E n from_ = F at *
 refine FCall.of_ax low_graph_within ?_
 dsimp only [l_graph_within]
 refine srun_sound 300 _ _ _ _ ?_
 replace hEr := hide hEr
 replace hf := hide hf
 repeat' (first
  | (simp -implicitDefEqProofs only [*,frI,zr,Nat.reduceAdd,Nat.reduceSub,Nat.reduceMul,Nat.reduceLT,Nat.reduceLeDiff,Nat.reduceEqDiff,Nat.reduceBEq,reduceIte,reduceCtorEq,Int.reduceLE,Int.reduceLT,Int.reduceToNat,Int.reduceEq,Int.reduceNe])
  | ((first|apply zk0|apply zk1|apply zk2|apply zk3|apply zk4|apply zk5|apply zk6|apply zk7|apply zk8|apply zk9) <;> intro hc)
  |(refine callP0 rfl ?_)
  |(refine callD0 rfl ?_)
  |(refine cP (hSt) ?_)
  |(refine cD (hSt) ?_)
  |(refine cF (hSt) ?_)
  | fail)
 have hlim : ∀ s,s ≤ n → ((List.range s).filter (inM F most)).length ≤ s := fun s hs => by
  have := List.length_filter_le (inM F most) (List.range s)
  rwa [List.length_range] at this
 refine ax_loopU (S := Nat) 36 [2,12,13] [] (fun s => [(7,.sl 33 1 1 0 ((List.range s).filter (inM F most)).length),(14,.f (.int .i64 s))]) (fun s => [(33,1,.cells ((((List.range s).filter (inM F most)).map fN).map .f))]) (fun s => s ≤ n) (fun s => n - s) (0) [33] ?_ ?_ fun s hs => ?_
 ·exact Nat.zero_le _
 ·refine wk_i ?_ ?_ <;> simp only [List.range_zero,List.filter_nil,zw,Nat.reduceEqDiff,Nat.reduceBEq,Nat.reduceLT,Nat.reduceLeDiff,reduceIte,reduceCtorEq]
 rcases Nat.lt_or_ge s n with hlt | hge
 ·refine srun_sound 300 _ _ _ _ ?_
  obtain ⟨z,hz⟩ := get_some (l := F) (i := s) (by omega)
  have h4 := inc64 hlt (by omega)
  have h2 := lt_t hlt
  have hfz : fI z = FV.int .i64 z := rfl
  have hL := hlim s hs
  have hnx : (List.range (s + 1)).filter (inM F most) = (List.range s).filter (inM F most) ++ (if inM F most s = true then [s] else []) := by
   rw [List.range_succ,List.filter_append,List.filter_cons,List.filter_nil]
  have hin : inM F most s = (decide (0 ≤ z) && (decide (most < 0) || decide (z ≤ most))) := by unfold inM;rw [getD_some hz]
  have hst : (((List.range s).filter (inM F most)).map fN).map AV.f ++ [.f (.int .i64 s)] = ((((List.range s).filter (inM F most)) ++ [s]).map fN).map AV.f := by simp [fN]
  have hlen : (((List.range s).filter (inM F most)) ++ [s]).length = ((List.range s).filter (inM F most)).length + 1 := by simp
  replace hlim := hide hlim
  generalize (List.range s).filter (inM F most) = L at *
  have hk8 := nle_t (show (L.length + 1) * 8 ≤ 140737488355328 by omega)
  cases q1 : decide (0 ≤ z) <;> cases q2 : decide (most < 0) <;> cases q3 : decide (z ≤ most)
  all_goals (
   rw [q1,q2,q3] at hin
   simp only [Bool.and_true,Bool.true_and,Bool.and_false,Bool.false_and,Bool.or_true,Bool.or_false] at hin
   rw [hin] at hnx
   replace hin := hide hin)
  all_goals (first|(rw [if_pos rfl] at hnx) | (rw [if_neg (by decide),List.append_nil] at hnx))
  all_goals replace hnx := hide hnx
  repeat' (first
   | (simp -implicitDefEqProofs only [*,List.getElem?_map,Option.map_some,zr,Nat.reduceAdd,Nat.reduceSub,Nat.reduceMul,Nat.reduceLT,Nat.reduceLeDiff,Nat.reduceEqDiff,Nat.reduceBEq,reduceIte,reduceCtorEq,Int.reduceLE,Int.reduceLT,Int.reduceToNat,Int.reduceEq,Int.reduceNe])
   | ((first|apply zk0|apply zk1|apply zk2|apply zk3|apply zk4|apply zk5|apply zk6|apply zk7|apply zk8|apply zk9) <;> intro hc)
   |(refine callP0 rfl ?_)
   |(refine callD0 rfl ?_)
   | fail)
  all_goals (refine ⟨s + 1,hlt,by omega,?_⟩;rw [hnx.out])
  all_goals (try rw [hlen])
  all_goals refine wk_i ?_ ?_ <;> simp only [hst,zw,Nat.reduceEqDiff,Nat.reduceBEq,Nat.reduceLT,Nat.reduceLeDiff,reduceIte,reduceCtorEq]
 obtain rfl : s = n := by omega
 have h2 := lt_f hge
 refine ax_weak (nw := []) (n := 36) (el := [(7,.f (frN ((List.range s).filter (inM F most)))),(13,.f (.int .i64 s)),(14,.f (.int .i64 s))]) (hl := []) ?_ ?_
 ·refine ⟨rfl,small_mk rfl,rfl,rfl,⟨rfl,rfl,rfl,rfl,rfl⟩,⟨by decide,?_,by decide,?_,by decide,.inl rfl,trivial⟩,trivial⟩
  ·have hso : ∀ L : List Nat,SlotOk (mkH [(33,1,.cells ((L.map fN).map .f))]) (mkH []) [] (.sl 33 1 1 0 L.length) (.f (frN L)) := fun L => by
    rw [frN_eq];exact so_cells1 (l := L.map fN) rfl rfl (List.length_map _)
   exact hso _
  ·rw [← hsl];exact .inl rfl
 refine srun_sound 300 _ _ _ _ ?_
 repeat' (first
  | (simp -implicitDefEqProofs only [*,frN,zr,Nat.reduceAdd,Nat.reduceSub,Nat.reduceMul,Nat.reduceLT,Nat.reduceLeDiff,Nat.reduceEqDiff,Nat.reduceBEq,reduceIte,reduceCtorEq,Int.reduceLE,Int.reduceLT,Int.reduceToNat,Int.reduceEq,Int.reduceNe])
  | ((first|apply zk0|apply zk1|apply zk2|apply zk3|apply zk4|apply zk5|apply zk6|apply zk7|apply zk8|apply zk9) <;> intro hc)
  |(refine callP0 rfl ?_)
  |(refine callD0 rfl ?_)
  | fail)
 exact ret_ve rfl
def btP (Fd Fu : List Int) (i : Nat) : Bool := decide (0 ≤ Fd.getD i 0) && decide (0 ≤ Fu.getD i 0)
def btwL (D U : List (List Nat)) (n : Nat) (a b : List Nat) : List Nat := (List.range n).filter (btP (stepsV D n a) (stepsV U n b))
theorem betweenL_f (g : Graph) (D U : List (List Nat)) (a b : List Nat) (hN : NetOk g.length D U) (ha : ∀ k ∈ a,k < g.length) (hb : ∀ k ∈ b,k < g.length) (hal : a.length ≤ 1000000) (hbl : b.length ≤ 1000000) : FRet Tryd.prog 23 [.f (fNet g D U),.f (frN a),.f (frN b)] [.c (.v (frN (btwL D U g.length a b)))] := by
 have hS1 := steps_f D a g.length hN.dl hN.nl (fun r hr => by have := hN.dr r hr;exact ⟨by omega,this.2⟩) ha hal
 have hS2 := steps_f U b g.length hN.ul hN.nl (fun r hr => hN.ur r hr) hb hbl
 have hl1 := (steps_spec (E := D) (from_ := a) (rowD_lt hN) ha).len
 have hl2 := (steps_spec (E := U) (from_ := b) (rowU_lt hN) hb).len
 have hn := hN.nl
 unfold btwL
 generalize stepsV D g.length a = F at *
 generalize stepsV U g.length b = G at *
 refine FCall.of_ax low_graph_net_between ?_
 dsimp only [l_graph_net_between,fNet]
 refine srun_sound 300 _ _ _ _ ?_
 replace hN := hide hN
 repeat' (first
  | (simp -implicitDefEqProofs only [*,frI,frNodes,zr,Nat.reduceAdd,Nat.reduceSub,Nat.reduceMul,Nat.reduceLT,Nat.reduceLeDiff,Nat.reduceEqDiff,Nat.reduceBEq,reduceIte,reduceCtorEq,Int.reduceLE,Int.reduceLT,Int.reduceToNat,Int.reduceEq,Int.reduceNe])
  | ((first|apply zk0|apply zk1|apply zk2|apply zk3|apply zk4|apply zk5|apply zk6|apply zk7|apply zk8|apply zk9) <;> intro hc)
  |(refine callP0 rfl ?_)
  |(refine callD0 rfl ?_)
  |(refine cP (hS1) ?_)
  |(refine cD (hS1) ?_)
  |(refine cF (hS1) ?_)
  |(refine cP (hS2) ?_)
  |(refine cD (hS2) ?_)
  |(refine cF (hS2) ?_)
  | fail)
 have hlim : ∀ s,s ≤ g.length → ((List.range s).filter (btP F G)).length ≤ s := fun s hs => by
  have := List.length_filter_le (btP F G) (List.range s)
  rwa [List.length_range] at this
 refine ax_loopU (S := Nat) 49 [7,8,27] [] (fun s => [(9,.sl 46 1 1 0 ((List.range s).filter (btP F G)).length),(28,.f (.int .i64 s))]) (fun s => [(46,1,.cells ((((List.range s).filter (btP F G)).map fN).map .f))]) (fun s => s ≤ g.length) (fun s => g.length - s) (0) [46] ?_ ?_ fun s hs => ?_
 ·exact Nat.zero_le _
 ·refine wk_i ?_ ?_ <;> simp only [List.range_zero,List.filter_nil,zw,Nat.reduceEqDiff,Nat.reduceBEq,Nat.reduceLT,Nat.reduceLeDiff,reduceIte,reduceCtorEq]
 rcases Nat.lt_or_ge s g.length with hlt | hge
 ·refine srun_sound 300 _ _ _ _ ?_
  obtain ⟨z,hz⟩ := get_some (l := F) (i := s) (by omega)
  obtain ⟨y,hy⟩ := get_some (l := G) (i := s) (by omega)
  have h4 := inc64 hlt (by omega)
  have h2 := lt_t hlt
  have hfz : fI z = FV.int .i64 z := rfl
  have hfy : fI y = FV.int .i64 y := rfl
  have hL := hlim s hs
  have hnx : (List.range (s + 1)).filter (btP F G) = (List.range s).filter (btP F G) ++ (if btP F G s = true then [s] else []) := by
   rw [List.range_succ,List.filter_append,List.filter_cons,List.filter_nil]
  have hin : btP F G s = (decide (0 ≤ z) && decide (0 ≤ y)) := by unfold btP;rw [getD_some hz,getD_some hy]
  have hst : (((List.range s).filter (btP F G)).map fN).map AV.f ++ [.f (.int .i64 s)] = ((((List.range s).filter (btP F G)) ++ [s]).map fN).map AV.f := by simp [fN]
  have hlen : (((List.range s).filter (btP F G)) ++ [s]).length = ((List.range s).filter (btP F G)).length + 1 := by simp
  replace hlim := hide hlim
  generalize (List.range s).filter (btP F G) = L at *
  have hk8 := nle_t (show (L.length + 1) * 8 ≤ 140737488355328 by omega)
  cases q1 : decide (0 ≤ z) <;> cases q2 : decide (0 ≤ y)
  all_goals (
   rw [q1,q2] at hin
   simp only [Bool.and_true,Bool.true_and,Bool.and_false,Bool.false_and] at hin
   rw [hin] at hnx
   replace hin := hide hin)
  all_goals (first|(rw [if_pos rfl] at hnx) | (rw [if_neg (by decide),List.append_nil] at hnx))
  all_goals replace hnx := hide hnx
  repeat' (first
   | (simp -implicitDefEqProofs only [*,List.getElem?_map,Option.map_some,zr,Nat.reduceAdd,Nat.reduceSub,Nat.reduceMul,Nat.reduceLT,Nat.reduceLeDiff,Nat.reduceEqDiff,Nat.reduceBEq,reduceIte,reduceCtorEq,Int.reduceLE,Int.reduceLT,Int.reduceToNat,Int.reduceEq,Int.reduceNe])
   | ((first|apply zk0|apply zk1|apply zk2|apply zk3|apply zk4|apply zk5|apply zk6|apply zk7|apply zk8|apply zk9) <;> intro hc)
   |(refine callP0 rfl ?_)
   |(refine callD0 rfl ?_)
   | fail)
  all_goals (refine ⟨s + 1,hlt,by omega,?_⟩;rw [hnx.out])
  all_goals (try rw [hlen])
  all_goals refine wk_i ?_ ?_ <;> simp only [hst,zw,Nat.reduceEqDiff,Nat.reduceBEq,Nat.reduceLT,Nat.reduceLeDiff,reduceIte,reduceCtorEq]
 obtain rfl : s = g.length := by omega
 have h2 := lt_f hge
 refine ax_weak (nw := []) (n := 49) (el := [(9,.f (frN ((List.range g.length).filter (btP F G)))),(27,.f (.int .i64 g.length)),(28,.f (.int .i64 g.length))]) (hl := []) ?_ ?_
 ·refine ⟨rfl,small_mk rfl,rfl,rfl,⟨rfl,rfl,rfl,rfl,rfl⟩,⟨by decide,?_,by decide,.inl rfl,by decide,.inl rfl,trivial⟩,trivial⟩
  have hso : ∀ L : List Nat,SlotOk (mkH [(46,1,.cells ((L.map fN).map .f))]) (mkH []) [] (.sl 46 1 1 0 L.length) (.f (frN L)) := fun L => by
   rw [frN_eq];exact so_cells1 (l := L.map fN) rfl rfl (List.length_map _)
  exact hso _
 refine srun_sound 300 _ _ _ _ ?_
 repeat' (first
  | (simp -implicitDefEqProofs only [*,frN,zr,Nat.reduceAdd,Nat.reduceSub,Nat.reduceMul,Nat.reduceLT,Nat.reduceLeDiff,Nat.reduceEqDiff,Nat.reduceBEq,reduceIte,reduceCtorEq,Int.reduceLE,Int.reduceLT,Int.reduceToNat,Int.reduceEq,Int.reduceNe])
  | ((first|apply zk0|apply zk1|apply zk2|apply zk3|apply zk4|apply zk5|apply zk6|apply zk7|apply zk8|apply zk9) <;> intro hc)
  |(refine callP0 rfl ?_)
  |(refine callD0 rfl ?_)
  | fail)
 exact ret_ve rfl
end Go.Proofs.YticefeanlicapaaDoor
