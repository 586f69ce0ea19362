/-
  Nodes of a graph on the machine: their checks; the search of a label. No statement of the seat is proved here; no conditions.
-/
import Derived.Test.YtagkdifaldikgaaGreatDoorGrC
import Derived.Test.YtagkdifaldikgaaGreatDoorOrd
namespace Go.Proofs.YtagkdifaldikgaaGreatDoor
open Go.RowKit Go.Shelf
set_option linter.unusedVariables false
set_option linter.unusedSimpArgs false
set_option maxRecDepth 100000

def risErr (p : ByteArray → Bool) (l : List ByteArray) (i : Nat) : Int := match l[i]? with
 | none => 0
 | some d => if p d = true then prevV l i (fun e => if leS d e = true then 8 else 0) else 3
theorem risErr_of {p : ByteArray → Bool} {l : List ByteArray} {i : Nat} {d : ByteArray} (h : l[i]? = some d) : risErr p l i = if p d = true then prevV l i (fun e => if leS d e = true then 8 else 0) else 3 := by unfold risErr;rw [h]
def risV (p : ByteArray → Bool) (l : List ByteArray) : Int := firstErr (risErr p l) 0 l.length
theorem rising_f (fn : FuncId) (p : ByteArray → Bool) (l : List ByteArray) (hl : (l.length : Int) ≤ 9223372036854775807) (hf : ∀ d ∈ l,FRet Tryz.prog fn [.f (.str d)] [.c (.v (.bool (p d)))]) : FRet Tryz.prog 67 [.f (frStrs l),.f (.fn (.func fn))] [.c (.v (.int .i64 (risV p l)))] := by
 refine FCall.of_ax low_graph_rising ?_
 dsimp only [l_graph_rising,frStrs]
 refine srun_sound 300 _ _ _ _ ?_
 repeat' (first
  | (simp -implicitDefEqProofs only [*,zr,Nat.reduceAdd,Nat.reduceSub,Nat.reduceMul,Nat.reduceLT,Nat.reduceLeDiff,Nat.reduceEqDiff,Nat.reduceBEq,reduceIte,reduceCtorEq,Int.reduceLE,Int.reduceLT,Int.reduceToNat,Int.reduceEq,Int.reduceNe])
  | ((first|apply zk0|apply zk1|apply zk2|apply zk3|apply zk4|apply zk5|apply zk6|apply zk7|apply zk8|apply zk9) <;> intro hc)
  |(refine callP0 rfl ?_)
  |(refine callD0 rfl ?_)
  | fail)
 refine ax_loopU (S := Nat) 30 [0,1,7,8] [] (fun s => [(9,.f (.int .i64 s))]) (fun s => []) (fun s => s ≤ l.length ∧ ∀ m,m < s → risErr p l m = 0) (fun s => l.length - s) (0) [] ?_ ?_ fun s hs => ?_
 ·exact ⟨Nat.zero_le _,fe_0⟩
 ·refine wk_i ?_ ?_ <;> simp only [zw,Nat.reduceEqDiff,Nat.reduceBEq,Nat.reduceLT,Nat.reduceLeDiff,reduceIte,reduceCtorEq]
 obtain ⟨hi,hall⟩ := hs
 refine srun_sound 300 _ _ _ _ ?_
 rcases Nat.lt_or_ge s l.length with hlt | hge
 ·obtain ⟨x,hx⟩ := get_some hlt
  have h4 := inc64 hlt hl
  have hE := risErr_of (p := p) hx
  have h2 := lt_t hlt
  have h6 := dec64' hlt hl
  obtain ⟨y,hy,hfy⟩ := prev_of hx
  rw [hfy] at hE
  clear hfy
  unfold leS at hE
  have hF := hf x (List.mem_of_getElem? hx)
  generalize p x = px at hF hE
  replace hF := hide hF
  replace hf := hide hf
  cases px
  ·repeat' (first
    | (simp -implicitDefEqProofs only [*,List.getElem?_map,Option.map_some,zr,Nat.reduceAdd,Nat.reduceSub,Nat.reduceMul,Nat.reduceLT,Nat.reduceLeDiff,Nat.reduceEqDiff,Nat.reduceBEq,reduceIte,reduceCtorEq,Int.reduceLE,Int.reduceLT,Int.reduceToNat,Int.reduceEq,Int.reduceNe])
    | ((first|apply zk0|apply zk1|apply zk2|apply zk3|apply zk4|apply zk5|apply zk6|apply zk7|apply zk8|apply zk9) <;> intro hc)
    |(refine callP0 rfl ?_)
    |(refine callD0 rfl ?_)
    |(refine cP (hF.out) ?_)
    |(refine cD (hF.out) ?_)
    |(refine cF (hF.out) ?_)
    | fail)
   all_goals simp only [*,if_true,if_false,Bool.false_eq_true] at hE
   all_goals exact ret_ve (by rw [risV,fe_hit hall hlt (by rw [hE];decide),hE])
  ·repeat' (first
    | (simp -implicitDefEqProofs only [*,List.getElem?_map,Option.map_some,zr,Nat.reduceAdd,Nat.reduceSub,Nat.reduceMul,Nat.reduceLT,Nat.reduceLeDiff,Nat.reduceEqDiff,Nat.reduceBEq,reduceIte,reduceCtorEq,Int.reduceLE,Int.reduceLT,Int.reduceToNat,Int.reduceEq,Int.reduceNe])
    | ((first|apply zk0|apply zk1|apply zk2|apply zk3|apply zk4|apply zk5|apply zk6|apply zk7|apply zk8|apply zk9) <;> intro hc)
    |(refine callP0 rfl ?_)
    |(refine callD0 rfl ?_)
    |(refine cP (hF.out) ?_)
    |(refine cD (hF.out) ?_)
    |(refine cF (hF.out) ?_)
    | fail)
   all_goals simp only [*,if_true,if_false,Bool.false_eq_true] at hE
   all_goals first
    | exact ret_ve (by rw [risV,fe_hit hall hlt (by rw [hE];decide),hE])
    |(refine ⟨s + 1,⟨hlt,fe_step hall hE⟩,by omega,?_⟩;refine wk_i ?_ ?_ <;> simp only [zw,Nat.reduceEqDiff,Nat.reduceBEq,Nat.reduceLT,Nat.reduceLeDiff,reduceIte,reduceCtorEq])
 ·replace hf := hide hf
  have h2 := lt_f hge
  obtain rfl : s = l.length := by omega
  rw [risV,fe_none hall]
  clear hall
  repeat' (first
   | (simp -implicitDefEqProofs only [*,zr,Nat.reduceAdd,Nat.reduceSub,Nat.reduceMul,Nat.reduceLT,Nat.reduceLeDiff,Nat.reduceEqDiff,Nat.reduceBEq,reduceIte,reduceCtorEq,Int.reduceLE,Int.reduceLT,Int.reduceToNat,Int.reduceEq,Int.reduceNe])
   | ((first|apply zk0|apply zk1|apply zk2|apply zk3|apply zk4|apply zk5|apply zk6|apply zk7|apply zk8|apply zk9) <;> intro hc)
   |(refine callP0 rfl ?_)
   |(refine callD0 rfl ?_)
   | fail)
  exact ret_v
abbrev Node := ByteArray × ByteArray × List ByteArray × List ByteArray × List ByteArray × Int
def fNode (n : Node) : List FV := [.str n.1,.str n.2.1,frStrs n.2.2.1,frStrs n.2.2.2.1,frStrs n.2.2.2.2.1,.int .i64 n.2.2.2.2.2]
def ckNode (n : Node) : Int :=
 if isWholeV n.1 = false then 3 else if isNameV n.2.1 = false then 5 else if (300 : Int) < n.2.2.1.length then 2 else if risV isWholeV n.2.2.1 ≠ 0 then risV isWholeV n.2.2.1
 else if (1000 : Int) < n.2.2.2.1.length then 2 else if risV isPathV n.2.2.2.1 ≠ 0 then risV isPathV n.2.2.2.1
 else if (50 : Int) < n.2.2.2.2.1.length then 2 else if risV isPatV n.2.2.2.2.1 ≠ 0 then risV isPatV n.2.2.2.2.1
 else if (decide (n.2.2.2.2.2 < 0) || decide (1000000 < n.2.2.2.2.2)) = true then 1 else 0
structure NBound (n : Node) : Prop where
 lab : (n.1.size : Int) ≤ 140737488355328
 dl : (n.2.2.1.length : Int) ≤ 9223372036854775807
 ds : ∀ d ∈ n.2.2.1,(d.size : Int) ≤ 140737488355328
 fl : (n.2.2.2.1.length : Int) ≤ 9223372036854775807
 sl : (n.2.2.2.2.1.length : Int) ≤ 9223372036854775807
 ss : ∀ d ∈ n.2.2.2.2.1,(d.size : Int) ≤ 140737488355328
set_option maxHeartbeats 2000000 in
theorem checkNode_f (n : Node) (hb : NBound n) : FRet Tryz.prog 45 [.agg ((fNode n).map .f)] [.c (.v (.int .i64 (ckNode n)))] := by
 have k1 := isWhole_f n.1 hb.lab
 have k2 := isName_f n.2.1
 have k3 := rising_f 37 isWholeV n.2.2.1 hb.dl (fun d hd => isWhole_f d (hb.ds d hd))
 have k4 := rising_f 55 isPathV n.2.2.2.1 hb.fl (fun d _ => isPath_f d)
 have k5 := rising_f 39 isPatV n.2.2.2.2.1 hb.sl (fun d hd => isPat_f d (hb.ss d hd))
 clear hb
 obtain ⟨lb,kd,dp,fl,se,wk⟩ := n
 refine FCall.of_ax low_graph_checkNode ?_
 dsimp only [l_graph_checkNode,fNode]
 refine srun_sound 300 _ _ _ _ ?_
 unfold ckNode
 simp only at k1 k2 k3 k4 k5 ⊢
 generalize isWholeV lb = b1 at *
 generalize isNameV kd = b2 at *
 generalize risV isWholeV dp = e3 at *
 generalize risV isPathV fl = e4 at *
 generalize risV isPatV se = e5 at *
 replace k1 := hide k1
 replace k2 := hide k2
 replace k3 := hide k3
 replace k4 := hide k4
 replace k5 := hide k5
 cases b1
 ·repeat' (first
   | (simp -implicitDefEqProofs only [*,zr,Nat.reduceAdd,Nat.reduceSub,Nat.reduceMul,Nat.reduceLT,Nat.reduceLeDiff,Nat.reduceEqDiff,Nat.reduceBEq,reduceIte,reduceCtorEq,Int.reduceLE,Int.reduceLT,Int.reduceToNat,Int.reduceEq,Int.reduceNe])
   | ((first|apply zk0|apply zk1|apply zk2|apply zk3|apply zk4|apply zk5|apply zk6|apply zk7|apply zk8|apply zk9) <;> intro hc)
   |(refine callP0 rfl ?_)
   |(refine callD0 rfl ?_)
   |(refine cP (k1.out) ?_)
   |(refine cD (k1.out) ?_)
   |(refine cF (k1.out) ?_)
   | fail)
  exact ret_ve rfl
 cases b2
 ·repeat' (first
   | (simp -implicitDefEqProofs only [*,zr,Nat.reduceAdd,Nat.reduceSub,Nat.reduceMul,Nat.reduceLT,Nat.reduceLeDiff,Nat.reduceEqDiff,Nat.reduceBEq,reduceIte,reduceCtorEq,Int.reduceLE,Int.reduceLT,Int.reduceToNat,Int.reduceEq,Int.reduceNe])
   | ((first|apply zk0|apply zk1|apply zk2|apply zk3|apply zk4|apply zk5|apply zk6|apply zk7|apply zk8|apply zk9) <;> intro hc)
   |(refine callP0 rfl ?_)
   |(refine callD0 rfl ?_)
   |(refine cP (k1.out) ?_)
   |(refine cD (k1.out) ?_)
   |(refine cF (k1.out) ?_)
   |(refine cP (k2.out) ?_)
   |(refine cD (k2.out) ?_)
   |(refine cF (k2.out) ?_)
   | fail)
  exact ret_ve rfl
 by_cases h3 : (300 : Int) < dp.length
 ·have d3 := dec_t h3
  rw [if_neg (by decide),if_neg (by decide),if_pos h3]
  clear h3
  repeat' (first
   | (simp -implicitDefEqProofs only [*,frStrs,zr,Nat.reduceAdd,Nat.reduceSub,Nat.reduceMul,Nat.reduceLT,Nat.reduceLeDiff,Nat.reduceEqDiff,Nat.reduceBEq,reduceIte,reduceCtorEq,Int.reduceLE,Int.reduceLT,Int.reduceToNat,Int.reduceEq,Int.reduceNe])
   | ((first|apply zk0|apply zk1|apply zk2|apply zk3|apply zk4|apply zk5|apply zk6|apply zk7|apply zk8|apply zk9) <;> intro hc)
   |(refine callP0 rfl ?_)
   |(refine callD0 rfl ?_)
   |(refine cP (k1.out) ?_)
   |(refine cD (k1.out) ?_)
   |(refine cF (k1.out) ?_)
   |(refine cP (k2.out) ?_)
   |(refine cD (k2.out) ?_)
   |(refine cF (k2.out) ?_)
   | fail)
  exact ret_ve rfl
 have d3 := dec_f h3
 rw [if_neg (by decide),if_neg (by decide),if_neg h3]
 clear h3
 by_cases q3 : e3 = 0
 case neg =>
  have x3 := dec_f q3
  rw [if_pos q3]
  clear q3
  repeat' (first
   | (simp -implicitDefEqProofs only [*,frStrs,zr,Nat.reduceAdd,Nat.reduceSub,Nat.reduceMul,Nat.reduceLT,Nat.reduceLeDiff,Nat.reduceEqDiff,Nat.reduceBEq,reduceIte,reduceCtorEq,Int.reduceLE,Int.reduceLT,Int.reduceToNat,Int.reduceEq,Int.reduceNe])
   | ((first|apply zk0|apply zk1|apply zk2|apply zk3|apply zk4|apply zk5|apply zk6|apply zk7|apply zk8|apply zk9) <;> intro hc)
   |(refine callP0 rfl ?_)
   |(refine callD0 rfl ?_)
   |(refine cP (k1.out) ?_)
   |(refine cD (k1.out) ?_)
   |(refine cF (k1.out) ?_)
   |(refine cP (k2.out) ?_)
   |(refine cD (k2.out) ?_)
   |(refine cF (k2.out) ?_)
   |(refine cP (k3.out) ?_)
   |(refine cD (k3.out) ?_)
   |(refine cF (k3.out) ?_)
   | fail)
  exact ret_ve rfl
 subst q3
 rw [if_neg (by simp)]
 by_cases h4 : (1000 : Int) < fl.length
 ·have d4 := dec_t h4
  rw [if_pos h4]
  clear h4
  repeat' (first
   | (simp -implicitDefEqProofs only [*,frStrs,zr,Nat.reduceAdd,Nat.reduceSub,Nat.reduceMul,Nat.reduceLT,Nat.reduceLeDiff,Nat.reduceEqDiff,Nat.reduceBEq,reduceIte,reduceCtorEq,Int.reduceLE,Int.reduceLT,Int.reduceToNat,Int.reduceEq,Int.reduceNe])
   | ((first|apply zk0|apply zk1|apply zk2|apply zk3|apply zk4|apply zk5|apply zk6|apply zk7|apply zk8|apply zk9) <;> intro hc)
   |(refine callP0 rfl ?_)
   |(refine callD0 rfl ?_)
   |(refine cP (k1.out) ?_)
   |(refine cD (k1.out) ?_)
   |(refine cF (k1.out) ?_)
   |(refine cP (k2.out) ?_)
   |(refine cD (k2.out) ?_)
   |(refine cF (k2.out) ?_)
   |(refine cP (k3.out) ?_)
   |(refine cD (k3.out) ?_)
   |(refine cF (k3.out) ?_)
   | fail)
  exact ret_ve rfl
 have d4 := dec_f h4
 rw [if_neg h4]
 clear h4
 by_cases q4 : e4 = 0
 case neg =>
  have x4 := dec_f q4
  rw [if_pos q4]
  clear q4
  repeat' (first
   | (simp -implicitDefEqProofs only [*,frStrs,zr,Nat.reduceAdd,Nat.reduceSub,Nat.reduceMul,Nat.reduceLT,Nat.reduceLeDiff,Nat.reduceEqDiff,Nat.reduceBEq,reduceIte,reduceCtorEq,Int.reduceLE,Int.reduceLT,Int.reduceToNat,Int.reduceEq,Int.reduceNe])
   | ((first|apply zk0|apply zk1|apply zk2|apply zk3|apply zk4|apply zk5|apply zk6|apply zk7|apply zk8|apply zk9) <;> intro hc)
   |(refine callP0 rfl ?_)
   |(refine callD0 rfl ?_)
   |(refine cP (k1.out) ?_)
   |(refine cD (k1.out) ?_)
   |(refine cF (k1.out) ?_)
   |(refine cP (k2.out) ?_)
   |(refine cD (k2.out) ?_)
   |(refine cF (k2.out) ?_)
   |(refine cP (k3.out) ?_)
   |(refine cD (k3.out) ?_)
   |(refine cF (k3.out) ?_)
   |(refine cP (k4.out) ?_)
   |(refine cD (k4.out) ?_)
   |(refine cF (k4.out) ?_)
   | fail)
  exact ret_ve rfl
 subst q4
 rw [if_neg (by simp)]
 by_cases h5 : (50 : Int) < se.length
 ·have d5 := dec_t h5
  rw [if_pos h5]
  clear h5
  repeat' (first
   | (simp -implicitDefEqProofs only [*,frStrs,zr,Nat.reduceAdd,Nat.reduceSub,Nat.reduceMul,Nat.reduceLT,Nat.reduceLeDiff,Nat.reduceEqDiff,Nat.reduceBEq,reduceIte,reduceCtorEq,Int.reduceLE,Int.reduceLT,Int.reduceToNat,Int.reduceEq,Int.reduceNe])
   | ((first|apply zk0|apply zk1|apply zk2|apply zk3|apply zk4|apply zk5|apply zk6|apply zk7|apply zk8|apply zk9) <;> intro hc)
   |(refine callP0 rfl ?_)
   |(refine callD0 rfl ?_)
   |(refine cP (k1.out) ?_)
   |(refine cD (k1.out) ?_)
   |(refine cF (k1.out) ?_)
   |(refine cP (k2.out) ?_)
   |(refine cD (k2.out) ?_)
   |(refine cF (k2.out) ?_)
   |(refine cP (k3.out) ?_)
   |(refine cD (k3.out) ?_)
   |(refine cF (k3.out) ?_)
   |(refine cP (k4.out) ?_)
   |(refine cD (k4.out) ?_)
   |(refine cF (k4.out) ?_)
   | fail)
  exact ret_ve rfl
 have d5 := dec_f h5
 rw [if_neg h5]
 clear h5
 by_cases q5 : e5 = 0
 case neg =>
  have x5 := dec_f q5
  rw [if_pos q5]
  clear q5
  repeat' (first
   | (simp -implicitDefEqProofs only [*,frStrs,zr,Nat.reduceAdd,Nat.reduceSub,Nat.reduceMul,Nat.reduceLT,Nat.reduceLeDiff,Nat.reduceEqDiff,Nat.reduceBEq,reduceIte,reduceCtorEq,Int.reduceLE,Int.reduceLT,Int.reduceToNat,Int.reduceEq,Int.reduceNe])
   | ((first|apply zk0|apply zk1|apply zk2|apply zk3|apply zk4|apply zk5|apply zk6|apply zk7|apply zk8|apply zk9) <;> intro hc)
   |(refine callP0 rfl ?_)
   |(refine callD0 rfl ?_)
   |(refine cP (k1.out) ?_)
   |(refine cD (k1.out) ?_)
   |(refine cF (k1.out) ?_)
   |(refine cP (k2.out) ?_)
   |(refine cD (k2.out) ?_)
   |(refine cF (k2.out) ?_)
   |(refine cP (k3.out) ?_)
   |(refine cD (k3.out) ?_)
   |(refine cF (k3.out) ?_)
   |(refine cP (k4.out) ?_)
   |(refine cD (k4.out) ?_)
   |(refine cF (k4.out) ?_)
   |(refine cP (k5.out) ?_)
   |(refine cD (k5.out) ?_)
   |(refine cF (k5.out) ?_)
   | fail)
  exact ret_ve rfl
 subst q5
 rw [if_neg (by simp)]
 generalize w1 : decide (wk < 0) = c1
 generalize w2 : decide (1000000 < wk) = c2
 cases c1 <;> cases c2
 repeat' (first
  | (simp -implicitDefEqProofs only [*,frStrs,zr,Nat.reduceAdd,Nat.reduceSub,Nat.reduceMul,Nat.reduceLT,Nat.reduceLeDiff,Nat.reduceEqDiff,Nat.reduceBEq,reduceIte,reduceCtorEq,Int.reduceLE,Int.reduceLT,Int.reduceToNat,Int.reduceEq,Int.reduceNe])
  | ((first|apply zk0|apply zk1|apply zk2|apply zk3|apply zk4|apply zk5|apply zk6|apply zk7|apply zk8|apply zk9) <;> intro hc)
  |(refine callP0 rfl ?_)
  |(refine callD0 rfl ?_)
  |(refine cP (k1.out) ?_)
  |(refine cD (k1.out) ?_)
  |(refine cF (k1.out) ?_)
  |(refine cP (k2.out) ?_)
  |(refine cD (k2.out) ?_)
  |(refine cF (k2.out) ?_)
  |(refine cP (k3.out) ?_)
  |(refine cD (k3.out) ?_)
  |(refine cF (k3.out) ?_)
  |(refine cP (k4.out) ?_)
  |(refine cD (k4.out) ?_)
  |(refine cF (k4.out) ?_)
  |(refine cP (k5.out) ?_)
  |(refine cD (k5.out) ?_)
  |(refine cF (k5.out) ?_)
  | fail)
 all_goals exact ret_ve rfl
end Go.Proofs.YtagkdifaldikgaaGreatDoor
