/-
  The document's begin, data, take, Take and Offset. No statement of the seat is proved here; no conditions.
-/
import Derived.Test.YtjacnfjlocajoaaDoorRw3
namespace Go.Proofs.YtjacnfjlocajoaaDoor
open Go.RowKit Go.Shelf
set_option linter.unusedVariables false
set_option linter.unusedSimpArgs false
set_option maxRecDepth 100000

structure TkOk (D : List Ob) (P : List Pt) : Prop where
 d : D.length ≤ 4000
 rd : Rising kOb D
 p : P.length ≤ 1000
 rp : Rising kPt P
theorem ROk.tk {D : List Ob} {P : List Pt} (h : ROk (D,P)) : TkOk D P := ⟨h.d.len,h.d.rise,by have := h.p.len;simp only at this;omega,h.p.rise⟩
set_option maxHeartbeats 8000000 in
theorem begin_z (D : List Ob) (P : List Pt) (m : Mg) (h : TkOk D P) : FRet Tryd.prog 62 [aRc (D,P),aMg m] (rRM (beginR D P m.2.1 m.2.2.2.1)) := by
 obtain ⟨hD,hrD,hP,hrP⟩ := h
 obtain ⟨mk,t,fr,sz,b⟩ := m
 dsimp only
 have kp := partOf_f (D,P) t (by dsimp only;omega)
 dsimp only at kp
 have key : ∀ Q : List Pt,Q.length ≤ 1000 → Rising kPt Q → Hide (FRet Tryd.prog 78 [aRc (D,Q),.f (.str t),.f (frB [])] (rRM (wholeR D Q t []))) ∧ Hide (FRet Tryd.prog 79 [aRc (D,Q),.agg ((fPt (t,sz,[])).map .f)] [.agg [.v (frObs D),.v (frPts (putR Q (t,sz,[])))]]) := fun Q h1 h2 => ⟨hide (whole_z D Q t [] hD hrD h1 (by simp)),hide (withPart_z D Q (t,sz,[]) h1 h2)⟩
 unfold beginR
 refine FCall.frz (FCall.of_ax low_ref8_begin ?_)
 dsimp only [l_ref8_begin,aMg,fMg,List.map]
 refine srun_sound 300 _ _ _ _ ?_
 rcases part_ix hrP t with ⟨e1,e2⟩ | ⟨i,p,e1,e2,e3,e4⟩
 ·rw [e1]
  rw [e2] at kp
  dsimp only
  obtain ⟨k1,k2⟩ := key P hP hrP
  replace hrD := hide hrD
  replace hrP := hide hrP
  replace e1 := hide e1
  replace e2 := hide e2
  clear key
  have i1 : decide ((-1 : Int) ≥ 0) = false := rfl
  unfold begR2
  by_cases c1 : sz = 0
  ·rw [if_pos c1]
   have d1 := dcT c1
   generalize wholeR D P t [] = V at *
   obtain ⟨q,⟨E,F⟩,a1,a2,a3,a4,a5⟩ := V
   replace c1 := hide c1
   dsimp only [rRM,fMg,List.map,aRc,rInt] at k1 kp ⊢
   repeat' (first
    | (simp -implicitDefEqProofs only [*,zr,Nat.reduceAdd,Nat.reduceSub,Nat.reduceMul,Nat.reduceLT,Nat.reduceLeDiff,Nat.reduceEqDiff,Nat.reduceBEq,reduceIte,reduceCtorEq,Int.reduceLE,Int.reduceLT,Int.reduceToNat,Int.reduceEq,Int.reduceNe])
    | ((first|apply zk0|apply zk1|apply zk2|apply zk3|apply zk4|apply zk5|apply zk6|apply zk7|apply zk8|apply zk9) <;> intro hc)
    |(refine callP0 rfl ?_)
    |(refine callD0 rfl ?_)
    |(refine cP (kp) ?_)
    |(refine cD (kp) ?_)
    |(refine cF (kp) ?_)
    |(refine cP (k1.out) ?_)
    |(refine cD (k1.out) ?_)
    |(refine cF (k1.out) ?_)
    | fail)
   exact z_vv
  rw [if_neg c1]
  have d1 := dcF c1
  replace c1 := hide c1
  by_cases c2 : 100 ≤ P.length
  ·rw [if_pos c2]
   have d2 : decide ((P.length : Int) ≥ 100) = true := dcT (by omega)
   have d2' : decide (100 ≤ (P.length : Int)) = true := dcT (by omega)
   clear k1 k2
   dsimp only [aRc,frPts] at kp ⊢
   repeat' (first
    | (simp -implicitDefEqProofs only [*,List.length_map,zr,Nat.reduceAdd,Nat.reduceSub,Nat.reduceMul,Nat.reduceLT,Nat.reduceLeDiff,Nat.reduceEqDiff,Nat.reduceBEq,reduceIte,reduceCtorEq,Int.reduceLE,Int.reduceLT,Int.reduceToNat,Int.reduceEq,Int.reduceNe])
    | ((first|apply zk0|apply zk1|apply zk2|apply zk3|apply zk4|apply zk5|apply zk6|apply zk7|apply zk8|apply zk9) <;> intro hc)
    |(refine callP0 rfl ?_)
    |(refine callD0 rfl ?_)
    |(refine cP (kp) ?_)
    |(refine cD (kp) ?_)
    |(refine cF (kp) ?_)
    | fail)
   exact z_ff (P := P)
  rw [if_neg c2]
  have d2 : decide ((P.length : Int) ≥ 100) = false := dcF (by omega)
  have d2' : decide (100 ≤ (P.length : Int)) = false := dcF (by omega)
  by_cases c3 : 100000 < sz
  ·rw [if_pos c3]
   have d3 : decide (sz > 100000) = true := dcT c3
   have d3' : decide (100000 < sz) = true := dcT c3
   clear k1 k2
   dsimp only [aRc,frPts] at kp ⊢
   repeat' (first
    | (simp -implicitDefEqProofs only [*,List.length_map,zr,Nat.reduceAdd,Nat.reduceSub,Nat.reduceMul,Nat.reduceLT,Nat.reduceLeDiff,Nat.reduceEqDiff,Nat.reduceBEq,reduceIte,reduceCtorEq,Int.reduceLE,Int.reduceLT,Int.reduceToNat,Int.reduceEq,Int.reduceNe])
    | ((first|apply zk0|apply zk1|apply zk2|apply zk3|apply zk4|apply zk5|apply zk6|apply zk7|apply zk8|apply zk9) <;> intro hc)
    |(refine callP0 rfl ?_)
    |(refine callD0 rfl ?_)
    |(refine cP (kp) ?_)
    |(refine cD (kp) ?_)
    |(refine cF (kp) ?_)
    | fail)
   exact z_ff (P := P)
  rw [if_neg c3]
  have d3 : decide (sz > 100000) = false := dcF c3
  have d3' : decide (100000 < sz) = false := dcF c3
  clear k1
  dsimp only [aRc,frPts,fPt,List.map] at kp k2 ⊢
  generalize putR P (t,sz,[]) = F at *
  repeat' (first
   | (simp -implicitDefEqProofs only [*,List.length_map,zr,Nat.reduceAdd,Nat.reduceSub,Nat.reduceMul,Nat.reduceLT,Nat.reduceLeDiff,Nat.reduceEqDiff,Nat.reduceBEq,reduceIte,reduceCtorEq,Int.reduceLE,Int.reduceLT,Int.reduceToNat,Int.reduceEq,Int.reduceNe])
   | ((first|apply zk0|apply zk1|apply zk2|apply zk3|apply zk4|apply zk5|apply zk6|apply zk7|apply zk8|apply zk9) <;> intro hc)
   |(refine callP0 rfl ?_)
   |(refine callD0 rfl ?_)
   |(refine cP (kp) ?_)
   |(refine cD (kp) ?_)
   |(refine cF (kp) ?_)
   |(refine cP (k2.out) ?_)
   |(refine cD (k2.out) ?_)
   |(refine cF (k2.out) ?_)
   | fail)
  exact z_ff (P := F)
 ·rw [e1]
  rw [e2] at kp
  dsimp only
  have kw := without_z D P t hP
  have hDl : (delF P t).length ≤ P.length := List.length_filter_le _ _
  obtain ⟨k1,k2⟩ := key (delF P t) (by omega) (delF_rise hrP)
  replace hrD := hide hrD
  replace hrP := hide hrP
  replace e1 := hide e1
  replace e2 := hide e2
  replace e4 := hide e4
  clear key
  have i1 : decide ((i : Int) ≥ 0) = true := by simp
  have i2 : ((i : Int) < (P.length : Int)) := by have := (List.getElem?_eq_some_iff.1 e3).1;omega
  obtain ⟨pd,ps,pb⟩ := p
  dsimp only
  by_cases c0 : ps = sz
  ·rw [if_pos c0]
   have d0 := dcT c0
   replace c0 := hide c0
   clear k1 k2 kw
   dsimp only [aRc,frPts] at kp ⊢
   repeat' (first
    | (simp -implicitDefEqProofs only [*,List.getElem?_map,Option.map_some,List.length_map,fPt,frB,zr,Nat.reduceAdd,Nat.reduceSub,Nat.reduceMul,Nat.reduceLT,Nat.reduceLeDiff,Nat.reduceEqDiff,Nat.reduceBEq,reduceIte,reduceCtorEq,Int.reduceLE,Int.reduceLT,Int.reduceToNat,Int.reduceEq,Int.reduceNe])
    | ((first|apply zk0|apply zk1|apply zk2|apply zk3|apply zk4|apply zk5|apply zk6|apply zk7|apply zk8|apply zk9) <;> intro hc)
    |(refine callP0 rfl ?_)
    |(refine callD0 rfl ?_)
    |(refine cP (kp) ?_)
    |(refine cD (kp) ?_)
    |(refine cF (kp) ?_)
    | fail)
   exact z_ff (P := P)
  rw [if_neg c0]
  have d0 := dcF c0
  replace c0 := hide c0
  unfold begR2
  generalize delF P t = Q at *
  by_cases c1 : sz = 0
  ·rw [if_pos c1]
   have d1 := dcT c1
   generalize wholeR D Q t [] = V at *
   obtain ⟨q,⟨E,F⟩,a1,a2,a3,a4,a5⟩ := V
   replace c1 := hide c1
   dsimp only [rRM,fMg,List.map,aRc,rInt,frPts] at k1 kp kw ⊢
   repeat' (first
    | (simp -implicitDefEqProofs only [*,List.getElem?_map,Option.map_some,List.length_map,fPt,zr,Nat.reduceAdd,Nat.reduceSub,Nat.reduceMul,Nat.reduceLT,Nat.reduceLeDiff,Nat.reduceEqDiff,Nat.reduceBEq,reduceIte,reduceCtorEq,Int.reduceLE,Int.reduceLT,Int.reduceToNat,Int.reduceEq,Int.reduceNe])
    | ((first|apply zk0|apply zk1|apply zk2|apply zk3|apply zk4|apply zk5|apply zk6|apply zk7|apply zk8|apply zk9) <;> intro hc)
    |(refine callP0 rfl ?_)
    |(refine callD0 rfl ?_)
    |(refine cP (kp) ?_)
    |(refine cD (kp) ?_)
    |(refine cF (kp) ?_)
    |(refine cP (kw) ?_)
    |(refine cD (kw) ?_)
    |(refine cF (kw) ?_)
    |(refine cP (k1.out) ?_)
    |(refine cD (k1.out) ?_)
    |(refine cF (k1.out) ?_)
    | fail)
   exact z_vv (P := F)
  rw [if_neg c1]
  have d1 := dcF c1
  replace c1 := hide c1
  by_cases c2 : 100 ≤ Q.length
  ·rw [if_pos c2]
   have d2 : decide ((Q.length : Int) ≥ 100) = true := dcT (by omega)
   have d2' : decide (100 ≤ (Q.length : Int)) = true := dcT (by omega)
   clear k1 k2
   dsimp only [aRc,frPts] at kp kw ⊢
   repeat' (first
    | (simp -implicitDefEqProofs only [*,List.getElem?_map,Option.map_some,List.length_map,fPt,zr,Nat.reduceAdd,Nat.reduceSub,Nat.reduceMul,Nat.reduceLT,Nat.reduceLeDiff,Nat.reduceEqDiff,Nat.reduceBEq,reduceIte,reduceCtorEq,Int.reduceLE,Int.reduceLT,Int.reduceToNat,Int.reduceEq,Int.reduceNe])
    | ((first|apply zk0|apply zk1|apply zk2|apply zk3|apply zk4|apply zk5|apply zk6|apply zk7|apply zk8|apply zk9) <;> intro hc)
    |(refine callP0 rfl ?_)
    |(refine callD0 rfl ?_)
    |(refine cP (kp) ?_)
    |(refine cD (kp) ?_)
    |(refine cF (kp) ?_)
    |(refine cP (kw) ?_)
    |(refine cD (kw) ?_)
    |(refine cF (kw) ?_)
    | fail)
   exact z_ff (P := Q)
  rw [if_neg c2]
  have d2 : decide ((Q.length : Int) ≥ 100) = false := dcF (by omega)
  have d2' : decide (100 ≤ (Q.length : Int)) = false := dcF (by omega)
  by_cases c3 : 100000 < sz
  ·rw [if_pos c3]
   have d3 : decide (sz > 100000) = true := dcT c3
   have d3' : decide (100000 < sz) = true := dcT c3
   clear k1 k2
   dsimp only [aRc,frPts] at kp kw ⊢
   repeat' (first
    | (simp -implicitDefEqProofs only [*,List.getElem?_map,Option.map_some,List.length_map,fPt,zr,Nat.reduceAdd,Nat.reduceSub,Nat.reduceMul,Nat.reduceLT,Nat.reduceLeDiff,Nat.reduceEqDiff,Nat.reduceBEq,reduceIte,reduceCtorEq,Int.reduceLE,Int.reduceLT,Int.reduceToNat,Int.reduceEq,Int.reduceNe])
    | ((first|apply zk0|apply zk1|apply zk2|apply zk3|apply zk4|apply zk5|apply zk6|apply zk7|apply zk8|apply zk9) <;> intro hc)
    |(refine callP0 rfl ?_)
    |(refine callD0 rfl ?_)
    |(refine cP (kp) ?_)
    |(refine cD (kp) ?_)
    |(refine cF (kp) ?_)
    |(refine cP (kw) ?_)
    |(refine cD (kw) ?_)
    |(refine cF (kw) ?_)
    | fail)
   exact z_ff (P := Q)
  rw [if_neg c3]
  have d3 : decide (sz > 100000) = false := dcF c3
  have d3' : decide (100000 < sz) = false := dcF c3
  clear k1
  dsimp only [aRc,frPts,List.map] at kp k2 kw ⊢
  generalize putR Q (t,sz,[]) = F at *
  dsimp only [fPt] at k2
  repeat' (first
   | (simp -implicitDefEqProofs only [*,List.getElem?_map,Option.map_some,List.length_map,fPt,zr,Nat.reduceAdd,Nat.reduceSub,Nat.reduceMul,Nat.reduceLT,Nat.reduceLeDiff,Nat.reduceEqDiff,Nat.reduceBEq,reduceIte,reduceCtorEq,Int.reduceLE,Int.reduceLT,Int.reduceToNat,Int.reduceEq,Int.reduceNe])
   | ((first|apply zk0|apply zk1|apply zk2|apply zk3|apply zk4|apply zk5|apply zk6|apply zk7|apply zk8|apply zk9) <;> intro hc)
   |(refine callP0 rfl ?_)
   |(refine callD0 rfl ?_)
   |(refine cP (kp) ?_)
   |(refine cD (kp) ?_)
   |(refine cF (kp) ?_)
   |(refine cP (kw) ?_)
   |(refine cD (kw) ?_)
   |(refine cF (kw) ?_)
   |(refine cP (k2.out) ?_)
   |(refine cD (k2.out) ?_)
   |(refine cF (k2.out) ?_)
   | fail)
  exact z_ff (P := F)
end Go.Proofs.YtjacnfjlocajoaaDoor
